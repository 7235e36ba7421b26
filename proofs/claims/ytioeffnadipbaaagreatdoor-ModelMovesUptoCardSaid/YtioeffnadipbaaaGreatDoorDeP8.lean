import Derived.Test.YtioeffnadipbaaaGreatDoorDeP1
import Derived.Test.YtioeffnadipbaaaGreatDoorDeP6
namespace Go.Rl
open Go Go.Dn
abbrev Gr:=List (List Int)
def Gr.at(L:Gr)(a:Int):List Int:=L.getD a.toNat []
def pO(L:Gr)(e:Int×Int):=bif (L.at e.1).contains e.2 then L else L.set e.1.toNat (L.at e.1++[e.2])
def sK n(E:List _):=E.foldl pO (List.replicate n [])
theorem Cp L e:(pO L e).length=L.length:=by
 grind [pO]
theorem s9: ∀(E:List _) L,(E.foldl pO L).length=L.length
 |[],_=>rfl
 |e::E,L=>by rw[List.foldl_cons,s9 E,Cp]
theorem FW(L:Gr)(a b:Int) x(c:a.toNat<L.length):Gr.at (L.set a.toNat x) b=if a.toNat=b.toNat then x else L.at b:=by
 grind [Gr.at]
theorem OE L e(f:0<=e.1/\e.1.toNat<L.length) a b(g:0<=a):b∈(pO L e).at a↔b∈L.at a\/(a,b)=e:=by
 obtain⟨c,d⟩:=e;unfold pO;cases h:(L.at c).contains d with
 |true=>
  grind
 |false=>
  rw[ao4,FW L c a _ f.2]
  grind
theorem zi: ∀(E:List _) L,(∀e,e∈E->0<=e.1/\e.1.toNat<L.length)->∀a b:Int,0<=a->(b∈Gr.at (E.foldl pO L) a↔b∈L.at a\/(a,b)∈E)
 |[],L,_,a,b,_=>by simp
 |e::E,L,h,a,b,c=>by
  rw[List.foldl_cons,zi E _ fun x d=>by grind [Cp] a b c,OE L e (h e (by simp)) a b c,ap7,or_assoc]
theorem PC: ∀(E:List _) L a,(Gr.at (E.foldl pO L) a).length<=(L.at a).length+E.length
 |[],L,a=>by simp
 | e ::E,L,a=>by
  rw[List.foldl_cons];refine Nat.le_trans (PC E (pO L e) a) ?_;have:((pO L e).at a).length<=(L.at a).length+1:=by
   unfold pO;cases(L.at e.1).contains e.2 with
   |true=>rw[ao6];omega
   | false=>
    rw[ao4];by_cases c:e.1.toNat<L.length
    ·rw[FW L e.1 a _ c]
     by_cases b:e.1.toNat=a.toNat
     ·simp_all[if_pos,ap4,List.length_singleton,Gr.at]
     ·rw[if_neg b];omega
    ·rw[List.set_eq_of_length_le (by omega)];omega
  grind
theorem F1 n a:Gr.at (List.replicate n []) a=[]:=by
 grind [Gr.at]
structure WG(n m:Nat)(L:Gr):Prop where
 len:L.length=n
 le: ∀a,(L.at a).length<=m
 kQ: ∀a,0<=a->∀b,b∈L.at a->0<=b/\b<n
theorem z9{n:Nat}{E:List (Int×Int)}(h: ∀e,e∈E->(0<=e.1/\e.1<n)/\0<=e.2/\e.2<n){a b}(c:0<=a):b∈(sK n E).at a↔(a,b)∈E:=by
 grind [sK,zi,F1]
theorem VB{n:Nat}{E:List (Int×Int)}(h: ∀e,e∈E->(0<=e.1/\e.1<n)/\0<=e.2/\e.2<n):WG n E.length (sK n E):=by
 refine⟨by unfold sK;rw[s9];simp,fun a=>?_,fun a d b c=>?_⟩
 ·grind [PC,F1,sK]
 grind [z9]
inductive uJ (L:Gr):Int->Int->Prop
 |refl (a:Int):uJ L a a
 |step {a b c:Int} (h:b∈L.at a) (k:uJ L b c):uJ L a c
def Rc L a b:=∃c,c∈L.at a/\uJ L c b
theorem uJ.trans{L a b c}(h:uJ L a b)(k:uJ L b c):uJ L a c:=by
 induction h<;>grind [step]
theorem uJ.rc{L a b}(h:uJ L a b):a=b\/Rc L a b:=by
 cases h with
 |refl=>simp
 |step h k=>exact .inr ⟨_,h,k⟩
theorem Rc.trans{L a b c}(h:Rc L a b)(k:Rc L b c):Rc L a c:=by
 obtain⟨d,g,i⟩:=h;obtain⟨e,j,f⟩:=k;exact⟨d,g,i.trans (.step j f)⟩
theorem Rc.step{L a b c}(h:Rc L a b)(k:c∈L.at b):Rc L a c:=h.trans ⟨c,k, .refl c⟩
theorem Rc.mono{L M}(h: ∀a b,0<=a->b∈L.at a->b∈M.at a/\0<=b){a b}(g:0<=a)(k:Rc L a b):Rc M a b:=by
 obtain⟨c,f,i⟩:=k;have st: ∀{x y:Int},uJ L x y->0<=x->uJ M x y:=fun{x y} k=>by
  induction k with
  |refl=>intro _;exact .refl _
  |step e _ j=>intro d;exact .step (h _ _ d e).1 (by grind)
 exact⟨c,by grind,by grind⟩
theorem Rc.kQ{n m L}(e:WG n m L){a b}(f:0<=a)(h:Rc L a b):0<=b/\b<n:=by
 obtain⟨c,d,g⟩:=h;have:=e.kQ a f c d
 clear d;induction g with
 |refl=>grind
 |step h _ i=>exact i (e.kQ _ this.1 _ h)
def fv(l:List Int):Int:=l.getLastD 0
def J4(L:Gr):Nat->List Int->List Int->List Int
 |0,_,a=>a
 |_+1,[],a=>a
 |f+1,t::todo,a=>bif a.contains (fv (t::todo)) then J4 L f (t::todo).dropLast a else J4 L f ((t::todo).dropLast++L.at (fv (t::todo))) (a++[fv (t::todo)])
def jS n:=(List.range n).map fun(k:Nat)=>(k:Int)
theorem lf{n a}:a∈jS n↔0<=a/\a<n:=by
 simp[jS];refine⟨?_,fun h=>⟨a.toNat,by omega,by omega⟩⟩;omega
theorem py{α:Type}{p q}: ∀{l:List α},(∀x,x∈l->p x=true->q x=true)->(∃x,x∈l/\q x=true/\p x=false)->l.countP p<l.countP q
 |[],_,h=>by grind
 | a::l,h,⟨x,b,d,c⟩=>by
  have f:=List.countP_mono_left (l:=l) (p:=p) (q:=q) (by grind);simp only[List.countP_cons];rcases List.mem_cons.1 b with rfl|b
  ·grind
  ·have e:=py (l:=l) (by grind) ⟨x,b,d,c⟩
   grind
def Ew n(a:List _):=(jS n).countP fun x=>!a.contains x
theorem G3 n a:Ew n a<=n:=by
 grind [List.countP_le_length,jS,Ew]
theorem Hm{n:Nat}{a}{b:Int}(c:0<=b/\b<n)(e:a.contains b=false) l(d:b∈l):Ew n (a++l)<Ew n a:=by
 refine py (fun x _ h=>?_) ⟨b,lf.2 c,by grind,by grind⟩
 grind
def ms n m(todo a:List Int):=Ew n a*(m+1)+todo.length
theorem nX{t todo}:fv (t::todo)∈t::todo:=by
 grind [fv]
theorem zc{t todo}:(t::todo).dropLast++[fv (t::todo)]=t::todo:=by
 grind [fv,List.dropLast_concat_getLast]
theorem By n m t todo a:ms n m (t::todo).dropLast a<ms n m (t::todo) a:=by
 grind [ms]
theorem BR{n m L}(e:WG n m L) t todo a(c:0<=fv (t::todo)/\fv (t::todo)<n)(b:a.contains (fv (t::todo))=false):
  ms n m ((t::todo).dropLast++L.at (fv (t::todo))) (a++[fv (t::todo)])<ms n m (t::todo) a:=by
 unfold ms;have d:=Hm c b [fv (t::todo)] (by simp);have g:=e.le (fv (t::todo));have f:=Nat.mul_le_mul_right (m+1) d
 grind
structure Sd(n m:Nat)(todo met:List Int):Prop where
 ht: ∀x,x∈todo->0<=x/\x<n
 hm: ∀x,x∈met->0<=x/\x<n
 le:todo.length+Ew n met*m<=(n+1)*m
theorem Sd.pop{n m t todo a}(h:Sd n m (t::todo) a):Sd n m (t::todo).dropLast a:=
 ⟨fun x b=>h.ht x (List.dropLast_subset _ b),h.hm,by have:=h.le;grind⟩
theorem Sd.add{n m L}(d:WG n m L){t todo a}(h:Sd n m (t::todo) a)(g:a.contains (fv (t::todo))=false):Sd n m ((t::todo).dropLast++L.at (fv (t::todo))) (a++[fv (t::todo)]):=by
 have c:=h.ht _ nX;refine⟨fun x b=>?_,fun x b=>?_,?_⟩
 ·rcases List.mem_append.1 b with b|b
  ·exact h.ht x (List.dropLast_subset _ b)
  ·exact d.kQ _ c.1 x b
 ·rcases List.mem_append.1 b with b|b
  ·exact h.hm x b
  grind
 ·have e:=Hm c g [fv (t::todo)] (by simp)
  have j:=d.le (fv (t::todo));have f:=Nat.mul_le_mul_right m (show Ew n (a++[fv (t::todo)])+1<=Ew n a from e);rw[Nat.add_mul] at f;have i:=h.le
  grind
theorem Sd.start{n m L}(b:WG n m L){a}(d:0<=a):Sd n m (L.at a) []:=
 ⟨fun x c=>b.kQ a d x c,by simp,by
  have f:=b.le a;have e:=Nat.mul_le_mul_right m (G3 n [])
  grind⟩
theorem ru{n m L}(b:WG n m L): ∀f g todo a,Sd n m todo a->ms n m todo a<=f->ms n m todo a<=g->J4 L f todo a=J4 L g todo a
 |0,g,todo,a,_,h,_=>by
  have:todo=[]:=by unfold ms at h;simp_all
  subst this;cases g<;>rfl
 |f+1,0,todo,a,_,_,h=>by
  have:todo=[]:=by unfold ms at h;simp_all
  subst this;rfl
 |f+1,g+1,[],a,_,_,_=>rfl
 | f+1,g+1,t::todo,a,c,e,i=>by
  rw[J4,J4];cases d:a.contains (fv (t::todo)) with
  |true=>
   have:=By n m t todo a
   rw[ao6,ao6];exact ru b f g _ _ c.pop (by omega) (by omega)
  |false=>
   have:=BR b t todo a (c.ht _ nX) d
   exact ru b f g _ _ (c.add b d) (by omega) (by omega)
def xz n m L todo a:=J4 L (ms n m todo a) todo a
theorem DT n m L a:xz n m L [] a=a:=by
 unfold xz;cases ms n m _ _<;>rfl
theorem J1{n m L}(b:WG n m L){t todo a}(c:Sd n m (t::todo) a):
  xz n m L (t::todo) a=bif a.contains (fv (t::todo)) then xz n m L (t::todo).dropLast a else xz n m L ((t::todo).dropLast++L.at (fv (t::todo))) (a++[fv (t::todo)]):=by
 have e:ms n m (t::todo) a=ms n m (t::todo) a - 1+1:=by rfl
 unfold xz;rw[e,J4];cases d:a.contains _ with
 |true=>
  have:=By n m t todo a
  exact ru b _ _ _ _ c.pop (by omega) (Nat.le_refl _)
 |false=>
  have:=BR b t _ _ (c.ht _ nX) d
  exact ru b _ _ _ _ (c.add b d) (by omega) (Nat.le_refl _)
theorem BG{n m L}(g:WG n m L)(P:Int->Prop)(l: ∀x y,P x->y∈L.at x->P y): ∀f todo b,Sd n m todo b->ms n m todo b<=f->(∀x,x∈todo\/x∈b->P x)->(∀x,x∈b->∀y,y∈L.at x->y∈b\/y∈todo)->
  (∀x,x∈J4 L f todo b->P x)/\(∀x,x∈todo\/x∈b->x∈J4 L f todo b)/\∀x,x∈J4 L f todo b->∀y,y∈L.at x->y∈J4 L f todo b
 |0,todo,b,_,h,c,d=>by
  have:todo=[]:=by unfold ms at h;exact List.eq_nil_of_length_eq_zero (by omega)
  subst this;exact⟨fun x a=>c x (.inr a),fun x a=>a.resolve_left (by simp),fun x a y e=>(d x a y e).resolve_right (by simp)⟩
 |f+1,[],b,_,_,c,d=>⟨fun x a=>c x (.inr a),fun x a=>a.resolve_left (by simp),fun x a y e=>(d x a y e).resolve_right (by simp)⟩
 | f +1,t::todo,b,j,h,c,d=>by
  have hd: ∀x,x∈t::todo->x∈(t::todo).dropLast\/x=fv (t::todo):=fun x a=>by
   rw[←zc (t:=t) (todo:=todo)] at a;simpa using a
  rw[J4];cases k:b.contains (fv (t::todo)) with
  | true=>
   have r:fv (t::todo)∈b:=by simpa using k
   have:=By n m t todo b
   rw[ao6];obtain⟨p,i,q⟩:=BG g P l f (t::todo).dropLast b j.pop (by omega) (fun x a=>c x (a.imp (fun h=>List.dropLast_subset _ h) id)) (fun x a y e=>by
    rcases d x a y e with h|h
    ·exact .inl h
    ·rcases hd y h with h|rfl
     ·exact .inr h
     ·exact .inl r)
   refine⟨p,fun x a=>?_,q⟩;rcases a with a|a
   ·rcases hd x a with h|rfl
    ·exact i x (.inl h)
    ·exact i _ (.inr r)
   ·exact i x (.inr a)
  | false=>
   have:=BR g t todo b (j.ht _ nX) k
   have o:=c _ (.inl (nX (t:=t) (todo:=todo)));rw[ao4];obtain⟨p,i,q⟩:=BG g P l f _ _ (j.add g k) (by omega) (fun x a=>by
    rcases a with a|a
    ·rcases List.mem_append.1 a with a|a
     ·exact c x (.inl (List.dropLast_subset _ a))
     ·exact l _ _ o a
    ·rcases List.mem_append.1 a with a|a
     ·exact c x (.inr a)
     ·rw[List.mem_singleton] at a;rw[a];exact o) (by grind)
   grind
def iW n m L a:=xz n m L (L.at a) []
theorem vm{n m L}(d:WG n m L){a b}(f:0<=a):b∈iW n m L a↔Rc L a b:=by
 obtain⟨j,g,q⟩:=BG d (Rc L a) (fun x y h k=>h.step k) _ _ _ (Sd.start d f) (Nat.le_refl _) (fun x p=>⟨x,by grind, .refl x⟩) (by simp);refine⟨j b,?_⟩;rintro⟨c,e,i⟩;have l:=g c (.inl e);clear e;induction i with
 |refl=>exact l
 |step h _ o=>grind
def gD n m L a b:=decide (a=b)||(iW n m L a).contains b&&(iW n m L b).contains a
theorem rS{n m L}(d:WG n m L){a b}(e:0<=a)(c:0<=b):gD n m L a b=true↔a=b\/Rc L a b/\Rc L b a:=by
 grind [gD,vm]
theorem O1 n m L a:gD n m L a a=true:=by simp[gD]
theorem PN n m L a b:gD n m L a b=gD n m L b a:=by
 simp[gD,Bool.and_comm,eq_comm]
theorem JO{n m L}(d:WG n m L){a b c}(f:0<=a)(e:0<=b)(g:0<=c)(h:gD n m L a b=true)(k:gD n m L b c=true):gD n m L a c=true:=by
 rw[rS d f e] at h;rw[rS d e g] at k;rw[rS d f g];rcases h with rfl|⟨i,j⟩
 ·grind
 ·rcases k with rfl|⟨l,o⟩
  ·grind
  ·exact .inr ⟨i.trans l,o.trans j⟩
section
variable {n m:Nat} {L:Gr}
def gQ n m L a:=(jS n).filter (gD n m L a)
def iQ n m L(done:List Int) a:=!done.contains a&&(iW n m L a).all fun b=>done.contains b||gD n m L a b
def gi n m L done:=((jS n).find? (iQ n m L done)).getD (-1)
def xx(done l:List Int):=l.foldl (fun d b=>bif d.contains b then d else d++[b]) done
def pM(n m:Nat)(L:Gr):Nat->List Int->List (List Int)
 |0,_=>[]
 |f+1,done=>bif decide (gi n m L done<0) then[] else gQ n m L (gi n m L done)::pM n m L f (xx done (gQ n m L (gi n m L done)))
theorem ya: ∀l done x,x∈xx done l↔x∈done\/x∈l
 |[],done,x=>by simp[xx]
 |b::l,done,x=>by
  have a:=ya l (bif done.contains b then done else done++[b]) x
  grind [xx]
theorem zI{done}(h:0<=gi n m L done):(0<=gi n m L done/\gi n m L done<n)/\iQ n m L done (gi n m L done)=true:=by
 unfold gi at h⊢;cases e:(jS n).find? _<;>grind [lf]
theorem Ix{a b}:b∈gQ n m L a↔(0<=b/\b<n)/\gD n m L a b=true:=by
 unfold gQ;rw[List.mem_filter,lf]
theorem AP{done}(h:0<=gi n m L done):Ew n (xx done (gQ n m L (gi n m L done)))<Ew n done:=by
 obtain⟨b,a⟩:=zI h;have c:=by
  simp only[iQ,ao0,Bool.not_eq_true'] at a;exact a.1
 refine py (fun x _ d=>?_) ⟨gi n m L done,lf.2 b,by simpa using c,?_⟩
 ·simp_all[ya,not_or]
 simp_all[an9,ya,Ix,O1]
theorem yN: ∀f g done,Ew n done<f->Ew n done<g->pM n m L f done=pM n m L g done
 |0,_,_,h,_=>by omega
 |_+1,0,_,_,h=>by omega
 | f+1,g+1,done,b,a=>by
  rw[pM,pM];cases h:decide (gi n m L done<0) with
  |true=>rfl
  |false=>
   have:=AP     (by simpa using h)
   rw[ao4,ao4,yN f g _ (by omega) (by omega)]
def qe n m L done:=pM n m L (Ew n done+1) done
theorem D2 done:qe n m L done=bif decide (gi n m L done<0) then[] else gQ n m L (gi n m L done)::qe n m L (xx done (gQ n m L (gi n m L done))):=by
 unfold qe;rw[pM];cases h:decide (gi n m L _<0) with
 |true=>rfl
 |false=>
  have:=AP     (by simpa using h)
  rw[ao4,ao4,yN _ _ _ (by omega) (Nat.lt_succ_self _)]
end
end Go.Rl
namespace Go.Proofs.YtioeffnadipbaaaGreatDoor
open Go Go.Dn Go.Rl Go.Proofs
attribute [local irreducible] a9 vc
set_option maxRecDepth 20000
def jH(op:Int):Bool:=decide (op=1)
def iv(a:Int):=bif decide (a=2) then true else decide (a>=7)
def dx(a:Int):=bif decide (a<3) then true else decide (a>6)
theorem yKa κ op K:(a9 (Y6 κ) 12 90 [.int op] [] K)=(
 K (AV.bool (op==(1:Int))) []):=by kernel_rfl
def gKa:List AV->Option (Bool×AV)
 |[.lit (.int .i64 a)]=>some (true, .bool (jH a))
 |_=>none
theorem pKa κ:cg (Y6 κ) 12 90 gKa:=by
 intro b x a;unfold gKa at a;split at a
 ·rename_i c
  simp   at a;subst a;exact⟨_,rfl,rfl,Eq.mpr (yKa κ _ _) (by rfl)⟩
 grind
noncomputable def ZH κ:=(Y6 κ).aK 90 gKa
theorem eKa κ:aE (ZH κ):=(eCs _).aK (mCs _) (pKa _)
theorem mKa κ:aj (ZH κ):=(mCs _).aK
theorem yKb κ op K:(a9 (ZH κ) 12 88 [.int op] [] K)=(
 ak (op==(2:Int)) (K (AV.bool true) []) (K (AV.bool (decide (op>=(7:Int)))) [])):=by kernel_rfl
def gKb:List AV->Option (Bool×AV)
 |[.lit (.int .i64 a)]=>some (true, .bool (iv a))
 |_=>none
theorem pKb κ:cg (ZH κ) 12 88 gKb:=by
 intro b x a;unfold gKb at a;split at a
 ·rename_i c
  simp   at a;subst a;refine⟨_,rfl,rfl,Eq.mpr (yKb _ _ _) ?_⟩;simp[Xd];unfold iv;cases decide (c=2)<;>rfl
 grind
noncomputable def EKb κ:=(ZH κ).aK 88 gKb
theorem eKb κ:aE (EKb κ):=(eKa _).aK (mKa _) (pKb _)
theorem mKb κ:aj (EKb κ):=(mKa _).aK
theorem yKc κ(a:LA) K:(a9 (EKb κ) 12 130 [a.av] [] K)=(
 ak (decide (a.op<(3:Int))) (K (AV.bool true) []) (K (AV.bool (decide (a.op>(6:Int)))) [])):=by kernel_rfl
def gKc:List AV->Option (Bool×AV)
 |[.agg [.lit (.int .i64 a), .agg [.lit (.string _), .ah 38 _], .agg [.lit (.int .i64 _), .lit (.string _), .lit (.int .i64 _), .ah 38 _], .agg [.lit (.int .i64 _), .lit (.string _), .lit (.int .i64 _), .ah 38 _]]]=>some (true, .bool (dx a))
 |_=>none
theorem pKc κ:cg (EKb κ) 12 130 gKc:=by
 intro b x a;unfold gKc at a;split at a
 ·rename_i c s l e s1 f g h s2 i d
  simp only[ao2,ao8,true_and] at a;subst a;refine⟨_,rfl,rfl,Eq.mpr (yKc κ ⟨c,s,l,e,s1,f,g,h,s2,i,d⟩ _) ?_⟩;unfold dx;simp only;cases decide (c<3)<;>rfl
 ·cases a
noncomputable def Qd κ:=(EKb κ).aK 130 gKc
theorem eKc κ:aE (Qd κ):=(eKb _).aK (mKb _) (pKc _)
theorem mKc κ:aj (Qd κ):=(mKb _).aK
theorem xKd κ l k i I n K:(vc (Qd κ) 12 131 none 0 (ae (Pr κ).toProgram 131 2) (sp 19 [(0, .ah 3 l),(1, .int k),(7, .int l.length),(8, .int i)] []) (bj (Qd κ) 131 2 0 I n K))=(
 letI a:=i<(↑(l.length):Int)
 ak (decide a) (aR (decide ((0:Int)<=i)&&decide a) (ak (k==toInt (nth l i.toNat)) (K Exit.ret (sp 19 [(4,AV.int i)] [])) (∃(e0:Nat),e0<n/\I e0
 (sp 19 [(0,AV.ah 3 l),(1,AV.int k),(7,AV.int (↑(l.length):Int)),(8,AV.int (IntKind.wrap IntKind.i64 (i+(1:Int))))] [])))) (K (Exit.exit 0) (sp 19
 [] []))):=by kernel_rfl
def ia(k:Int):List AV->Int->Int
 |[],_=> -1
 |a::l,i=>bif decide (k=toInt a) then i else ia k l (i+1)
abbrev Yq(a:List _×Int×Int):=sp 19 [(0, .ah 3 a.1),(1, .int a.2.1),(7, .int a.1.length),(8, .int a.2.2)] []
def O7(a:List AV×Int×Int):=a.1.length<=aW/\0<=a.2.2/\a.2.2<=a.1.length
def Hw(a:List AV×Int×Int):Out (Exit×S):= .ak (decide (ia a.2.1 (a.1.drop a.2.2.toNat) a.2.2>=0)) (.one (.ret,sp 19 [(4, .int (ia a.2.1 (a.1.drop a.2.2.toNat) a.2.2))] [])) (.one (.exit 0,sp 19 [] []))
theorem lKd κ:aX (Qd κ) 12 131 2 (aG 0 Yq O7 Hw):=by
 refine aD (fun a=>a.1.length - a.2.2.toNat) ?_;rintro⟨l,s,i⟩ K ⟨d,c,g⟩ b;simp only at d c g;rw[show(Qd κ).P=Pr κ from rfl];refine Eq.mpr (xKd κ l s i _ _ K) ?_;simp only[aW] at d;simp only[Hw,Out.run,ad] at b;simp only[ad,ai,an9,ao1,ao0,beq_iff_eq,beq_eq_false_iff_ne];refine⟨fun f=>⟨⟨c,f⟩,fun e=>?_,fun e=>?_⟩,fun f=>?_⟩
 ·rw[ap0 (show i.toNat<l.length by omega),←aV l i.toNat (by omega),ia,ao5 e,ao6,ao5 (show i>=0 from c)] at b
  exact b.1 rfl
 ·rw[az (n:=i+1) (by omega) (by omega)]
  refine⟨_,?_,(l,s,i+1),rfl,⟨by simpa[aW] using d,by simp only;omega,by simp only;omega⟩,rfl,?_⟩
  ·simp only;omega
  ·rw[ap0 (show i.toNat<l.length by omega),←aV l i.toNat (by omega),ia,ao3 e,ao4] at b
   simp only[Hw,Out.run,ad,show(i+1).toNat=i.toNat+1 by omega];exact b
 ·rw[ao7 (by omega)] at b
  exact b.2 rfl
noncomputable def YS κ:=(Qd κ).aq 131 2 (aG 0 Yq O7 Hw)
theorem eKd κ:aE (YS κ):=(eKc _).aq (mKc _) (lKd _)
theorem mKd κ:aj (YS κ):=(mKc _).aq aI
theorem yKe κ l k K:(a9 (YS κ) 12 131 [.ah 3 l, .int k] [] K)=(
 letI b:=AV.int
 ae (Pg.toProgram (Env.P (Qd κ))) 131 2=ae (Pg.toProgram (Env.P (Qd κ))) 131 2/\∃(a:List AV×Int×Int),letI c:=List.drop (Int.toNat a.2.2) a.1;sp 19 [(0,AV.ah 3 l),(1,b k),(7,b (↑(l.length):Int)),(8,b 0)] []=sp 19 [(0,AV.ah 3 a.1),(1,b a.2.1),(7,b (↑(a.1.length):Int)),(8,b a.2.2)] []/\(a.1.length<=9223372036854775807/\(0:Int)<=a.2.2/\a.2.2<=(↑(a.1.length):Int))/\ak (decide (ia a.2.1 c a.2.2>=(0:Int))) (K (b (ia a.2.1 c a.2.2)) []) (K (b (-1)) [])):=by kernel_rfl
def gKe:List AV->Option (Bool×AV)
 |[.ah 3 l, .lit (.int .i64 k)]=>some (decide (l.length<=aW), .int (ia k l 0))
 |_=>none
theorem x2 s: ∀l i,¬ ia s l i>=0->0<=i->ia s l i= -1
 |[],_,_,_=>rfl
 |a::l,i,h,b=>by
  simp only[ia] at h⊢;cases e:decide (s=toInt a) with
  |true=>grind
  |false=>rw[e] at h;exact x2 s l _ h (by omega)
theorem pKe κ:cg (YS κ) 12 131 gKe:=by
 intro b x a;unfold gKe at a;split at a
 ·rename_i l s
  simp only[ao2,ao8,an9] at a;obtain⟨c,rfl⟩:=a;refine⟨_,rfl,rfl,?_⟩;refine Eq.mpr (yKe κ l s _) ?_;refine⟨rfl,(l,s,0),rfl,⟨c,by simp only;omega,by simp only;omega⟩,?_⟩
  simp_all[Int.toNat_zero,ao9,ad,an9,trivial,x2]
 ·cases a
noncomputable def Zy κ:=(YS κ).aK 131 gKe
theorem eKe κ:aE (Zy κ):=(eKd _).aK (mKd _) (pKe _)
theorem mKe κ:aj (Zy κ):=(mKd _).aK
theorem yKf κ l k K:(a9 (Zy κ) 12 85 [.ah 3 l, .int k] [] K)=(
 aR (decide (l.length<=9223372036854775807)) (K (AV.bool (decide (ia k l (0:Int)>=(0:Int)))) [])):=by kernel_rfl
def YL k l:=decide (ia k l 0>=0)
def gKf:List AV->Option (Bool×AV)
 |[.ah 3 l, .lit (.int .i64 k)]=>some (decide (l.length<=aW), .bool (YL k l))
 |_=>none
theorem pKf κ:cg (Zy κ) 12 85 gKf:=by
 intro b x a;unfold gKf at a;split at a
 ·rename_i l s
  simp   at a;obtain⟨c,rfl⟩:=a;refine⟨_,rfl,rfl,?_⟩;refine Eq.mpr (yKf _ l s _) ?_;rw[ai,an9];exact⟨c,rfl⟩
 grind
noncomputable def Rf κ:=(Zy κ).aK 85 gKf
theorem eKf κ:aE (Rf κ):=(eKe _).aK (mKe _) (pKf _)
theorem mKf κ:aj (Rf κ):=(mKe _).aK
theorem yS k: ∀l i,0<=i->(ia k (iA l) i>=0↔k∈l)
 |[],_,_=>by simp[iA,ia]
 |a::l,i,c=>by
  have b:=yS k l (i+1) (by omega);simp only[iA,ap6,ia] at b⊢
  grind [toInt]
theorem M1 k l:YL k (iA l)=l.contains k:=by
 grind [YL,yS]
def GK(ds:List AV)(a:Int):List AV->List (Int×Int)
 |[]=>[]
 |l::b=>bif dx (toInt (af l 0)) then(a,bw (toStr (af (af l 1) 0)) ds)::GK ds a b else GK ds a b
def edR ds r:=GK ds (bw (toStr (af (af r 0) 0)) ds) (ag (af r 1))
def yW(ds rs:List _):=rs.flatMap (edR ds)
def Ez(E:List (Int×Int)):List AV:=E.map fun e=> .aJ [.int e.1, .int e.2]
theorem Se E F:Ez (E++F)=Ez E++Ez F:=by simp[Ez]
structure S4 where
 ds:List AV
 rs:List AV
 xs:List AV
 more:List AV
 bl:List AV
 a:Int
 i:Int
 j:Int
abbrev NJ(x:S4):=sp 53 [(0, .cf 0),(1, .ptr 1 0 [] 0),(5, .int x.a),(12, .ah 48 x.rs),(13, .int x.rs.length),(14, .int x.i),(28, .ah 80 x.bl),(29, .int x.bl.length),(30, .int x.j)] [.ext (some x.xs), .box 25 (eg x.ds x.rs)]
theorem xKg κ x I n K:(vc (Rf κ) 12 129 none 2 (ae (Pr κ).toProgram 129 5) (NJ x) (bj (Rf κ) 129 5 2 I n K))=(
 letI a:=AV.int
 letI b:=Obj.box
 letI c:=Obj.ext
 letI d:=AV.ah
 letI e:=AV.agg [d 43 x.ds,d 48 x.rs]
 letI g:=IntKind.wrap IntKind.i64 (x.j+(1:Int))
 letI f:=x.bl.length
 ak (decide (x.j<(↑f:Int))) (aR (decide ((0:Int)<=x.j)&&decide (x.j<(↑f:Int))) (ak (!dx (toInt (af (nth x.bl x.j.toNat) 0))) (∃(e0:Nat),e0<n
 /\I e0 (sp 53 [(0,AV.cf 0),(1,AV.ptr 1 0 [] 0),(5,a x.a),(12,d 48 x.rs),(13,a (↑(x.rs.length):Int)),(14,a x.i),(28,d 80
 x.bl),(29,a (↑f:Int)),(30,a g)] [c (some x.xs),b 25 e])) (∃(e2:List AV×ByteArray),([d 43 x.ds,AV.str (toStr (af (af
 (nth x.bl x.j.toNat) 1) 0))],aL)=([d 43 e2.1,AV.str e2.2],aL)/\iw e2/\∃(e1:List AV),x.xs=AV.aJ [a x.a,a (bw e2.2 e2.1)]::e1/\(∃
 (e0:Nat),e0<n/\I e0 (sp 53 [(0,AV.cf 0),(1,AV.ptr 1 0 [] 0),(5,a x.a),(12,d 48 x.rs),(13,a (↑(x.rs.length):Int)),(14,a
 x.i),(28,d 80 x.bl),(29,a (↑f:Int)),(30,a g)] [c (some e1),b 25 e]))/\K Exit.ret (sp 53 [] [c none,b 25
 e])))) (K (Exit.exit 2) (sp 53 [(0,AV.cf 0),(1,AV.ptr 1 0 [] 0),(12,d 48 x.rs),(13,a (↑(x.rs.length):Int)),(14,a x.i)] [c (some
 x.xs),b 25 e]))):=by kernel_rfl
def GR(x:S4):=x.ds.length<=aW/\x.bl.length<=aW/\0<=x.j/\x.j<=x.bl.length/\x.xs=Ez (GK x.ds x.a (x.bl.drop x.j.toNat))++x.more
def MF(x:S4):Out (Exit×S):= .all (fun _=>True) fun b=> .ak b
 (.one (.exit 2,sp 53 [(0, .cf 0),(1, .ptr 1 0 [] 0),(12, .ah 48 x.rs),(13, .int x.rs.length),(14, .int x.i)] [.ext (some x.more), .box 25 (eg x.ds x.rs)]))
 (.one (.ret,sp 53 [] [.ext none, .box 25 (eg x.ds x.rs)]))
theorem LI ds a b k(h:k<b.length):GK ds a (b.drop k)=bif dx (toInt (af (nth b k) 0)) then(a,bw (toStr (af (af (nth b k) 1) 0)) ds)::GK ds a (b.drop (k+1)) else GK ds a (b.drop (k+1)):=by
 grind [List.drop_eq_getElem_cons,aV,GK]
theorem lKg κ:aX (Rf κ) 12 129 5 (aG 2 NJ GR MF):=by
 refine aD (fun x=>x.bl.length - x.j.toNat) ?_;rintro⟨ds,l,xs,b,d,a,i,j⟩ K ⟨p,q,s,t,c⟩ o;simp only at p q s t c;rw[show(Rf κ).P=Pr κ from rfl];refine Eq.mpr (xKg κ ⟨ds,l,xs,b,d,a,i,j⟩ _ _ K) ?_;simp only[aW] at q;have f:=o true trivial;have h:=o false trivial;simp only[Out.run,ak] at f h;simp only[ad,ai,an9,ao1,ao0];refine⟨fun r=>⟨⟨s,r⟩,?_⟩,fun r=>?_⟩
 ·have hd:=LI ds a d j.toNat (by omega)
  rw[hd] at c;rw[az (n:=j+1) (by omega) (by omega)];have g: ∀k,k=Ez (GK ds a (d.drop (j.toNat+1)))++b->∃m,m<d.length - j.toNat/\et NJ GR MF (fun x=>x.bl.length - x.j.toNat) K m (NJ ⟨ds,l,k,b,d,a,i,j+1⟩):=fun k u=>by
   refine⟨_,?_,⟨ds,l,k,b,d,a,i,j+1⟩,rfl,⟨p,by simpa[aW] using q,by simp only;omega,by simp only;omega,?_⟩,rfl,o⟩
   ·simp only;omega
   ·simp only[show(j+1).toNat=j.toNat+1 by omega];exact u
  refine⟨fun e=>?_,fun e=>?_⟩
  ·grind
  ·rw[show dx (toInt (af (nth d j.toNat) 0))=true by simpa using e] at c
   exact⟨(ds,toStr (af (af (nth d j.toNat) 1) 0)),rfl,p,_,c,g _ rfl,h⟩
 ·rw[ao7 (by omega)] at c
  have c:xs=b:=c;subst c;exact f
noncomputable def Rw κ:=(Rf κ).aq 129 5 (aG 2 NJ GR MF)
theorem eKg κ:aE (Rw κ):=(eKf _).aq (mKf _) (lKg _)
theorem mKg κ:aj (Rw κ):=(mKf _).aq aI
abbrev Sn(x:S4):=sp 53 [(0, .cf 0),(1, .ptr 1 0 [] 0),(12, .ah 48 x.rs),(13, .int x.rs.length),(14, .int x.i)] [.ext (some x.xs), .box 25 (eg x.ds x.rs)]
theorem xKh κ x I n K:(vc (Rw κ) 12 129 none 2 (ae (Pr κ).toProgram 129 1) (Sn x) (bj (Rw κ) 129 1 2 I n K))=(
 letI a:=AV.int
 letI b:=Obj.box
 letI c:=Obj.ext
 letI d:=AV.ah
 letI g:=AV.agg [d 43 x.ds,d 48 x.rs]
 letI e:=nth x.rs x.i.toNat
 letI h:=x.i<(↑(x.rs.length):Int)
 letI i:=Pg.toProgram (Env.P (Rf κ))
 ak (decide h) (aR (decide ((0:Int)<=x.i)&&decide h) (∃(e3:List AV×ByteArray),([d 43 x.ds,AV.str (toStr (af (af e 0) 0))],aL)=([d 43 e3.1,AV.str e3.2],aL)/\iw e3/\ae i 129 5=ae i 129 5/\∃(e2:S4),letI f:=AV.agg [d 43 e2.ds,d 48 e2.rs];sp 53 [(0,AV.cf 0),(1,AV.ptr 1 0 [] 0),(5,a (bw e3.2 e3.1)),(12,d 48 x.rs),(13,a (↑(x.rs.length):Int)),(14,a x.i),(28,d 80 (ag (af e 1))),(29,a (↑(List.length (ag (af e 1))):Int)),(30,a 0)] [c (some x.xs),b 25 g]=sp 53 [(0,AV.cf 0),(1,AV.ptr 1 0 [] 0),(5,a e2.a),(12,d 48 e2.rs),(13,a (↑(e2.rs.length):Int)),(14,a e2.i),(28,d 80 e2.bl),(29,a (↑(e2.bl.length):Int)),(30,a e2.j)] [c (some e2.xs),b 25 f]/\(e2.ds.length<=9223372036854775807/\e2.bl.length<=9223372036854775807/\(0:Int)<=e2.j/\e2.j<=(↑(e2.bl.length):Int)/\e2.xs=Ez (GK e2.ds e2.a (List.drop e2.j.toNat e2.bl))++e2.more)/\∀(e1:Bool),True->ak e1 (∃(e0:Nat),e0<n/\I e0 (sp 53 [(0,AV.cf 0),(1,AV.ptr 1 0 [] 0),(12,d 48 e2.rs),(13,a (↑(e2.rs.length):Int)),(14,a (IntKind.wrap IntKind.i64 (e2.i+(1:Int))))] [c (some e2.more),b 25 f])) (K Exit.ret (sp 53 [] [c none,b 25 f])))) (K (Exit.exit 0) (sp 53 [] [c (some x.xs),b 25 g]))):=by kernel_rfl
def MN(a:List _):=∀r,r∈a->(ag (af r 1)).length<=aW
def FE(x:S4):=x.ds.length<=aW/\x.rs.length<=aW/\MN x.rs/\0<=x.i/\x.i<=x.rs.length/\x.xs=Ez (yW x.ds (x.rs.drop x.i.toNat))
def Pe(x:S4):Out (Exit×S):= .all (fun _=>True) fun b=> .ak b
 (.one (.exit 0,sp 53 [] [.ext (some []), .box 25 (eg x.ds x.rs)]))
 (.one (.ret,sp 53 [] [.ext none, .box 25 (eg x.ds x.rs)]))
theorem lKh κ:aX (Rw κ) 12 129 1 (aG 2 Sn FE Pe):=by
 refine aD (fun x=>x.rs.length - x.i.toNat) ?_;rintro⟨ds,b,xs,c,q,a,i,j⟩ K ⟨g,h,o,p,s,d⟩ l;simp only at g h p s d o;rw[show(Rw κ).P=Pr κ from rfl];refine Eq.mpr (xKh κ ⟨ds,b,xs,c,q,a,i,j⟩ _ _ K) ?_;simp only[aW] at h;have e:=l true trivial;have f:=l false trivial;simp only[Out.run,ak] at e f;simp only[ad,ai,an9,ao1,ao0];refine⟨fun r=>⟨⟨p,r⟩,(ds,toStr (af (af (nth b i.toNat) 0) 0)),rfl,g,?_⟩,fun r=>?_⟩
 ·have k:i.toNat<b.length:=by omega
  rw[yW,ap0 k,←aV b i.toNat k,List.flatMap_cons,Se] at d;refine⟨trivial,⟨ds,b,xs,Ez (yW ds (b.drop (i.toNat+1))),ag (af (nth b i.toNat) 1),bw (toStr (af (af (nth b i.toNat) 0) 0)) ds,i,0⟩,rfl,⟨g,?_,by simp only;omega,by simp only;omega,d⟩,?_⟩
  ·exact o _ (by rw[aV _ _ k];exact List.getElem_mem _)
  ·intro y _
   refine⟨fun _=>?_,fun _=>f⟩
   ·show∃m,m<b.length - i.toNat/\et Sn FE Pe (fun x=>x.rs.length - x.i.toNat) K m (sp 53 [(0, .cf 0),(1, .ptr 1 0 [] 0),(12, .ah 48 b),(13, .int b.length),(14, .int (IntKind.wrap IntKind.i64 (i+1)))] [.ext (some (Ez (yW ds (b.drop (i.toNat+1))))), .box 25 (eg ds b)])
    rw[az (n:=i+1) (by omega) (by omega)];refine⟨_,?_,⟨ds,b,_,c,q,a,i+1,j⟩,rfl,⟨g,by simpa[aW] using h,o,by simp only;omega,by simp only;omega,?_⟩,rfl,l⟩
    ·simp only;omega
    ·simp only[show(i+1).toNat=i.toNat+1 by omega];rfl
 ·rw[ao7 (by omega)] at d
  have d:xs=[]:=d;subst d;exact e
noncomputable def X5 κ:=(Rw κ).aq 129 1 (aG 2 Sn FE Pe)
theorem eKh κ:aE (X5 κ):=(eKg _).aq (mKg _) (lKh _)
theorem mKh κ:aj (X5 κ):=(mKg _).aq aI
theorem yKi κ ds rs xs K:(a9 (X5 κ) 12 129 [.cf 0, .ptr 1 0 [] 0] [.ext (some xs), .box 25 (eg ds rs)] K)=(
 letI b:=Obj.box
 letI c:=Obj.ext
 letI d:=AV.ah
 ae (Pg.toProgram (Env.P (Rw κ))) 129 1=ae (Pg.toProgram (Env.P (Rw κ))) 129 1/\∃(a:S4),letI e:=AV.agg [d 43 a.ds,d 48 a.rs];sp 53 [(0,AV.cf 0),(1,AV.ptr 1 0 [] 0),(12,d 48 rs),(13,AV.int (↑(rs.length):Int)),(14,AV.int 0)] [c (some xs),b 25 (AV.agg [d 43 ds,d 48 rs])]=sp 53 [(0,AV.cf 0),(1,AV.ptr 1 0 [] 0),(12,d 48 a.rs),(13,AV.int (↑(a.rs.length):Int)),(14,AV.int a.i)] [c (some a.xs),b 25 e]/\(a.ds.length<=9223372036854775807/\a.rs.length<=9223372036854775807/\(∀(r:AV),List.Mem r a.rs->List.length (ag (af r 1))<=9223372036854775807)/\(0:Int)<=a.i/\a.i<=(↑(a.rs.length):Int)/\a.xs=Ez (yW a.ds (List.drop a.i.toNat a.rs)))/\∀(y:Bool),True->ak y (K (AV.aJ []) [c (some []),b 25 e]) (K (AV.aJ []) [c none,b 25 e])):=by kernel_rfl
def VD(x:yt):List AV×List Dn.Obj:=([.cf 0, .ptr 1 0 [] 0],[.ext (some (Ez (yW x.1 x.2))), .box 25 (eg x.1 x.2)])
def FV(x:yt):=x.1.length<=aW/\x.2.length<=aW/\MN x.2
def PR(_:yt):Out (AV×List Dn.Obj):= .all (fun st'=>rF st') fun st'=> .one (.aJ [],st')
theorem cKi κ:bg (X5 κ) 12 129 (aO VD FV PR):=by
 refine aU ?_;rintro⟨ds,b⟩ K ⟨c,d,e⟩ a;refine Eq.mpr (yKi κ ds b _ K) ?_;refine⟨rfl,⟨ds,b,_,[],[],0,0,0⟩,rfl,⟨c,d,e,by simp,by simp only;omega,rfl⟩,fun y _=>?_⟩;cases y
 ·exact a _ trivial
 ·exact a _ trivial
set_option maxRecDepth 20000 in
noncomputable def Bj(κ:Kp):Env:=(X5 κ).aw 129 (aO VD FV PR)
theorem eKi κ:aE (Bj κ):=(eKh _).aw (mKh _) (cKi _)
theorem mKi κ:aj (Bj κ):=(mKh _).aw aH
end Go.Proofs.YtioeffnadipbaaaGreatDoor
namespace Go.Proofs.YtioeffnadipbaaaGreatDoor
open Go Go.Dn Go.Rl Go.Proofs
theorem wq{f}: ∀{a},(Hl f a).2=0↔ ∀x,x∈a->f x=0
 |[]=>by simp[Hl]
 |x::l=>by
  rw[Hl];by_cases h:f x=0
  ·rw[ao5 h,ao6,wq];grind
  grind
theorem qE{ds a}:(kt ds a).2=0↔fc ds a=true/\(Tz ds ds 0).2=0/\(∀x,x∈a->kl ds x=0)/\∀x,x∈a->ld x=0:=by
 unfold kt BD;cases fc ds a with
 |false=>simp
 | true=>
  simp only[ao6,true_and];by_cases h:(Tz ds ds 0).2=0
  ·by_cases b:(Hl (kl ds) a).2=0
   ·simp_all[ao5,ao6,wq]
   ·grind [wq]
  grind
theorem Pf{ds a}(h:known (cP ds) a=0):0<=bw a.rel ds/\bw a.rel ds<ds.length:=by
 unfold known at h;cases e:lb a.rel (cP ds) with
 |none=>grind
 |some k=>obtain⟨_,c,b⟩:=o7 e;omega
theorem TV{ds r}(h:(uR (ds,r)).1=0):jm (cP ds) (aM r)=0:=by
 by_cases e:jm (cP ds) (aM r)=0
 ·omega
 ·have a: ∀n,(fR getM gB _ _ (n+1) []).1=jm _ _:=fun n=>by
   rw[fR,DS _ _ _ e,ao3 e,ao4]
  grind [uR,OH]
theorem qU{ds}: ∀{b},jt ds b=0->∀l,l∈b->Rl.dx l=true->known ds l.a=0
 |[],_,_,h,_=>nomatch h
 | x::b,d,l,c,f=>by
  rw[jt] at d;cases e:Rl.dx x&& !decide (known ds x.a=0) with
  |true=>
   grind
  |false=>
   rw[e] at d;rcases List.mem_cons.1 c with rfl|c
   ·grind
   ·exact qU d l c f
theorem rD{ds c}(h:(kt ds c).2=0){r}(d:r∈c):(0<=bw (toStr (af (af r 0) 0)) ds/\bw (toStr (af (af r 0) 0)) ds<ds.length)/\
  ∀l,l∈ag (af r 1)->dx (toInt (af l 0))=true->0<=bw (toStr (af (af l 1) 0)) ds/\bw (toStr (af (af l 1) 0)) ds<ds.length:=by
 obtain⟨k,_,i,_⟩:=qE.1 h;have f:=i r d;have b:jm (cP ds) (aM (dg r))=0:=by
  refine TV ?_;unfold kl at f
  grind
 unfold jm at b;cases e:decide (known (cP ds) (aM (dg r)).head=0) with
 |false=>grind
 |true=>
  rw[e,ao6] at b;refine⟨Pf (a:=(aM (dg r)).head) (by simpa using e),fun l g m=>?_⟩;have j:cZ l∈(aM (dg r)).body:=List.mem_map_of_mem g;refine Pf (a:=(cZ l).a) (qU b _ j ?_)
  grind [cZ,toInt,af,Rl.dx,dx]
theorem Br{ds a e}: ∀{b},e∈GK ds a b↔ ∃l,l∈b/\dx (toInt (af l 0))=true/\e=(a,bw (toStr (af (af l 1) 0)) ds)
 |[]=>by simp[GK]
 | x::b=>by
  rw[GK];cases h:dx _ with
  |true=>
   rw[ao6,ap7,Br]
   grind
  |false=>
   rw[ao4,Br]
   grind
theorem Ij{ds a e}:e∈yW ds a↔ ∃r,r∈a/\∃l,l∈ag (af r 1)/\dx (toInt (af l 0))=true/\e=(bw (toStr (af (af r 0) 0)) ds,bw (toStr (af (af l 1) 0)) ds):=by
 unfold yW;rw[List.mem_flatMap];exact exists_congr fun r=>and_congr_right fun _=>Br
def Z1 ds a:=∀e,e∈yW ds a->(0<=e.1/\e.1<ds.length)/\0<=e.2/\e.2<ds.length
theorem ab0{ds a}(h:(kt ds a).2=0):Z1 ds a:=by
 intro e c;obtain⟨r,b,l,f,d,rfl⟩:=Ij.1 c;have:=rD h b
 grind
end Go.Proofs.YtioeffnadipbaaaGreatDoor
namespace Go.Rl
open Go Go.Dn
theorem sG D b: ∃t a,D++[b]=t::a/\(t::a).dropLast=D/\fv (t::a)=b:=by
 cases D with
 |nil=>exact⟨b,_,rfl,rfl,rfl⟩
 | cons t D=>
  refine⟨t,D++[b],rfl,?_,?_⟩
  ·grind
  ·have:=zc (t:=t) (todo:=D++[b])
   rw[←List.cons_append,List.dropLast_concat] at this
   simp_all
theorem zx{n m L}(d:WG n m L){D a b}(f:Sd n m (D++[b]) a):
  xz n m L (D++[b]) a=bif a.contains b then xz n m L D a else xz n m L (D++L.at b) (a++[b]):=by
 obtain⟨t,g,e,h,c⟩:=sG D b
 grind [J1]
theorem Sd.ac9{n m D a b}(h:Sd n m (D++[b]) a):Sd n m D a/\ms n m D a<ms n m (D++[b]) a:=by
 obtain⟨t,d,e,f,g⟩:=sG D b;rw[e] at h⊢;have c:=h.pop
 grind [By]
theorem Sd.XT{n m L}(d:WG n m L){D a b}(h:Sd n m (D++[b]) a)(c:a.contains b=false):Sd n m (D++L.at b) (a++[b])/\ms n m (D++L.at b) (a++[b])<ms n m (D++[b]) a:=by
 obtain⟨t,j,e,k,g⟩:=sG D b;have f:=h.ht b (by simp);rw[e] at h⊢;rw[←g] at c f;have l:=h.add d c;have i:=BR d t _ _ f c
 grind
end Go.Rl
namespace Go.Proofs.YtioeffnadipbaaaGreatDoor
open Go Go.Dn Go.Rl Go.Proofs
attribute [local irreducible] a9 vc
set_option maxRecDepth 20000
abbrev gZ(k:Int):Value:= .int .i64 k
def dw(L:Gr):=L.map fun l=>l.map gZ
def iH(l:List Int):List (Value×AV):=l.map fun k=>(gZ k, .lit (.bool true))
abbrev W4(l:List Int):AV:= .eQ 3 4 (l.map gZ) (l.map fun _=> .lit (.bool true))
theorem Iz: ∀(l:List _) k,bU (l.map fun l=>l.map gZ) k=(l.getD k []).map gZ
 |[],k=>by rfl
 |_::_,0=>rfl
 |_::l,k+1=>by simpa[bU] using Iz l k
theorem mr L a:bU (dw L) a.toNat=(L.at a).map gZ:=Iz L _
theorem mm b: ∀l,cX (iH l) (gZ b) (.lit (.bool false))= .lit (.bool (l.contains b))
 |[]=>rfl
 |a::l=>by
  have c:=mm b l;simp[iH,cX] at c⊢;have e:ei (gZ b) (gZ a)=(b==a):=by rfl
  grind
theorem rp b: ∀l,eD (iH l) (gZ b) (.lit (.bool true))=iH (bif l.contains b then l else l++[b])
 |[]=>rfl
 |a::l=>by
  have c:=rp b l;simp[iH,eD] at c⊢;have e:ei (gZ b) (gZ a)=(b==a):=by rfl
  grind
theorem uT l:(iH l).map (·.1)=l.map gZ:=by simp[iH]
theorem vf l:(iH l).map (·.2)=l.map fun _=> .lit (.bool true):=by simp[iH]
abbrev LQ(a:List (List Value)):Dn.Obj:= .rows 35 3 a none
abbrev uB n b a:=[.box 145 (.agg [.an 1 0 n, .an 2 0 a.length]),LQ b, .row 101 a]
abbrev yA n a:=[.box 145 (.agg [.an 1 0 n, .nil]),LQ a]
theorem Ss D c x:nth (D++x::c) (0+D.length)=x:=by
 induction D with
 |nil=>rfl
 |cons a D b=>exact b
theorem IH D b a:((D++[b]).length:Int) - 1=D.length/\iA (D++[b])++a=iA D++AV.int b::a/\nth (iA D++AV.int b::a) (0+D.length)=AV.int b/\(iA D++AV.int b::a).take D.length=iA D/\toInt (AV.int b)=b:=by
 have c:=Ss (iA D) a (AV.int b);rw[jw] at c;exact⟨by simp,by simp[iA],c,List.take_left' (jw D),rfl⟩
theorem D0 L a:(bU (dw L) a.toNat).length=(L.at a).length:=by rw[mr,List.length_map]
theorem GD L a:List.map AV.lit (List.take (bU (dw L) a.toNat).length (bU (dw L) a.toNat))=iA (L.at a):=by
 rw[List.take_length,mr,List.map_map];rfl
structure P2 where
 n:Nat
 m:Nat
 L:Gr
 fs:List AV
 todo:List Int
 met:List Int
 tl:List AV
def A4(x:P2):=WG x.n x.m x.L/\Sd x.n x.m x.todo x.met/\(x.n+1)*x.m<=1000000000
def ki(x:P2):=xz x.n x.m x.L x.todo x.met
theorem xRe(κ:Kp)(N:Nat) ls fs es ws(k:Nat) I(n:Nat) K:(vc (Bj κ) 12 86 none 3 (ae (Pr κ).toProgram 86 3) (sp 48 [(0, .ptr 0 0 [] 0),(5, .mp 3),(6, .an 4 0 k)] (uB N ls fs++[.map 3 4 es, .row 3 ws])) (bj (Bj κ) 86 3 3 I n K))=(
 letI a:=IntKind.wrap IntKind.i64
 letI b:=Obj.row
 letI c:=Dn.Obj.map
 letI d:=(↑k:Int) - (1:Int)
 letI e:=a d
 letI f:=nth ws (0+Int.toNat e)
 letI g:=AV.agg [AV.an 1 0 N,AV.an 2 0 fs.length]
 letI i:=(0:Int)<=a d
 letI j:=Value.int IntKind.i64 (toInt f)
 letI l:=bU ls (Int.toNat (toInt f))
 letI h:=List.take (List.length l) l
 ak (decide ((↑k:Int)>(0:Int))) (aR (decide i&&decide (a d<(↑k:Int))) (aR (decide i&&decide (a d
 <=a d)&&decide (a d<=(↑k:Int))) (ak (!Dn.toBool (cX es j (AV.bool false))) (aR (decide ((0:Int)<=toInt
 f)&&decide (toInt f<(↑N:Int))) (aR (decide ((Int.toNat e+List.length (List.map AV.lit h)+1)*9<=70368744177664)) (∃(e0:Nat),e0<n/\I e0
 (sp 48 [(0,AV.ptr 0 0 [] 0),(5,AV.mp 3),(6,AV.an 4 0 (Int.toNat e+List.length (List.map AV.lit h)))] [Obj.box 145 g,Obj.rows 35 3 ls none,b
 101 fs,c 3 4 (eD es j (AV.bool true)),b 3 (List.take (Int.toNat e) ws++List.map AV.lit h)])))) (∃(e0:Nat),e0<n/\I e0 (sp 48 [(0,
 AV.ptr 0 0 [] 0),(5,AV.mp 3),(6,AV.an 4 0 (Int.toNat e))] [Obj.box 145 g,Obj.rows 35 3 ls none,b 101 fs,c 3 4 es,b 3 ws]))))) (K
 (Exit.exit 0) (sp 48 [(5,AV.mp 3)] [Obj.box 145 g,Obj.rows 35 3 ls none,b 101 fs,c 3 4 es]))):=by kernel_rfl
abbrev WM(x:P2):=sp 48 [(0, .ptr 0 0 [] 0),(5, .mp 3),(6, .an 4 0 x.todo.length)] (uB x.n (dw x.L) x.fs++[.map 3 4 (iH x.met), .row 3 (iA x.todo++x.tl)])
def Cu(x:P2):Out (Exit×S):= .one (.exit 0,sp 48 [(5, .mp 3)] (uB x.n (dw x.L) x.fs++[.map 3 4 (iH (ki x))]))
theorem lRe κ:aX (Bj κ) 12 86 3 (aG 3 WM A4 Cu):=by
 refine aD (fun x=>ms x.n x.m x.todo x.met) ?_;rintro⟨n,m,L,l,todo,a,i⟩ K ⟨d,f,j⟩ c;simp only at d f j;rw[show(Bj κ).P=Pr κ from rfl];refine Eq.mpr (xRe κ n (dw L) l (iH a) (iA todo++i) todo.length _ _ K) ?_;simp only[Cu,ki,Out.run] at c;rw[ad,an9,ao1];refine⟨fun h=>?_,fun h=>?_⟩
 ·obtain⟨D,b,rfl⟩: ∃D b,todo=D++[b]:=⟨_,_,(List.dropLast_concat_getLast (by intro e;subst e;simp at h)).symm⟩
  have k:=f.le;have w:=f.ht b (by simp);have q:=d.le b;have p:=d.len;have r:m<=(n+1)*m:=Nat.le_mul_of_pos_left m (Nat.succ_pos n);obtain⟨e0,s,t,u,v⟩:=IH D b i;simp only[ap4,List.length_singleton] at k;rw[e0,az (n:=(D.length:Int)) (by omega) (by omega),s,Int.toNat_natCast,t,u,v,mm,rp,mr,List.take_length,List.map_map];rw[zx d f] at c;simp only[ai,ad,an9,ao0,List.length_map,ap4,List.length_singleton,show Dn.toBool (AV.lit (.bool (a.contains b)))=a.contains b from rfl];refine⟨⟨by omega,by omega⟩,⟨⟨by omega,by omega⟩,by omega⟩,fun e=>?_,fun e=>?_⟩
  ·have e:a.contains b=false:=by simpa using e
   obtain⟨o,g⟩:=f.XT d e;rw[e,ao4] at c;refine⟨⟨by omega,by omega⟩,by omega,_,g,⟨n,m,L,l,D++L.at b,a++[b],[]⟩,?_,⟨d,o,j⟩,rfl,?_⟩
   ·rw[e,ao4]
    simp only[WM,List.append_nil,ap4,w8];rfl
   ·simp only[Cu,ki,Out.run]
    exact c
  ·have e:a.contains b=true:=by simpa using e
   obtain⟨o,g⟩:=f.ac9;rw[e,ao6] at c;refine⟨_,g,⟨n,m,L,l,D,a,AV.int b::i⟩,rfl,⟨d,o,j⟩,rfl,?_⟩;simp only[Cu,ki,Out.run];exact c
 ·obtain rfl:todo=[]:=List.eq_nil_of_length_eq_zero (by omega)
  rw[DT] at c;exact c
theorem xRz(κ:Kp)(N:Nat) ls es ws(k:Nat) I(n:Nat) K:(vc (Bj κ) 12 86 none 2 (ae (Pr κ).toProgram 86 3) (sp 48 [(0, .ptr 0 0 [] 0),(5, .mp 2),(6, .an 3 0 k)] (yA N ls++[.map 3 4 es, .row 3 ws])) (bj (Bj κ) 86 3 2 I n K))=(
 letI a:=IntKind.wrap IntKind.i64
 letI b:=Dn.Obj.map
 letI c:=(↑k:Int) - (1:Int)
 letI d:=a c
 letI e:=nth ws (0+Int.toNat d)
 letI f:=AV.agg [AV.an 1 0 N,AV.nil]
 letI h:=(0:Int)<=a c
 letI i:=Value.int IntKind.i64 (toInt e)
 letI j:=bU ls (Int.toNat (toInt e))
 letI g:=List.take (List.length j) j
 ak (decide ((↑k:Int)>(0:Int))) (aR (decide h&&decide (a c<(↑k:Int))) (aR (decide h&&decide (a c
 <=a c)&&decide (a c<=(↑k:Int))) (ak (!Dn.toBool (cX es i (AV.bool false))) (aR (decide ((0:Int)<=toInt
 e)&&decide (toInt e<(↑N:Int))) (aR (decide ((Int.toNat d+List.length (List.map AV.lit g)+1)*9<=70368744177664)) (∃(e0:Nat),e0<n/\I e0
 (sp 48 [(0,AV.ptr 0 0 [] 0),(5,AV.mp 2),(6,AV.an 3 0 (Int.toNat d+List.length (List.map AV.lit g)))] [Obj.box 145 f,Obj.rows 35 3 ls none,b
 3 4 (eD es i (AV.bool true)),Obj.row 3 (List.take (Int.toNat d) ws++List.map AV.lit g)])))) (∃(e0:Nat),e0<n/\I e0 (sp 48 [(0,AV.ptr 0 0 [] 0),(5,
 AV.mp 2),(6,AV.an 3 0 (Int.toNat d))] [Obj.box 145 f,Obj.rows 35 3 ls none,b 3 4 es,Obj.row 3 ws]))))) (K (Exit.exit 0) (sp 48 [(5,AV.mp 2)]
 [Obj.box 145 f,Obj.rows 35 3 ls none,b 3 4 es]))):=by kernel_rfl
abbrev Vd(x:P2):=sp 48 [(0, .ptr 0 0 [] 0),(5, .mp 2),(6, .an 3 0 x.todo.length)] (yA x.n (dw x.L)++[.map 3 4 (iH x.met), .row 3 (iA x.todo++x.tl)])
def Ev(x:P2):Out (Exit×S):= .one (.exit 0,sp 48 [(5, .mp 2)] (yA x.n (dw x.L)++[.map 3 4 (iH (ki x))]))
theorem lRz κ:aX (Bj κ) 12 86 3 (aG 2 Vd A4 Ev):=by
 refine aD (fun x=>ms x.n x.m x.todo x.met) ?_;rintro⟨n,m,L,o,todo,a,k⟩ K ⟨d,f,j⟩ c;simp only at d f j;rw[show(Bj κ).P=Pr κ from rfl];refine Eq.mpr (xRz κ n (dw L) (iH a) (iA todo++k) todo.length _ _ K) ?_;simp only[Ev,ki,Out.run] at c;rw[ad,an9,ao1];refine⟨fun h=>?_,fun h=>?_⟩
 ·obtain⟨D,b,rfl⟩: ∃D b,todo=D++[b]:=⟨_,_,(List.dropLast_concat_getLast (by intro e;subst e;simp at h)).symm⟩
  have i:=f.le;have q:=f.ht b (by simp);have w:=d.le b;have p:=d.len;have r:m<=(n+1)*m:=Nat.le_mul_of_pos_left m (Nat.succ_pos n);obtain⟨e0,s,t,u,v⟩:=IH D b k;simp only[ap4,List.length_singleton] at i;rw[e0,az (n:=(D.length:Int)) (by omega) (by omega),s,Int.toNat_natCast,t,u,v,mm,rp,mr,List.take_length,List.map_map];rw[zx d f] at c;simp only[ai,ad,an9,ao0,List.length_map,ap4,List.length_singleton,show Dn.toBool (AV.lit (.bool (a.contains b)))=a.contains b from rfl];refine⟨⟨by omega,by omega⟩,⟨⟨by omega,by omega⟩,by omega⟩,fun e=>?_,fun e=>?_⟩
  ·have e:a.contains b=false:=by simpa using e
   obtain⟨l,g⟩:=f.XT d e;rw[e,ao4] at c;refine⟨⟨by omega,by omega⟩,by omega,_,g,⟨n,m,L,o,D++L.at b,a++[b],[]⟩,?_,⟨d,l,j⟩,rfl,?_⟩
   ·rw[e,ao4]
    simp only[Vd,List.append_nil,ap4,w8];rfl
   ·simp only[Ev,ki,Out.run]
    exact c
  ·have e:a.contains b=true:=by simpa using e
   obtain⟨l,g⟩:=f.ac9;rw[e,ao6] at c;refine⟨_,g,⟨n,m,L,o,D,a,AV.int b::k⟩,rfl,⟨d,l,j⟩,rfl,?_⟩;simp only[Ev,ki,Out.run];exact c
 ·obtain rfl:todo=[]:=List.eq_nil_of_length_eq_zero (by omega)
  rw[DT] at c;exact c
def YO(s:S):=Nat.beq s.st.length 5
noncomputable def Ug κ:=(Bj κ).aq 86 3 (rC YO (aG 3 WM A4 Cu) (aG 2 Vd A4 Ev))
theorem eRl κ:aE (Ug κ):=(eKi _).aq (mKi _) (n8 (lRe _) (lRz _))
theorem mRl κ:aj (Ug κ):=(mKi _).aq (lj aI aI)
structure Vs where
 n:Nat
 m:Nat
 L:Gr
 fs:List AV
 a:Int
def G6(x:Vs):=WG x.n x.m x.L/\(x.n+1)*x.m<=1000000000/\0<=x.a/\x.a<x.n
theorem yRe κ N ls fs a K:(a9 (Ug κ) 12 86 [.ptr 0 0 [] 0, .int a] (uB N ls fs) K)=(
 letI b:=AV.ptr 0 0 []
 letI c:=AV.agg
 letI d:=Obj.box
 letI e:=Obj.row
 letI f:=Obj.rows
 letI g:=Dn.Obj.map
 letI h:=AV.an
 letI i:=Pg.toProgram (Env.P (Bj κ))
 letI k:=List.length (bU ls a.toNat)
 letI j:=List.take k (bU ls a.toNat)
 aR (decide ((0:Int)<=a)&&decide (a<(↑N:Int))) ((Nat.beq k 0=true->ae i 86 3=ae i 86 3/\∃(e1:P2),sp 48 [(0,b 0),(5,AV.mp 3),
 (6,h 4 0 0)] [d 145 (c [h 1 0 N,h 2 0 fs.length]),f 35 3 ls none,e 101 fs,g 3 4 [],e 3 []]=sp 48 [(0,
 b 0),(5,AV.mp 3),(6,h 4 0 e1.todo.length)] [d 145 (c [h 1 0 e1.n,h 2 0 e1.fs.length]),f 35 3 (dw e1.L) none,
 e 101 e1.fs,g 3 4 (iH e1.met),e 3 (iA e1.todo++e1.tl)]/\(WG e1.n e1.m e1.L/\Sd e1.n e1.m e1.todo e1.met/\(e1.n+1)*e1.m<=
 1000000000)/\K (AV.eQ 3 4 (List.map (fun(e0:Value×AV)=>e0.1) (iH (ki e1))) (List.map (fun(e0:Value×AV)=>e0.2) (iH (ki e1)))) [d 145 (c
 [h 1 0 e1.n,h 2 0 e1.fs.length]),f 35 3 (dw e1.L) none,e 101 e1.fs])/\aR (decide ((0+List.length (List.map AV.lit j)+1)*9<=
 70368744177664)) (ae i 86 3=ae i 86 3/\∃(e1:P2),sp 48 [(0,b 0),(5,AV.mp 3),(6,h 4 0 (0+List.length (List.map AV.lit j)))]
 [d 145 (c [h 1 0 N,h 2 0 fs.length]),f 35 3 ls none,e 101 fs,g 3 4 [],e 3 ([]++List.map AV.lit j)]=sp
 48 [(0,b 0),(5,AV.mp 3),(6,h 4 0 e1.todo.length)] [d 145 (c [h 1 0 e1.n,h 2 0 e1.fs.length]),f 35 3 (dw e1.L)
 none,e 101 e1.fs,g 3 4 (iH e1.met),e 3 (iA e1.todo++e1.tl)]/\(WG e1.n e1.m e1.L/\Sd e1.n e1.m e1.todo e1.met/\(e1.n+1)*e1.m<=
 1000000000)/\K (AV.eQ 3 4 (List.map (fun(e0:Value×AV)=>e0.1) (iH (ki e1))) (List.map (fun(e0:Value×AV)=>e0.2) (iH (ki e1)))) [d 145 (c
 [h 1 0 e1.n,h 2 0 e1.fs.length]),f 35 3 (dw e1.L) none,e 101 e1.fs]))):=by kernel_rfl
def T8(x:Vs):List AV×List Dn.Obj:=([.ptr 0 0 [] 0, .int x.a],uB x.n (dw x.L) x.fs)
def F3(x:Vs):Out (AV×List Dn.Obj):= .one (W4 (iW x.n x.m x.L x.a),uB x.n (dw x.L) x.fs)
theorem cRe κ:bg (Ug κ) 12 86 (aO T8 G6 F3):=by
 refine aU ?_;rintro⟨n,m,L,f,a⟩ K ⟨b,d,g,h⟩ c;simp only at b d g h;refine Eq.mpr (yRe κ n (dw L) f a K) ?_;simp only[F3,Out.run,iW] at c;have j:=Sd.start b g;have k:=b.le a;have i:m<=(n+1)*m:=Nat.le_mul_of_pos_left m (Nat.succ_pos n);rw[GD,jw,D0,ai,ai,ao0,an9,an9,an9];refine⟨⟨g,h⟩,fun e=>⟨rfl,⟨n,m,L,f,[],[],[]⟩,rfl,⟨b,?_,d⟩,?_⟩,by omega,rfl,⟨n,m,L,f,L.at a,[],[]⟩,?_,⟨b,j,d⟩,?_⟩
 ·simp_all
 ·have e:L.at a=[]:=List.eq_nil_of_length_eq_zero (Nat.eq_of_beq_eq_true e)
  rw[e] at c;simp only[uT,vf];exact c
 ·simp only[List.append_nil,Nat.zero_add]
  rfl
 ·simp only[uT,vf]
  exact c
theorem yRz κ N ls a K:(a9 (Ug κ) 12 86 [.ptr 0 0 [] 0, .int a] (yA N ls) K)=(
 letI b:=AV.ptr 0 0 []
 letI c:=AV.agg
 letI d:=Obj.box
 letI e:=Obj.row
 letI f:=Obj.rows
 letI g:=Dn.Obj.map
 letI h:=AV.an
 letI i:=AV.nil
 letI j:=Pg.toProgram (Env.P (Bj κ))
 letI l:=List.length (bU ls a.toNat)
 letI k:=List.take l (bU ls a.toNat)
 aR (decide ((0:Int)<=a)&&decide (a<(↑N:Int))) ((Nat.beq l 0=true->ae j 86 3=ae j 86 3/\∃(e1:P2),sp 48 [(0,b 0),(5,AV.mp 2),
 (6,h 3 0 0)] [d 145 (c [h 1 0 N,i]),f 35 3 ls none,g 3 4 [],e 3 []]=sp 48 [(0,b 0),(5,AV.mp
 2),(6,h 3 0 e1.todo.length)] [d 145 (c [h 1 0 e1.n,i]),f 35 3 (dw e1.L) none,g 3 4 (iH e1.met),e 3 (iA
 e1.todo++e1.tl)]/\(WG e1.n e1.m e1.L/\Sd e1.n e1.m e1.todo e1.met/\(e1.n+1)*e1.m<=1000000000)/\K (AV.eQ 3 4 (List.map (fun(e0:Value×AV)=>e0.1)
 (iH (ki e1))) (List.map (fun(e0:Value×AV)=>e0.2) (iH (ki e1)))) [d 145 (c [h 1 0 e1.n,i]),f 35 3 (dw e1.L) none])/\aR
 (decide ((0+List.length (List.map AV.lit k)+1)*9<=70368744177664)) (ae j 86 3=ae j 86 3/\∃(e1:P2),sp 48 [(0,b 0),(5,AV.mp 2),
 (6,h 3 0 (0+List.length (List.map AV.lit k)))] [d 145 (c [h 1 0 N,i]),f 35 3 ls none,g 3 4 [],e 3 ([]++
 List.map AV.lit k)]=sp 48 [(0,b 0),(5,AV.mp 2),(6,h 3 0 e1.todo.length)] [d 145 (c [h 1 0 e1.n,i]),f 35 3
 (dw e1.L) none,g 3 4 (iH e1.met),e 3 (iA e1.todo++e1.tl)]/\(WG e1.n e1.m e1.L/\Sd e1.n e1.m e1.todo e1.met/\(e1.n+1)*e1.m<=
 1000000000)/\K (AV.eQ 3 4 (List.map (fun(e0:Value×AV)=>e0.1) (iH (ki e1))) (List.map (fun(e0:Value×AV)=>e0.2) (iH (ki e1)))) [d 145 (c
 [h 1 0 e1.n,i]),f 35 3 (dw e1.L) none]))):=by kernel_rfl
def TM(x:Vs):List AV×List Dn.Obj:=([.ptr 0 0 [] 0, .int x.a],yA x.n (dw x.L))
def Gu(x:Vs):Out (AV×List Dn.Obj):= .one (W4 (iW x.n x.m x.L x.a),yA x.n (dw x.L))
theorem cRz κ:bg (Ug κ) 12 86 (aO TM G6 Gu):=by
 refine aU ?_;rintro⟨n,m,L,h,a⟩ K ⟨b,f,d,g⟩ c;simp only at b f d g;refine Eq.mpr (yRz κ n (dw L) a K) ?_;simp only[Gu,Out.run,iW] at c;have j:=Sd.start b d;have k:=b.le a;have i:m<=(n+1)*m:=Nat.le_mul_of_pos_left m (Nat.succ_pos n);rw[GD,jw,D0,ai,ai,ao0,an9,an9,an9];refine⟨⟨d,g⟩,fun e=>⟨rfl,⟨n,m,L,h,[],[],[]⟩,rfl,⟨b,?_,f⟩,?_⟩,by omega,rfl,⟨n,m,L,h,L.at a,[],[]⟩,?_,⟨b,j,f⟩,?_⟩
 ·simp_all
 ·have e:L.at a=[]:=List.eq_nil_of_length_eq_zero (Nat.eq_of_beq_eq_true e)
  rw[e] at c;simp only[uT,vf];exact c
 ·simp only[List.append_nil,Nat.zero_add]
  rfl
 ·simp only[uT,vf]
  exact c
def FH(d:List Dn.Obj->Bool)(a b:dM):dM:=fun c st K=>bif d st then a c st K else b c st K
theorem tO{c a b}(f:a.gn)(g:b.gn):(FH c a b).gn:=fun e st K j d h=>by
 unfold FH at h⊢;cases i:c _<;>simp[i] at h⊢
 ·exact g _ _ _ _ d h
 ·exact f _ _ _ _ d h
theorem AL{E N f c a b}(i:bg E N f a)(g:bg E N f b):bg E N f (FH c a b):=fun d st K h=>by
 unfold FH at h;cases e:c _<;>rw[e] at h
 ·exact g _ _ _ h
 ·exact i _ _ _ h
def Xj(st:List Dn.Obj):=Nat.beq st.length 3
noncomputable def S6 κ:=(Ug κ).aw 86 (FH Xj (aO T8 G6 F3) (aO TM G6 Gu))
theorem eRe κ:aE (S6 κ):=(eRl _).aw (mRl _) (AL (cRe _) (cRz _))
theorem mRe κ:aj (S6 κ):=(mRl _).aw (tO aH aH)
def N3:List Nat:=129::Q3
noncomputable abbrev X8(κ:Kp)(ds a:List AV):Dn.Obj:=
 .loop (iM (Pr κ).toProgram 42 3 .ready none (ic (bM 63) [(0,eg ds a),(1, .ptr 0 0 [] 0),(2, .lit (.pointer none)),(3, .ptr 3 0 [] 0),(7, .ptr 0 0 [0] 0),(8, .ah 43 ds),(9, .int ds.length),(10, .an 1 0 ds.length),(11, .agg [.an 1 0 ds.length, .nil]),(12, .ptr 2 0 [] 0),(13,eg ds a),(14, .bn 129 [.ptr 4 0 [] 0])]))
noncomputable abbrev qi κ ds a:=[.box 25 (eg ds a),LQ (List.replicate ds.length []), .box 145 (.agg [.an 1 0 ds.length, .nil]), .box 99 (.ptr 2 0 [] 0), .box 25 (eg ds a),X8 κ ds a]
noncomputable abbrev Cq κ ds a b:=[.box 25 (eg ds a),LQ b, .box 145 (.agg [.an 1 0 ds.length, .nil]), .box 99 (.ptr 2 0 [] 0), .dead,X8 κ ds a]
theorem sGf κ ds rs Q:(tidy (Pr κ).toProgram 6 (dA (qi κ ds rs) (b6 (qi κ ds rs) [.ptr 4 0 [] 0])) Q)=(
 letI a:=AV.ptr
 letI b:=AV.agg
 letI c:=AV.ah
 Q [Obj.box 25 (b [c 43 ds,c 48 rs]),Obj.rows 35 3 (List.replicate ds.length []) none,Obj.box 145 (b [AV.an 1 0 ds.length,AV.nil]),Obj.box
 99 (a 2 0 [] 0),Obj.dead,Dn.Obj.loop (iM Tryz.prog 42 3 LoopState.ready none (ic (bM 63) [(0,b [c 43 ds,c 48 rs]),(1,a 0 0 [] 0),
 (2,AV.lit (Value.pointer none)),(3,a 3 0 [] 0),(7,a 0 0 [0] 0),(8,c 43 ds),(9,AV.int (↑(ds.length):Int)),(10,AV.an 1 0 ds.length),
 (11,b [AV.an 1 0 ds.length,AV.nil]),(12,a 2 0 [] 0),(13,b [c 43 ds,c 48 rs]),(14,AV.bn 129 [a 4 0 [] 0])]))]):=by kernel_rfl
theorem rGf κ ds rs ls a b Q(K2:List Dn.Obj->Prop):(gp (vc (S6 κ) 12) 5 [.int a, .int b] (Cq κ ds rs ls) (fun r st''=>match r with| .lit (.bool true)=>tidy (Pr κ).toProgram 6 st'' Q| .lit (.bool false)=>K2 st''|_=>False))=(
 letI c:=AV.ptr
 letI d:=AV.agg
 letI e:=Obj.box
 letI f:=AV.ah
 letI i:=iM Tryz.prog 42 3 LoopState.ready none (ic (bM 63) [(0,d [f 43 ds,f 48 rs]),(1,c 0 0 [] 0),(2,AV.lit (Value.pointer none)),
  (3,c 3 0 [] 0),(7,c 0 0 [0] 0),(8,f 43 ds),(9,AV.int (↑(ds.length):Int)),(10,AV.an 1 0 ds.length),(11,d [AV.an 1 0 ds.length,
  AV.nil]),(12,c 2 0 [] 0),(13,d [f 43 ds,f 48 rs]),(14,AV.bn 129 [c 4 0 [] 0])])
 letI h:=decide ((0:Int)<=a)&&decide (a<(↑(ds.length):Int))
 letI g:=bU ls a.toNat
 letI j:=decide (List.length g=List.length g)&&decide ((List.length g+1+1)*9<=70368744177664)
 letI k:=Dn.jQ ls a.toNat (bU ls a.toNat++[Value.int IntKind.i64 b])
 letI l:=List.map AV.lit (List.take (List.length g) g)
 letI m:=d [AV.an 1 0 ds.length,AV.nil]
 letI n:=d [f 43 ds,f 48 rs]
 letI o:=aR h (aR (decide (a.toNat=a.toNat)&&decide (a.toNat=a.toNat)&&decide (List.length g+1=List.length (bU k a.toNat))) (Q [e 25 n,
  Obj.rows 35 3 k none,e 145 m,e 99 (c 2 0 [] 0),Obj.dead,Dn.Obj.loop i]))
 aR h (aR (decide (List.length l<=9223372036854775807)) (ak (!YL b l) (aR h (aR j o/\aR j o)) (Q [e 25 n,Obj.rows 35 3 ls none,e 145 m,
 e 99 (c 2 0 [] 0),Obj.dead,Dn.Obj.loop i])))):=by kernel_rfl
theorem kGf κ ds rs xs:(AV.cf 0::fP (iU (b6 (qi κ ds rs) [.ptr 4 0 [] 0])) [.ptr 4 0 [] 0],Obj.ext (some xs)::gx (iU (b6 (qi κ ds rs) [.ptr 4 0 [] 0])) (gu (qi κ ds rs) (b6 (qi κ ds rs) [.ptr 4 0 [] 0])))=([.cf 0, .ptr 1 0 [] 0],[.ext (some xs), .box 25 (eg ds rs)]):=by kernel_rfl
theorem oGf κ ds rs:mL (qi κ ds rs) [.ptr 4 0 [] 0]=true:=by kernel_rfl
theorem Db: ∀L k x,Dn.jQ (dw L) k (x.map gZ)=dw (L.set k x)
 |[],k,x=>by rfl
 |_::_,0,x=>rfl
 |a::L,k+1,x=>by
  have b:=Db L k x
  grind [dw,Dn.jQ]
theorem QH n:dw (List.replicate n [])=List.replicate n []:=by simp[dw]
structure qW(ds rs:List AV):Prop where
 hd:ds.length<=60
 hr:rs.length<=200
 bs: ∀r,r∈rs->(ag (af r 1)).length<=20
 ed:Z1 ds rs
theorem IC ds a: ∀b,(GK ds a b).length<=b.length
 |[]=>Nat.le_refl _
 |l::b=>by
  have c:=IC ds a b
  grind [GK]
theorem BS ds: ∀a,(∀r,r∈a->(ag (af r 1)).length<=20)->(yW ds a).length<=a.length*20
 |[],_=>Nat.le_refl _
 |r::a,h=>by
  have b:=BS ds a (by grind)
  grind [IC,bw,af,ag,yW,edR]
noncomputable def UM(κ:Kp):eK:=fun a st K=>∃x:yt,(a,st)=([AV.ptr 4 0 [] 0],qi κ x.1 x.2)/\qW x.1 x.2/\K (Cq κ x.1 x.2 (dw (sK x.1.length (yW x.1 x.2))))
theorem Kn κ:(UM κ).gn:=by
 rintro b st K g e ⟨a,d,f,c⟩;exact⟨a,d,f,e _ c⟩
theorem Wb κ a st K(h:aO VD FV PR a st K):(S6 κ).call 129 a st K:=h
theorem gfr κ:jk (S6 κ) 12 129 (UM κ):=by
 rintro n st K ⟨⟨ds,f⟩,x,k,u⟩;obtain⟨rfl,rfl⟩:=Prod.mk.inj x;simp only at k u;have hd:=k.hd;have q:=k.hr;have C:=BS ds f k.bs;refine⟨Ez (yW ds f),fun i st'=>∃c g,i=Ez g/\st'=Cq κ ds f (dw (sK ds.length c))/\c++g=yW ds f,⟨oGf κ ds f,?_,?_,?_,?_⟩⟩
 ·refine Wb κ _ _ _ ⟨(ds,f),?_,⟨by simp only[aW];omega,by simp only[aW];omega,fun r q=>?_⟩,fun st' h=>h⟩
  ·rw[kGf];rfl
  ·have:=k.bs r q;simp only[aW];omega
 ·rw[show(S6 κ).P=Pr κ from rfl,show(qi κ ds f).length=6 from rfl,sGf]
  refine⟨[],yW ds f,rfl,?_,rfl⟩;rw[sK,List.foldl_nil,QH]
 ·rintro B o st' ⟨c,g,l,rfl,j⟩
  cases g with
  |nil=>cases l
  | cons e g=>
   obtain⟨a,b⟩:=e;obtain⟨v,rfl⟩:=List.cons.inj l;obtain rfl:=AV.aJ.inj v;rw[show(S6 κ).P=Pr κ from rfl,show(qi κ ds f).length=6 from rfl];refine Eq.mpr (rGf κ ds f _ a b _ _) ?_;have m:=k.ed (a,b) (by rw[←j];simp);simp only at m;have y:sK ds.length (c++[(a,b)])=pO (sK ds.length c) (a,b):=by simp[sK,List.foldl_append]
   have s:(sK ds.length c).length=ds.length:=by unfold sK;rw[s9];simp
   have A:((sK ds.length c).at a).length<=c.length:=by
    have:=PC c (List.replicate ds.length []) a
    rw[F1] at this;simpa[sK] using this
   have D:c.length<=(yW ds f).length:=by rw[←j];simp
   have d: ∀st',st'=Cq κ ds f (dw (pO (sK ds.length c) (a,b)))->∃p t,Ez g=Ez t/\st'=Cq κ ds f (dw (sK ds.length p))/\p++t=yW ds f:=fun st' h=>⟨c++[(a,b)],g,rfl,by rw[y,h],by rw[←j];simp⟩
   rw[GD,M1,mr,show[Value.int IntKind.i64 b]=[b].map gZ from rfl,←List.map_append,Db];have z:(bU (dw ((sK ds.length c).set a.toNat ((sK ds.length c).at a++[b]))) a.toNat).length=((sK ds.length c).at a).length+1:=by
    rw[mr,FW _ _ _ _ (by omega),if_pos rfl];simp
   rw[z];simp only[ai,ad,ao0,an9,List.length_map,jw];refine⟨⟨by omega,by omega⟩,by omega,fun e=>⟨⟨by omega,by omega⟩,?_⟩,fun e=>d _ ?_⟩
   ·have e:((sK ds.length c).at a).contains b=false:=by simpa using e
    have w:pO (sK ds.length c) (a,b)=(sK ds.length c).set a.toNat ((sK ds.length c).at a++[b]):=by
     unfold pO;rw[e,ao4]
    rw[w] at d;exact⟨⟨⟨trivial,by omega⟩,⟨by omega,by omega⟩,⟨⟨trivial,trivial⟩,trivial⟩,d _ rfl⟩,⟨trivial,by omega⟩,⟨by omega,by omega⟩,⟨⟨trivial,trivial⟩,trivial⟩,d _ rfl⟩
   ·have e:((sK ds.length c).at a).contains b=true:=by simpa using e
    unfold pO;rw[e,ao6]
 ·rintro st' ⟨c,g,l,rfl,j⟩
  obtain rfl:g=[]:=by cases g with|nil=>rfl|cons _ _=>cases l
  rw[List.append_nil] at j;rw[j];exact u
noncomputable def PE κ:=((S6 κ).addRange 42 3 129 (UM κ)).cQ fun f=>iV f N3
theorem eOr κ:aE (PE κ):=((eRe _).addRange (mRe _) (gfr _)).cQ _
theorem mOr κ:aj (PE κ):=((mRe _).addRange (Kn _)).cQ _
theorem xOa κ(N i:Nat) ls fs I n K:(vc (PE κ) 12 42 none 0 (ae (Pr κ).toProgram 42 8) (sp 63 [(3, .ptr 0 0 [] 0),(45, .int N),(46, .int i)] [.box 99 (.ptr 1 0 [] 0), .box 145 (.agg [.an 2 0 N, .an 3 0 fs.length]),LQ ls, .row 101 fs]) (bj (PE κ) 42 8 0 I n K))=(
 letI a:=AV.ptr 0 0 []
 letI b:=AV.agg
 letI c:=Obj.box
 letI d:=Obj.row
 letI e:=Obj.rows
 letI f:=AV.an
 letI g:=AV.ptr 1 0 [] 0
 letI h:=b [f 2 0 N,f 3 0 fs.length]
 ak (decide ((↑i:Int)<(↑N:Int))) (∃(e2:Vs),([a 0,AV.int (↑i:Int)],[c 145 (b [f 1 0 N,f 2 0 fs.length]),e 35
 3 ls none,d 101 fs])=([a 0,AV.int e2.a],[c 145 (b [f 1 0 e2.n,f 2 0 e2.fs.length]),e 35 3 (dw e2.L) none,
 d 101 e2.fs])/\(WG e2.n e2.m e2.L/\(e2.n+1)*e2.m<=1000000000/\(0:Int)<=e2.a/\e2.a<(↑(e2.n):Int))/\(c 99 g=c 99 g/\
 c 145 (b [f 2 0 e2.n,f 3 0 e2.fs.length])=c 145 h/\e 35 3 (dw e2.L) none=e 35 3 ls none/\True)/\aR (decide
 ((fs.length+1+1)*9<=70368744177664)) (∃(e1:Nat),e1<n/\I e1 (sp 63 [(3,a 0),(45,AV.int (↑N:Int)),(46,AV.int (IntKind.wrap
 IntKind.i64 ((↑i:Int)+(1:Int))))] [c 99 g,c 145 (b [f 2 0 e2.n,f 3 0 (fs.length+1)]),e 35 3 (dw e2.L) none,d
 101 (List.take fs.length e2.fs++[AV.eQ 3 4 (List.map gZ (iW e2.n e2.m e2.L e2.a)) (List.map (fun(e0:Int)=>AV.bool true) (iW e2.n e2.m e2.L e2.a))])])))
 (K (Exit.exit 2) (sp 63 [(3,a 0)] [c 99 g,c 145 h,e 35 3 ls none,d 101 fs]))):=by kernel_rfl
theorem xOb κ(N:Nat) ls I n K:(vc (PE κ) 12 42 none 0 (ae (Pr κ).toProgram 42 8) (sp 63 [(3, .ptr 0 0 [] 0),(45, .int N),(46, .int 0)] [.box 99 (.ptr 1 0 [] 0), .box 145 (.agg [.an 2 0 N, .nil]),LQ ls]) (bj (PE κ) 42 8 0 I n K))=(
 letI a:=AV.ptr 0 0 []
 letI b:=AV.agg
 letI c:=Obj.box
 letI d:=Obj.rows
 letI e:=AV.an
 letI f:=AV.ptr 1 0 [] 0
 letI g:=b [e 2 0 N,AV.nil]
 ak (decide ((0:Int)<(↑N:Int))) (∃(e2:Vs),([a 0,AV.int 0],[c 145 (b [e 1 0 N,AV.nil]),d 35 3 ls none])=([AV.ptr
 0 0 [] 0,AV.int e2.a],[c 145 (b [e 1 0 e2.n,AV.nil]),d 35 3 (dw e2.L) none])/\(WG e2.n e2.m e2.L/\(e2.n+1)*e2.m<=1000000000/\
 (0:Int)<=e2.a/\e2.a<(↑(e2.n):Int))/\(c 99 f=c 99 f/\c 145 (b [e 2 0 e2.n,AV.nil])=c 145 g/\d 35 3 (dw
 e2.L) none=d 35 3 ls none/\True)/\∃(e1:Nat),e1<n/\I e1 (sp 63 [(3,a 0),(45,AV.int (↑N:Int)),(46,AV.int 1)] [c 99 f,
 c 145 (b [e 2 0 e2.n,e 3 0 1]),d 35 3 (dw e2.L) none,Obj.row 101 [AV.eQ 3 4 (List.map gZ (iW e2.n e2.m e2.L e2.a)) (List.map (fun
 (e0:Int)=>AV.bool true) (iW e2.n e2.m e2.L e2.a))]])) (K (Exit.exit 2) (sp 63 [(3,a 0)] [c 99 f,c 145 g,d 35 3 ls
 none]))):=by kernel_rfl
def bx n m L k:=(List.range k).map fun(a:Nat)=>W4 (iW n m L a)
theorem lg n m L k:(bx n m L k).length=k:=by simp[bx]
theorem KU n m L k:bx n m L (k+1)=bx n m L k++[W4 (iW n m L k)]:=by
 simp[bx,List.range_succ]
structure AOf where
 n:Nat
 m:Nat
 L:Gr
 i:Nat
abbrev U2(n m:Nat)(L:Gr):Nat->List Dn.Obj
 |0=>[.box 99 (.ptr 1 0 [] 0), .box 145 (.agg [.an 2 0 n, .nil]),LQ (dw L)]
 |k+1=>[.box 99 (.ptr 1 0 [] 0), .box 145 (.agg [.an 2 0 n, .an 3 0 (bx n m L (k+1)).length]),LQ (dw L), .row 101 (bx n m L (k+1))]
abbrev QW(x:AOf):=sp 63 [(3, .ptr 0 0 [] 0),(45, .int x.n),(46, .int x.i)] (U2 x.n x.m x.L x.i)
def Mr(x:AOf):=WG x.n x.m x.L/\(x.n+1)*x.m<=1000000000/\x.i<=x.n/\x.n<=60
def SM(x:AOf):Out (Exit×S):= .ak (Nat.beq x.n 0)
 (.one (.exit 2,sp 63 [(3, .ptr 0 0 [] 0)] [.box 99 (.ptr 1 0 [] 0), .box 145 (.agg [.an 2 0 x.n, .nil]),LQ (dw x.L)]))
 (.one (.exit 2,sp 63 [(3, .ptr 0 0 [] 0)] [.box 99 (.ptr 1 0 [] 0), .box 145 (.agg [.an 2 0 x.n, .an 3 0 (bx x.n x.m x.L x.n).length]),LQ (dw x.L), .row 101 (bx x.n x.m x.L x.n)]))
theorem lOa κ:aX (PE κ) 12 42 8 (aG 0 QW Mr SM):=by
 refine aD (fun x=>x.n - x.i) ?_;rintro⟨n,m,L,i⟩ K ⟨b,a,f,d⟩ c;simp only at b a f d;rw[show(PE κ).P=Pr κ from rfl];cases i with
 | zero=>
  refine Eq.mpr (xOb κ n (dw L) _ _ K) ?_;rw[ad,an9,ao1];refine⟨fun h=>⟨⟨n,m,L,[],0⟩,rfl,⟨b,a,by simp only;omega,h⟩,⟨rfl,rfl,rfl,trivial⟩,_,?_,⟨n,m,L,1⟩,rfl,⟨b,a,?_,d⟩,rfl,c⟩,fun h=>?_⟩
  ·simp only;omega
  ·simp only;omega
  ·obtain rfl:n=0:=by omega
   exact c
 | succ k=>
  refine Eq.mpr (xOa κ n (k+1) (dw L) (bx n m L (k+1)) _ _ K) ?_;rw[ad,an9,ao1];refine⟨fun h=>⟨⟨n,m,L,bx n m L (k+1),((k+1:Nat):Int)⟩,rfl,⟨b,a,by simp only;omega,h⟩,⟨rfl,rfl,rfl,trivial⟩,?_⟩,fun h=>?_⟩
  ·have e:sp 63 [(3, .ptr 0 0 [] 0),(45, .int n),(46, .int (((k+1:Nat):Int)+1))] [.box 99 (.ptr 1 0 [] 0), .box 145 (.agg [.an 2 0 n, .an 3 0 ((bx n m L (k+1)).length+1)]),LQ (dw L), .row 101 (List.take (bx n m L (k+1)).length (bx n m L (k+1))++[W4 (iW n m L ((k+1:Nat):Int))])]=QW ⟨n,m,L,k+2⟩:=by
    rw[List.take_length,←KU];simp only[QW,U2,lg];rfl
   rw[ai,an9,az (n:=((k+1:Nat):Int)+1) (by omega) (by omega)];refine⟨by rw[lg];omega,_,?_,⟨n,m,L,k+2⟩,e,⟨b,a,?_,d⟩,rfl,c⟩
   ·simp only;omega
   ·simp only;omega
  ·obtain rfl:n=k+1:=by omega
   exact c
noncomputable def X2 κ:=(PE κ).aq 42 8 (aG 0 QW Mr SM)
theorem eOa κ:aE (X2 κ):=(eOr _).aq (mOr _) (lOa _)
theorem mOa κ:aj (X2 κ):=(mOr _).aq aI
theorem yOg κ ds rs K:(a9 (X2 κ) 12 42 [eg ds rs] [] K)=(
 letI a:=AV.ptr 0 0 []
 letI b:=AV.int
 letI c:=AV.ptr
 letI d:=AV.agg
 letI e:=Obj.box
 letI f:=Obj.rows
 letI g:=AV.ah
 letI h:=AV.an
 letI i:=AV.nil
 letI j:=Int.toNat (↑(ds.length):Int)
 letI l:=d [g 43 ds,g 48 rs]
 letI m:=Pg.toProgram (Env.P (PE κ))
 aR (true&&decide ((↑(ds.length):Int)<=(↑(ds.length):Int))&&decide ((Int.toNat (↑(ds.length):Int)+1)*25<=70368744177664)&&true) (∃(e1:yt),letI k:=[g 43 e1.1,g 48 e1.2];letI n:=[h 1 0 e1.1.length,i];([c 4 0 [] 0],[e 25 l,f 35 3 (List.replicate j []) none,e 145 (d [h 1 0 j,i]),e 99 (c 2 0 [] 0),e 25 l,Dn.Obj.loop (iM Tryz.prog 42 3 LoopState.ready none (ic (bM 63) [(0,d [g 43 ds,g 48 rs]),(1,a 0),(2,AV.lit (Value.pointer none)),(3,c 3 0 [] 0),(7,c 0 0 [0] 0),(8,g 43 ds),(9,b (↑(ds.length):Int)),(10,h 1 0 j),(11,d [h 1 0 j,i]),(12,c 2 0 [] 0),(13,d [g 43 ds,g 48 rs]),(14,AV.bn 129 [c 4 0 [] 0])]))])=([c 4 0 [] 0],[e 25 (d k),f 35 3 (List.replicate e1.1.length []) none,e 145 (d n),e 99 (c 2 0 [] 0),e 25 (d k),Dn.Obj.loop (iM Tryz.prog 42 3 LoopState.ready none (ic (bM 63) [(0,d k),(1,a 0),(2,AV.lit (Value.pointer none)),(3,c 3 0 [] 0),(7,c 0 0 [0] 0),(8,g 43 e1.1),(9,b (↑(e1.1.length):Int)),(10,h 1 0 e1.1.length),(11,d n),(12,c 2 0 [] 0),(13,d k),(14,AV.bn 129 [c 4 0 [] 0])]))])/\qW e1.1 e1.2/\ae m 42 8=ae m 42 8/\∃(e0:AOf),sp 63 [(3,a 0),(45,b (↑(e1.1.length):Int)),(46,b 0)] [e 99 (c 1 0 [] 0),e 145 (d [h 2 0 e1.1.length,i]),f 35 3 (dw (sK e1.1.length (yW e1.1 e1.2))) none]=sp 63 [(3,a 0),(45,b (↑(e0.n):Int)),(46,b (↑(e0.i):Int))] (U2 e0.n e0.m e0.L e0.i)/\(WG e0.n e0.m e0.L/\(e0.n+1)*e0.m<=1000000000/\e0.i<=e0.n/\e0.n<=60)/\ak (Nat.beq e0.n 0) (K (a 0) [e 145 (d [h 1 0 e0.n,i]),f 35 3 (dw e0.L) none]) (K (a 0) [e 145 (d [h 1 0 e0.n,h 2 0 (List.length (bx e0.n e0.m e0.L e0.n))]),f 35 3 (dw e0.L) none,Obj.row 101 (bx e0.n e0.m e0.L e0.n)]))):=by kernel_rfl
def yo ds a:=sK ds.length (yW ds a)
def pS ds rs:=(yW ds rs).length
def YY(x:yt):List AV×List Dn.Obj:=([eg x.1 x.2],[])
def SX(x:yt):Out (AV×List Dn.Obj):= .ak (Nat.beq x.1.length 0)
 (.one (.ptr 0 0 [] 0,yA x.1.length (dw (yo x.1 x.2))))
 (.one (.ptr 0 0 [] 0,uB x.1.length (dw (yo x.1 x.2)) (bx x.1.length (pS x.1 x.2) (yo x.1 x.2) x.1.length)))
theorem qW.le{ds a}(h:qW ds a):(ds.length+1)*pS ds a<=1000000000:=by
 have c:=h.hd;have d:=h.hr;have b:=BS ds _ h.bs;refine Nat.le_trans (Nat.mul_le_mul (show ds.length+1<=61 by omega) (by unfold pS;omega)) (by omega)
theorem qW.wg{ds a}(h:qW ds a):WG ds.length (pS ds a) (yo ds a):=VB h.ed
theorem cOg κ:bg (X2 κ) 12 42 (aO YY (fun x=>qW x.1 x.2) SX):=by
 refine aU ?_;rintro⟨ds,b⟩ K a c;simp only at a;refine Eq.mpr (yOg κ ds b K) ?_;have hd:=a.hd;simp only[ai,ao0];exact⟨by grind,(ds,b),rfl,a,trivial,⟨ds.length,pS ds b,yo ds b,0⟩,rfl,⟨a.wg,a.le,Nat.zero_le _,hd⟩,c⟩
noncomputable def Yd κ:=(X2 κ).aw 42 (aO YY (fun x=>qW x.1 x.2) SX)
theorem eOf κ:aE (Yd κ):=(eOa _).aw (mOa _) (cOg _)
theorem mOf κ:aj (Yd κ):=(mOa _).aw aH
end Go.Proofs.YtioeffnadipbaaaGreatDoor
