import Derived.Test.YtioeffnadipbaaaGreatDoorDeP1
import Derived.Test.YtioeffnadipbaaaGreatDoorDeP6
namespace Go.Rl
open Go Go.Dn
abbrev Gr:=List (List Int)
def Gr.at(L:Gr)(a:Int):List Int:=L.getD a.toNat []
def pO(L:Gr)(e:Int×Int):=bif (L.at e.1).contains e.2 then L else L.set e.1.toNat (L.at e.1++[e.2])
def s7 n(E:List _):=E.foldl pO (List.replicate n [])
theorem Ck L e:(pO L e).length=L.length:=by
 grind [pO]
theorem sG: ∀(E:List _) L,(E.foldl pO L).length=L.length
 |[],_=>rfl
 |e::E,L=>by rw[List.foldl_cons,sG E,Ck]
theorem EZ(L:Gr)(a b:Int) x(c:a.toNat<L.length):Gr.at (L.set a.toNat x) b=if a.toNat=b.toNat then x else L.at b:=by
 grind [Gr.at]
theorem Nv L e(f:0<=e.1/\e.1.toNat<L.length) a b(g:0<=a):b∈(pO L e).at a↔b∈L.at a\/(a,b)=e:=by
 obtain⟨c,d⟩:=e;unfold pO;cases h:(L.at c).contains d with
 |true=>
  grind
 |false=>
  rw[ar9,EZ L c a _ f.2]
  grind
theorem zf: ∀(E:List _) L,(∀e,e∈E->0<=e.1/\e.1.toNat<L.length)->∀a b:Int,0<=a->(b∈Gr.at (E.foldl pO L) a↔b∈L.at a\/(a,b)∈E)
 |[],L,_,a,b,_=>by simp
 |e::E,L,h,a,b,c=>by
  rw[List.foldl_cons,zf E _ fun x d=>by grind [Ck] a b c,Nv L e (h e (by simp)) a b c,at4,or_assoc]
theorem Mn: ∀(E:List _) L a,(Gr.at (E.foldl pO L) a).length<=(L.at a).length+E.length
 |[],L,a=>by simp
 | e ::E,L,a=>by
  rw[List.foldl_cons];refine Nat.le_trans (Mn E (pO L e) a) ?_;have:((pO L e).at a).length<=(L.at a).length+1:=by
   unfold pO;cases(L.at e.1).contains e.2 with
   |true=>rw[as1];omega
   | false=>
    rw[ar9];by_cases c:e.1.toNat<L.length
    ·rw[EZ L e.1 a _ c]
     by_cases b:e.1.toNat=a.toNat
     ·simp_all[if_pos,as9,List.length_singleton,Gr.at]
     ·rw[if_neg b];omega
    ·rw[List.set_eq_of_length_le (by omega)];omega
  grind
theorem EY n a:Gr.at (List.replicate n []) a=[]:=by
 grind [Gr.at]
structure WG(n m:Nat)(L:Gr):Prop where
 len:L.length=n
 le: ∀a,(L.at a).length<=m
 lp: ∀a,0<=a->∀b,b∈L.at a->0<=b/\b<n
theorem RO{n:Nat}{E:List (Int×Int)}(h: ∀e,e∈E->(0<=e.1/\e.1<n)/\0<=e.2/\e.2<n){a b}(c:0<=a):b∈(s7 n E).at a↔(a,b)∈E:=by
 grind [s7,zf,EY]
theorem Wa{n:Nat}{E:List (Int×Int)}(h: ∀e,e∈E->(0<=e.1/\e.1<n)/\0<=e.2/\e.2<n):WG n E.length (s7 n E):=by
 refine⟨by unfold s7;rw[sG];simp,fun a=>?_,fun a d b c=>?_⟩
 ·grind [Mn,EY,s7]
 grind [RO]
inductive yk (L:Gr):Int->Int->Prop
 |refl (a:Int):yk L a a
 |step {a b c:Int} (h:b∈L.at a) (k:yk L b c):yk L a c
def Rc L a b:=∃c,c∈L.at a/\yk L c b
theorem yk.trans{L a b c}(h:yk L a b)(k:yk L b c):yk L a c:=by
 induction h<;>grind [step]
theorem Rc.trans{L a b c}(h:Rc L a b)(k:Rc L b c):Rc L a c:=by
 obtain⟨d,g,i⟩:=h;obtain⟨e,j,f⟩:=k;exact⟨d,g,i.trans (.step j f)⟩
theorem Rc.step{L a b c}(h:Rc L a b)(k:c∈L.at b):Rc L a c:=h.trans ⟨c,k, .refl c⟩
theorem Rc.mono{L M}(h: ∀a b,0<=a->b∈L.at a->b∈M.at a/\0<=b){a b}(g:0<=a)(k:Rc L a b):Rc M a b:=by
 obtain⟨c,f,i⟩:=k;have st: ∀{x y:Int},yk L x y->0<=x->yk M x y:=fun{x y} k=>by
  induction k with
  |refl=>intro _;exact .refl _
  |step e _ j=>intro d;exact .step (h _ _ d e).1 (by grind)
 exact⟨c,by grind,by grind⟩
theorem Rc.lp{n m L}(e:WG n m L){a b}(f:0<=a)(h:Rc L a b):0<=b/\b<n:=by
 obtain⟨c,d,g⟩:=h;have:=e.lp a f c d
 clear d;induction g with
 |refl=>grind
 |step h _ i=>exact i (e.lp _ this.1 _ h)
def ft(l:List Int):Int:=l.getLastD 0
def KI(L:Gr):Nat->List Int->List Int->List Int
 |0,_,a=>a
 |_+1,[],a=>a
 |f+1,t::todo,a=>bif a.contains (ft (t::todo)) then KI L f (t::todo).dropLast a else KI L f ((t::todo).dropLast++L.at (ft (t::todo))) (a++[ft (t::todo)])
def jO n:=(List.range n).map fun(k:Nat)=>(k:Int)
theorem oG{n a}:a∈jO n↔0<=a/\a<n:=by
 simp[jO];refine⟨?_,fun h=>⟨a.toNat,by omega,by omega⟩⟩;omega
theorem pq{α:Type}{p q}: ∀{l:List α},(∀x,x∈l->p x=true->q x=true)->(∃x,x∈l/\q x=true/\p x=false)->l.countP p<l.countP q
 |[],_,h=>by grind
 | a::l,h,⟨x,b,d,c⟩=>by
  have f:=List.countP_mono_left (l:=l) (p:=p) (q:=q) (by grind);simp only[List.countP_cons];rcases List.mem_cons.1 b with rfl|b
  ·grind
  ·have e:=pq (l:=l) (by grind) ⟨x,b,d,c⟩
   grind
def EA n(a:List _):=(jO n).countP fun x=>!a.contains x
theorem G5 n a:EA n a<=n:=by
 grind [List.countP_le_length,jO,EA]
theorem Jf{n:Nat}{a}{b:Int}(c:0<=b/\b<n)(e:a.contains b=false) l(d:b∈l):EA n (a++l)<EA n a:=by
 refine pq (fun x _ h=>?_) ⟨b,oG.2 c,by grind,by grind⟩
 grind
def ms n m(todo a:List Int):=EA n a*(m+1)+todo.length
theorem oC{t todo}:ft (t::todo)∈t::todo:=by
 grind [ft]
theorem yO{t todo}:(t::todo).dropLast++[ft (t::todo)]=t::todo:=by
 grind [ft,List.dropLast_concat_getLast]
theorem A4 n m t todo a:ms n m (t::todo).dropLast a<ms n m (t::todo) a:=by
 grind [ms]
theorem A3{n m L}(e:WG n m L) t todo a(c:0<=ft (t::todo)/\ft (t::todo)<n)(b:a.contains (ft (t::todo))=false):
  ms n m ((t::todo).dropLast++L.at (ft (t::todo))) (a++[ft (t::todo)])<ms n m (t::todo) a:=by
 unfold ms;have d:=Jf c b [ft (t::todo)] (by simp);have g:=e.le (ft (t::todo));have f:=Nat.mul_le_mul_right (m+1) d
 grind
structure Sd(n m:Nat)(todo met:List Int):Prop where
 ht: ∀x,x∈todo->0<=x/\x<n
 hm: ∀x,x∈met->0<=x/\x<n
 le:todo.length+EA n met*m<=(n+1)*m
theorem Sd.pop{n m t todo a}(h:Sd n m (t::todo) a):Sd n m (t::todo).dropLast a:=
 ⟨fun x b=>h.ht x (List.dropLast_subset _ b),h.hm,by have:=h.le;grind⟩
theorem Sd.add{n m L}(d:WG n m L){t todo a}(h:Sd n m (t::todo) a)(g:a.contains (ft (t::todo))=false):Sd n m ((t::todo).dropLast++L.at (ft (t::todo))) (a++[ft (t::todo)]):=by
 have c:=h.ht _ oC;refine⟨fun x b=>?_,fun x b=>?_,?_⟩
 ·rcases List.mem_append.1 b with b|b
  ·exact h.ht x (List.dropLast_subset _ b)
  ·exact d.lp _ c.1 x b
 ·rcases List.mem_append.1 b with b|b
  ·exact h.hm x b
  grind
 ·have e:=Jf c g [ft (t::todo)] (by simp)
  have j:=d.le (ft (t::todo));have f:=Nat.mul_le_mul_right m (show EA n (a++[ft (t::todo)])+1<=EA n a from e);rw[Nat.add_mul] at f;have i:=h.le
  grind
theorem Sd.start{n m L}(b:WG n m L){a}(d:0<=a):Sd n m (L.at a) []:=
 ⟨fun x c=>b.lp a d x c,by simp,by
  have f:=b.le a;have e:=Nat.mul_le_mul_right m (G5 n [])
  grind⟩
theorem rT{n m L}(b:WG n m L): ∀f g todo a,Sd n m todo a->ms n m todo a<=f->ms n m todo a<=g->KI L f todo a=KI L g todo a
 |0,g,todo,a,_,h,_=>by
  have:todo=[]:=by unfold ms at h;simp_all
  subst this;cases g<;>rfl
 |f+1,0,todo,a,_,_,h=>by
  have:todo=[]:=by unfold ms at h;simp_all
  subst this;rfl
 |f+1,g+1,[],a,_,_,_=>rfl
 | f+1,g+1,t::todo,a,c,e,i=>by
  rw[KI,KI];cases d:a.contains (ft (t::todo)) with
  |true=>
   have:=A4 n m t todo a
   rw[as1,as1];exact rT b f g _ _ c.pop (by omega) (by omega)
  |false=>
   have:=A3 b t todo a (c.ht _ oC) d
   exact rT b f g _ _ (c.add b d) (by omega) (by omega)
def xD n m L todo a:=KI L (ms n m todo a) todo a
theorem DG n m L a:xD n m L [] a=a:=by
 unfold xD;cases ms n m _ _<;>rfl
theorem KJ{n m L}(b:WG n m L){t todo a}(c:Sd n m (t::todo) a):
  xD n m L (t::todo) a=bif a.contains (ft (t::todo)) then xD n m L (t::todo).dropLast a else xD n m L ((t::todo).dropLast++L.at (ft (t::todo))) (a++[ft (t::todo)]):=by
 have e:ms n m (t::todo) a=ms n m (t::todo) a - 1+1:=by rfl
 unfold xD;rw[e,KI];cases d:a.contains _ with
 |true=>
  have:=A4 n m t todo a
  exact rT b _ _ _ _ c.pop (by omega) (Nat.le_refl _)
 |false=>
  have:=A3 b t _ _ (c.ht _ oC) d
  exact rT b _ _ _ _ (c.add b d) (by omega) (Nat.le_refl _)
theorem Bs{n m L}(g:WG n m L)(P:Int->Prop)(l: ∀x y,P x->y∈L.at x->P y): ∀f todo b,Sd n m todo b->ms n m todo b<=f->(∀x,x∈todo\/x∈b->P x)->(∀x,x∈b->∀y,y∈L.at x->y∈b\/y∈todo)->
  (∀x,x∈KI L f todo b->P x)/\(∀x,x∈todo\/x∈b->x∈KI L f todo b)/\∀x,x∈KI L f todo b->∀y,y∈L.at x->y∈KI L f todo b
 |0,todo,b,_,h,c,d=>by
  have:todo=[]:=by unfold ms at h;exact List.eq_nil_of_length_eq_zero (by omega)
  subst this;exact⟨fun x a=>c x (.inr a),fun x a=>a.resolve_left (by simp),fun x a y e=>(d x a y e).resolve_right (by simp)⟩
 |f+1,[],b,_,_,c,d=>⟨fun x a=>c x (.inr a),fun x a=>a.resolve_left (by simp),fun x a y e=>(d x a y e).resolve_right (by simp)⟩
 | f +1,t::todo,b,j,h,c,d=>by
  have hd: ∀x,x∈t::todo->x∈(t::todo).dropLast\/x=ft (t::todo):=fun x a=>by
   rw[←yO (t:=t) (todo:=todo)] at a;simpa using a
  rw[KI];cases k:b.contains (ft (t::todo)) with
  | true=>
   have r:ft (t::todo)∈b:=by simpa using k
   have:=A4 n m t todo b
   rw[as1];obtain⟨p,i,q⟩:=Bs g P l f (t::todo).dropLast b j.pop (by omega) (fun x a=>c x (a.imp (fun h=>List.dropLast_subset _ h) id)) (fun x a y e=>by
    rcases d x a y e with h|h
    ·exact .inl h
    ·rcases hd y h with h|rfl
     ·exact .inr h
     ·exact .inl r)
   refine⟨p,fun x a=>?_,q⟩;rcases a with a|a
   ·rcases hd x a with h|rfl
    ·exact i x (.inl h)
    ·exact i _ (.inr r)
   ·exact i x (.inr a)
  | false=>
   have:=A3 g t todo b (j.ht _ oC) k
   have o:=c _ (.inl (oC (t:=t) (todo:=todo)));rw[ar9];obtain⟨p,i,q⟩:=Bs g P l f _ _ (j.add g k) (by omega) (fun x a=>by
    rcases a with a|a
    ·rcases List.mem_append.1 a with a|a
     ·exact c x (.inl (List.dropLast_subset _ a))
     ·exact l _ _ o a
    ·rcases List.mem_append.1 a with a|a
     ·exact c x (.inr a)
     ·rw[List.mem_singleton] at a;rw[a];exact o) (by grind)
   grind
def iR n m L a:=xD n m L (L.at a) []
theorem Ri{n m L}(d:WG n m L){a b}(f:0<=a):b∈iR n m L a↔Rc L a b:=by
 obtain⟨j,g,q⟩:=Bs d (Rc L a) (fun x y h k=>h.step k) _ _ _ (Sd.start d f) (Nat.le_refl _) (fun x p=>⟨x,by grind, .refl x⟩) (by simp);refine⟨j b,?_⟩;rintro⟨c,e,i⟩;have l:=g c (.inl e);clear e;induction i with
 |refl=>exact l
 |step h _ o=>grind
def ll n m L a b:=decide (a=b)||(iR n m L a).contains b&&(iR n m L b).contains a
theorem NA n m L a:ll n m L a a=true:=by simp[ll]
section
variable {n m:Nat} {L:Gr}
def ig n m L a:=(jO n).filter (ll n m L a)
def kP n m L(done:List Int) a:=!done.contains a&&(iR n m L a).all fun b=>done.contains b||ll n m L a b
def gY n m L done:=((jO n).find? (kP n m L done)).getD (-1)
def vB(done l:List Int):=l.foldl (fun d b=>bif d.contains b then d else d++[b]) done
def yp(n m:Nat)(L:Gr):Nat->List Int->List (List Int)
 |0,_=>[]
 |f+1,done=>bif decide (gY n m L done<0) then[] else ig n m L (gY n m L done)::yp n m L f (vB done (ig n m L (gY n m L done)))
theorem wZ: ∀l done x,x∈vB done l↔x∈done\/x∈l
 |[],done,x=>by simp[vB]
 |b::l,done,x=>by
  have a:=wZ l (bif done.contains b then done else done++[b]) x
  grind [vB]
theorem zj{done}(h:0<=gY n m L done):(0<=gY n m L done/\gY n m L done<n)/\kP n m L done (gY n m L done)=true:=by
 unfold gY at h⊢;cases e:(jO n).find? _<;>grind [oG]
theorem RH{a b}:b∈ig n m L a↔(0<=b/\b<n)/\ll n m L a b=true:=by
 unfold ig;rw[List.mem_filter,oG]
theorem B5{done}(h:0<=gY n m L done):EA n (vB done (ig n m L (gY n m L done)))<EA n done:=by
 obtain⟨b,a⟩:=zj h;have c:=by
  simp only[kP,ar5,Bool.not_eq_true'] at a;exact a.1
 refine pq (fun x _ d=>?_) ⟨gY n m L done,oG.2 b,by simpa using c,?_⟩
 ·simp_all[wZ,not_or]
 simp_all[ar4,wZ,RH,NA]
theorem yX: ∀f g done,EA n done<f->EA n done<g->yp n m L f done=yp n m L g done
 |0,_,_,h,_=>by omega
 |_+1,0,_,_,h=>by omega
 | f+1,g+1,done,b,a=>by
  rw[yp,yp];cases h:decide (gY n m L done<0) with
  |true=>rfl
  |false=>
   have:=B5     (by simpa using h)
   rw[ar9,ar9,yX f g _ (by omega) (by omega)]
def ub n m L done:=yp n m L (EA n done+1) done
theorem CL done:ub n m L done=bif decide (gY n m L done<0) then[] else ig n m L (gY n m L done)::ub n m L (vB done (ig n m L (gY n m L done))):=by
 unfold ub;rw[yp];cases h:decide (gY n m L _<0) with
 |true=>rfl
 |false=>
  have:=B5     (by simpa using h)
  rw[ar9,ar9,yX _ _ _ (by omega) (Nat.lt_succ_self _)]
end
end Go.Rl
namespace Go.Proofs.YtioeffnadipbaaaGreatDoor
open Go Go.Dn Go.Rl Go.Proofs
attribute [local irreducible] a0 vc
set_option maxRecDepth 20000
def jP(op:Int):Bool:=decide (op=1)
def ik(a:Int):=bif decide (a=2) then true else decide (a>=7)
def dM(a:Int):=bif decide (a<3) then true else decide (a>6)
theorem yKa κ op K:(a0 (XZ κ) 12 90 [.int op] [] K)=(
 K (AV.bool (op==(1:Int))) []):=by kernel_rfl
def gKa:List AV->Option (Bool×AV)
 |[.lit (.int .i64 a)]=>some (true, .bool (jP a))
 |_=>none
theorem pKa κ:cd (XZ κ) 12 90 gKa:=by
 intro b x a;unfold gKa at a;split at a
 ·rename_i c
  simp   at a;subst a;exact⟨_,rfl,rfl,Eq.mpr (yKa κ _ _) (by rfl)⟩
 grind
noncomputable def Ya κ:=(XZ κ).aK 90 gKa
theorem eKa κ:aE (Ya κ):=(eCs _).aK (mCs _) (pKa _)
theorem mKa κ:aj (Ya κ):=(mCs _).aK
theorem yKb κ op K:(a0 (Ya κ) 12 88 [.int op] [] K)=(
 aq (op==(2:Int)) (K (AV.bool true) []) (K (AV.bool (decide (op>=(7:Int)))) [])):=by kernel_rfl
def gKb:List AV->Option (Bool×AV)
 |[.lit (.int .i64 a)]=>some (true, .bool (ik a))
 |_=>none
theorem pKb κ:cd (Ya κ) 12 88 gKb:=by
 intro b x a;unfold gKb at a;split at a
 ·rename_i c
  simp   at a;subst a;refine⟨_,rfl,rfl,Eq.mpr (yKb _ _ _) ?_⟩;simp[Xq];unfold ik;cases decide (c=2)<;>rfl
 grind
noncomputable def Yb κ:=(Ya κ).aK 88 gKb
theorem eKb κ:aE (Yb κ):=(eKa _).aK (mKa _) (pKb _)
theorem mKb κ:aj (Yb κ):=(mKa _).aK
theorem yKc κ(a:LA) K:(a0 (Yb κ) 12 130 [a.av] [] K)=(
 aq (decide (a.op<(3:Int))) (K (AV.bool true) []) (K (AV.bool (decide (a.op>(6:Int)))) [])):=by kernel_rfl
def gKc:List AV->Option (Bool×AV)
 |[.agg [.lit (.int .i64 a), .agg [.lit (.string _), .ah 38 _], .agg [.lit (.int .i64 _), .lit (.string _), .lit (.int .i64 _), .ah 38 _], .agg [.lit (.int .i64 _), .lit (.string _), .lit (.int .i64 _), .ah 38 _]]]=>some (true, .bool (dM a))
 |_=>none
theorem pKc κ:cd (Yb κ) 12 130 gKc:=by
 intro b x a;unfold gKc at a;split at a
 ·rename_i c s l e s1 f g h s2 i d
  simp only[ar7,as3,true_and] at a;subst a;refine⟨_,rfl,rfl,Eq.mpr (yKc κ ⟨c,s,l,e,s1,f,g,h,s2,i,d⟩ _) ?_⟩;unfold dM;simp only;cases decide (c<3)<;>rfl
 ·cases a
noncomputable def QI κ:=(Yb κ).aK 130 gKc
theorem eKc κ:aE (QI κ):=(eKb _).aK (mKb _) (pKc _)
theorem mKc κ:aj (QI κ):=(mKb _).aK
theorem xKd κ l k i I n K:(vc (QI κ) 12 131 none 0 (ad (Pr κ).toProgram 131 2) (sp 19 [(0, .ah 3 l),(1, .int k),(7, .int l.length),(8, .int i)] []) (bj (QI κ) 131 2 0 I n K))=(
 letI a:=i<(↑(l.length):Int)
 aq (decide a) (aV (decide ((0:Int)<=i)&&decide a) (aq (k==toInt (nth l i.toNat)) (K Exit.ret (sp 19 [(4,AV.int i)] [])) (∃(e0:Nat),e0<n/\I e0
 (sp 19 [(0,AV.ah 3 l),(1,AV.int k),(7,AV.int (↑(l.length):Int)),(8,AV.int (IntKind.wrap IntKind.i64 (i+(1:Int))))] [])))) (K (Exit.exit 0) (sp 19
 [] []))):=by kernel_rfl
def gZ(k:Int):List AV->Int->Int
 |[],_=> -1
 |a::l,i=>bif decide (k=toInt a) then i else gZ k l (i+1)
abbrev ad8(a:List _×Int×Int):=sp 19 [(0, .ah 3 a.1),(1, .int a.2.1),(7, .int a.1.length),(8, .int a.2.2)] []
def OU(a:List AV×Int×Int):=a.1.length<=aW/\0<=a.2.2/\a.2.2<=a.1.length
def Il(a:List AV×Int×Int):Out (Exit×S):= .aq (decide (gZ a.2.1 (a.1.drop a.2.2.toNat) a.2.2>=0)) (.one (.ret,sp 19 [(4, .int (gZ a.2.1 (a.1.drop a.2.2.toNat) a.2.2))] [])) (.one (.exit 0,sp 19 [] []))
theorem lKd κ:aU (QI κ) 12 131 2 (aG 0 ad8 OU Il):=by
 refine aC (fun a=>a.1.length - a.2.2.toNat) ?_;rintro⟨l,s,i⟩ K ⟨d,c,g⟩ b;simp only at d c g;rw[show(QI κ).P=Pr κ from rfl];refine Eq.mpr (xKd κ l s i _ _ K) ?_;simp only[aW] at d;simp only[Il,Out.run,ae] at b;simp only[ae,ai,ar4,ar6,ar5,beq_iff_eq,beq_eq_false_iff_ne];refine⟨fun f=>⟨⟨c,f⟩,fun e=>?_,fun e=>?_⟩,fun f=>?_⟩
 ·rw[as5 (show i.toNat<l.length by omega),←aM l i.toNat (by omega),gZ,as0 e,as1,as0 (show i>=0 from c)] at b
  exact b.1 rfl
 ·rw[az (n:=i+1) (by omega) (by omega)]
  refine⟨_,?_,(l,s,i+1),rfl,⟨by simpa[aW] using d,by simp only;omega,by simp only;omega⟩,rfl,?_⟩
  ·simp only;omega
  ·rw[as5 (show i.toNat<l.length by omega),←aM l i.toNat (by omega),gZ,ar8 e,ar9] at b
   simp only[Il,Out.run,ae,show(i+1).toNat=i.toNat+1 by omega];exact b
 ·rw[as2 (by omega)] at b
  exact b.2 rfl
noncomputable def Yc κ:=(QI κ).an 131 2 (aG 0 ad8 OU Il)
theorem eKd κ:aE (Yc κ):=(eKc _).an (mKc _) (lKd _)
theorem mKd κ:aj (Yc κ):=(mKc _).an aJ
theorem yKe κ l k K:(a0 (Yc κ) 12 131 [.ah 3 l, .int k] [] K)=(
 letI b:=AV.int
 ad (Pg.toProgram (Env.P (QI κ))) 131 2=ad (Pg.toProgram (Env.P (QI κ))) 131 2/\∃(a:List AV×Int×Int),letI c:=List.drop (Int.toNat a.2.2) a.1;sp 19 [(0,AV.ah 3 l),(1,b k),(7,b (↑(l.length):Int)),(8,b 0)] []=sp 19 [(0,AV.ah 3 a.1),(1,b a.2.1),(7,b (↑(a.1.length):Int)),(8,b a.2.2)] []/\(a.1.length<=9223372036854775807/\(0:Int)<=a.2.2/\a.2.2<=(↑(a.1.length):Int))/\aq (decide (gZ a.2.1 c a.2.2>=(0:Int))) (K (b (gZ a.2.1 c a.2.2)) []) (K (b (-1)) [])):=by kernel_rfl
def gKe:List AV->Option (Bool×AV)
 |[.ah 3 l, .lit (.int .i64 k)]=>some (decide (l.length<=aW), .int (gZ k l 0))
 |_=>none
theorem xv s: ∀l i,¬ gZ s l i>=0->0<=i->gZ s l i= -1
 |[],_,_,_=>rfl
 |a::l,i,h,b=>by
  simp only[gZ] at h⊢;cases e:decide (s=toInt a) with
  |true=>grind
  |false=>rw[e] at h;exact xv s l _ h (by omega)
theorem pKe κ:cd (Yc κ) 12 131 gKe:=by
 intro b x a;unfold gKe at a;split at a
 ·rename_i l s
  simp only[ar7,as3,ar4] at a;obtain⟨c,rfl⟩:=a;refine⟨_,rfl,rfl,?_⟩;refine Eq.mpr (yKe κ l s _) ?_;refine⟨rfl,(l,s,0),rfl,⟨c,by simp only;omega,by simp only;omega⟩,?_⟩
  simp_all[Int.toNat_zero,as4,ae,ar4,trivial,xv]
 ·cases a
noncomputable def Yd κ:=(Yc κ).aK 131 gKe
theorem eKe κ:aE (Yd κ):=(eKd _).aK (mKd _) (pKe _)
theorem mKe κ:aj (Yd κ):=(mKd _).aK
theorem yKf κ l k K:(a0 (Yd κ) 12 85 [.ah 3 l, .int k] [] K)=(
 aV (decide (l.length<=9223372036854775807)) (K (AV.bool (decide (gZ k l (0:Int)>=(0:Int)))) [])):=by kernel_rfl
def YZ k l:=decide (gZ k l 0>=0)
def gKf:List AV->Option (Bool×AV)
 |[.ah 3 l, .lit (.int .i64 k)]=>some (decide (l.length<=aW), .bool (YZ k l))
 |_=>none
theorem pKf κ:cd (Yd κ) 12 85 gKf:=by
 intro b x a;unfold gKf at a;split at a
 ·rename_i l s
  simp   at a;obtain⟨c,rfl⟩:=a;refine⟨_,rfl,rfl,?_⟩;refine Eq.mpr (yKf _ l s _) ?_;rw[ai,ar4];exact⟨c,rfl⟩
 grind
noncomputable def QJ κ:=(Yd κ).aK 85 gKf
theorem eKf κ:aE (QJ κ):=(eKe _).aK (mKe _) (pKf _)
theorem mKf κ:aj (QJ κ):=(mKe _).aK
theorem zt k: ∀l i,0<=i->(gZ k (iA l) i>=0↔k∈l)
 |[],_,_=>by simp[iA,gZ]
 |a::l,i,c=>by
  have b:=zt k l (i+1) (by omega);simp only[iA,at3,gZ] at b⊢
  grind [toInt]
theorem M1 k l:YZ k (iA l)=l.contains k:=by
 grind [YZ,zt]
def Fl(ds:List AV)(a:Int):List AV->List (Int×Int)
 |[]=>[]
 |l::b=>bif dM (toInt (ag l 0)) then(a,bx (toStr (ag (ag l 1) 0)) ds)::Fl ds a b else Fl ds a b
def edR ds r:=Fl ds (bx (toStr (ag (ag r 0) 0)) ds) (af (ag r 1))
def yP(ds rs:List _):=rs.flatMap (edR ds)
def Ey(E:List (Int×Int)):List AV:=E.map fun e=> .aH [.int e.1, .int e.2]
theorem Rw E F:Ey (E++F)=Ey E++Ey F:=by simp[Ey]
structure Qb where
 ds:List AV
 rs:List AV
 xs:List AV
 more:List AV
 bl:List AV
 a:Int
 i:Int
 j:Int
abbrev PG(x:Qb):=sp 53 [(0, .cf 0),(1, .ptr 1 0 [] 0),(5, .int x.a),(12, .ah 48 x.rs),(13, .int x.rs.length),(14, .int x.i),(28, .ah 80 x.bl),(29, .int x.bl.length),(30, .int x.j)] [.ext (some x.xs), .box 25 (eH x.ds x.rs)]
theorem xKg(κ:Kp)(x:Qb)(I:Nat->S->Prop)(n:Nat)(K:Exit->S->Prop):(vc (QJ κ) 12 129 none 2 (ad (Pr κ).toProgram 129 5) (PG x) (bj (QJ κ) 129 5 2 I n K))=(
 letI a:=AV.int
 letI b:=Obj.box
 letI c:=Obj.ext
 letI d:=AV.ah
 letI e:=AV.agg [d 43 x.ds,d 48 x.rs]
 letI g:=IntKind.wrap IntKind.i64 (x.j+(1:Int))
 letI f:=x.bl.length
 aq (decide (x.j<(↑f:Int))) (aV (decide ((0:Int)<=x.j)&&decide (x.j<(↑f:Int))) (aq (!dM (toInt (ag (nth x.bl x.j.toNat) 0))) (∃(e0:Nat),e0<n
 /\I e0 (sp 53 [(0,AV.cf 0),(1,AV.ptr 1 0 [] 0),(5,a x.a),(12,d 48 x.rs),(13,a (↑(x.rs.length):Int)),(14,a x.i),(28,d 80
 x.bl),(29,a (↑f:Int)),(30,a g)] [c (some x.xs),b 25 e])) (∃(e2:List AV×ByteArray),([d 43 x.ds,AV.str (toStr (ag (ag
 (nth x.bl x.j.toNat) 1) 0))],aL)=([d 43 e2.1,AV.str e2.2],aL)/\ix e2/\∃(e1:List AV),x.xs=AV.aH [a x.a,a (bx e2.2 e2.1)]::e1/\(∃
 (e0:Nat),e0<n/\I e0 (sp 53 [(0,AV.cf 0),(1,AV.ptr 1 0 [] 0),(5,a x.a),(12,d 48 x.rs),(13,a (↑(x.rs.length):Int)),(14,a
 x.i),(28,d 80 x.bl),(29,a (↑f:Int)),(30,a g)] [c (some e1),b 25 e]))/\K Exit.ret (sp 53 [] [c none,b 25
 e])))) (K (Exit.exit 2) (sp 53 [(0,AV.cf 0),(1,AV.ptr 1 0 [] 0),(12,d 48 x.rs),(13,a (↑(x.rs.length):Int)),(14,a x.i)] [c (some
 x.xs),b 25 e]))):=by kernel_rfl
def GG(x:Qb):=x.ds.length<=aW/\x.bl.length<=aW/\0<=x.j/\x.j<=x.bl.length/\x.xs=Ey (Fl x.ds x.a (x.bl.drop x.j.toNat))++x.more
def Oa(x:Qb):Out (Exit×S):= .all (fun _=>True) fun b=> .aq b
 (.one (.exit 2,sp 53 [(0, .cf 0),(1, .ptr 1 0 [] 0),(12, .ah 48 x.rs),(13, .int x.rs.length),(14, .int x.i)] [.ext (some x.more), .box 25 (eH x.ds x.rs)]))
 (.one (.ret,sp 53 [] [.ext none, .box 25 (eH x.ds x.rs)]))
theorem MB ds a b k(h:k<b.length):Fl ds a (b.drop k)=bif dM (toInt (ag (nth b k) 0)) then(a,bx (toStr (ag (ag (nth b k) 1) 0)) ds)::Fl ds a (b.drop (k+1)) else Fl ds a (b.drop (k+1)):=by
 grind [List.drop_eq_getElem_cons,aM,Fl]
theorem lKg κ:aU (QJ κ) 12 129 5 (aG 2 PG GG Oa):=by
 refine aC (fun x=>x.bl.length - x.j.toNat) ?_;rintro⟨ds,l,xs,b,d,a,i,j⟩ K ⟨p,q,s,t,c⟩ o;simp only at p q s t c;rw[show(QJ κ).P=Pr κ from rfl];refine Eq.mpr (xKg κ ⟨ds,l,xs,b,d,a,i,j⟩ _ _ K) ?_;simp only[aW] at q;have f:=o true trivial;have h:=o false trivial;simp only[Out.run,aq] at f h;simp only[ae,ai,ar4,ar6,ar5];refine⟨fun r=>⟨⟨s,r⟩,?_⟩,fun r=>?_⟩
 ·have hd:=MB ds a d j.toNat (by omega)
  rw[hd] at c;rw[az (n:=j+1) (by omega) (by omega)];have g: ∀k,k=Ey (Fl ds a (d.drop (j.toNat+1)))++b->∃m,m<d.length - j.toNat/\ep PG GG Oa (fun x=>x.bl.length - x.j.toNat) K m (PG ⟨ds,l,k,b,d,a,i,j+1⟩):=fun k u=>by
   refine⟨_,?_,⟨ds,l,k,b,d,a,i,j+1⟩,rfl,⟨p,by simpa[aW] using q,by simp only;omega,by simp only;omega,?_⟩,rfl,o⟩
   ·simp only;omega
   ·simp only[show(j+1).toNat=j.toNat+1 by omega];exact u
  refine⟨fun e=>?_,fun e=>?_⟩
  ·grind
  ·rw[show dM (toInt (ag (nth d j.toNat) 0))=true by simpa using e] at c
   exact⟨(ds,toStr (ag (ag (nth d j.toNat) 1) 0)),rfl,p,_,c,g _ rfl,h⟩
 ·rw[as2 (by omega)] at c
  have c:xs=b:=c;subst c;exact f
noncomputable def QK κ:=(QJ κ).an 129 5 (aG 2 PG GG Oa)
theorem eKg κ:aE (QK κ):=(eKf _).an (mKf _) (lKg _)
theorem mKg κ:aj (QK κ):=(mKf _).an aJ
abbrev Sq(x:Qb):=sp 53 [(0, .cf 0),(1, .ptr 1 0 [] 0),(12, .ah 48 x.rs),(13, .int x.rs.length),(14, .int x.i)] [.ext (some x.xs), .box 25 (eH x.ds x.rs)]
theorem xKh κ x I n K:(vc (QK κ) 12 129 none 2 (ad (Pr κ).toProgram 129 1) (Sq x) (bj (QK κ) 129 1 2 I n K))=(
 letI a:=AV.int
 letI b:=Obj.box
 letI c:=Obj.ext
 letI d:=AV.ah
 letI g:=AV.agg [d 43 x.ds,d 48 x.rs]
 letI e:=nth x.rs x.i.toNat
 letI h:=x.i<(↑(x.rs.length):Int)
 letI i:=Pg.toProgram (Env.P (QJ κ))
 aq (decide h) (aV (decide ((0:Int)<=x.i)&&decide h) (∃(e3:List AV×ByteArray),([d 43 x.ds,AV.str (toStr (ag (ag e 0) 0))],aL)=([d 43 e3.1,AV.str e3.2],aL)/\ix e3/\ad i 129 5=ad i 129 5/\∃(e2:Qb),letI f:=AV.agg [d 43 e2.ds,d 48 e2.rs];sp 53 [(0,AV.cf 0),(1,AV.ptr 1 0 [] 0),(5,a (bx e3.2 e3.1)),(12,d 48 x.rs),(13,a (↑(x.rs.length):Int)),(14,a x.i),(28,d 80 (af (ag e 1))),(29,a (↑(List.length (af (ag e 1))):Int)),(30,a 0)] [c (some x.xs),b 25 g]=sp 53 [(0,AV.cf 0),(1,AV.ptr 1 0 [] 0),(5,a e2.a),(12,d 48 e2.rs),(13,a (↑(e2.rs.length):Int)),(14,a e2.i),(28,d 80 e2.bl),(29,a (↑(e2.bl.length):Int)),(30,a e2.j)] [c (some e2.xs),b 25 f]/\(e2.ds.length<=9223372036854775807/\e2.bl.length<=9223372036854775807/\(0:Int)<=e2.j/\e2.j<=(↑(e2.bl.length):Int)/\e2.xs=Ey (Fl e2.ds e2.a (List.drop e2.j.toNat e2.bl))++e2.more)/\∀(e1:Bool),True->aq e1 (∃(e0:Nat),e0<n/\I e0 (sp 53 [(0,AV.cf 0),(1,AV.ptr 1 0 [] 0),(12,d 48 e2.rs),(13,a (↑(e2.rs.length):Int)),(14,a (IntKind.wrap IntKind.i64 (e2.i+(1:Int))))] [c (some e2.more),b 25 f])) (K Exit.ret (sp 53 [] [c none,b 25 f])))) (K (Exit.exit 0) (sp 53 [] [c (some x.xs),b 25 g]))):=by kernel_rfl
def Mq(a:List _):=∀r,r∈a->(af (ag r 1)).length<=aW
def GH(x:Qb):=x.ds.length<=aW/\x.rs.length<=aW/\Mq x.rs/\0<=x.i/\x.i<=x.rs.length/\x.xs=Ey (yP x.ds (x.rs.drop x.i.toNat))
def Ob(x:Qb):Out (Exit×S):= .all (fun _=>True) fun b=> .aq b
 (.one (.exit 0,sp 53 [] [.ext (some []), .box 25 (eH x.ds x.rs)]))
 (.one (.ret,sp 53 [] [.ext none, .box 25 (eH x.ds x.rs)]))
theorem lKh κ:aU (QK κ) 12 129 1 (aG 2 Sq GH Ob):=by
 refine aC (fun x=>x.rs.length - x.i.toNat) ?_;rintro⟨ds,b,xs,c,q,a,i,j⟩ K ⟨g,h,o,p,s,d⟩ l;simp only at g h p s d o;rw[show(QK κ).P=Pr κ from rfl];refine Eq.mpr (xKh κ ⟨ds,b,xs,c,q,a,i,j⟩ _ _ K) ?_;simp only[aW] at h;have e:=l true trivial;have f:=l false trivial;simp only[Out.run,aq] at e f;simp only[ae,ai,ar4,ar6,ar5];refine⟨fun r=>⟨⟨p,r⟩,(ds,toStr (ag (ag (nth b i.toNat) 0) 0)),rfl,g,?_⟩,fun r=>?_⟩
 ·have k:i.toNat<b.length:=by omega
  rw[yP,as5 k,←aM b i.toNat k,List.flatMap_cons,Rw] at d;refine⟨trivial,⟨ds,b,xs,Ey (yP ds (b.drop (i.toNat+1))),af (ag (nth b i.toNat) 1),bx (toStr (ag (ag (nth b i.toNat) 0) 0)) ds,i,0⟩,rfl,⟨g,?_,by simp only;omega,by simp only;omega,d⟩,?_⟩
  ·exact o _ (by rw[aM _ _ k];exact List.getElem_mem _)
  ·intro y _
   refine⟨fun _=>?_,fun _=>f⟩
   ·show∃m,m<b.length - i.toNat/\ep Sq GH Ob (fun x=>x.rs.length - x.i.toNat) K m (sp 53 [(0, .cf 0),(1, .ptr 1 0 [] 0),(12, .ah 48 b),(13, .int b.length),(14, .int (IntKind.wrap IntKind.i64 (i+1)))] [.ext (some (Ey (yP ds (b.drop (i.toNat+1))))), .box 25 (eH ds b)])
    rw[az (n:=i+1) (by omega) (by omega)];refine⟨_,?_,⟨ds,b,_,c,q,a,i+1,j⟩,rfl,⟨g,by simpa[aW] using h,o,by simp only;omega,by simp only;omega,?_⟩,rfl,l⟩
    ·simp only;omega
    ·simp only[show(i+1).toNat=i.toNat+1 by omega];rfl
 ·rw[as2 (by omega)] at d
  have d:xs=[]:=d;subst d;exact e
noncomputable def Ye κ:=(QK κ).an 129 1 (aG 2 Sq GH Ob)
theorem eKh κ:aE (Ye κ):=(eKg _).an (mKg _) (lKh _)
theorem mKh κ:aj (Ye κ):=(mKg _).an aJ
theorem yKi κ ds rs xs K:(a0 (Ye κ) 12 129 [.cf 0, .ptr 1 0 [] 0] [.ext (some xs), .box 25 (eH ds rs)] K)=(
 letI b:=Obj.box
 letI c:=Obj.ext
 letI d:=AV.ah
 ad (Pg.toProgram (Env.P (QK κ))) 129 1=ad (Pg.toProgram (Env.P (QK κ))) 129 1/\∃(a:Qb),letI e:=AV.agg [d 43 a.ds,d 48 a.rs];sp 53 [(0,AV.cf 0),(1,AV.ptr 1 0 [] 0),(12,d 48 rs),(13,AV.int (↑(rs.length):Int)),(14,AV.int 0)] [c (some xs),b 25 (AV.agg [d 43 ds,d 48 rs])]=sp 53 [(0,AV.cf 0),(1,AV.ptr 1 0 [] 0),(12,d 48 a.rs),(13,AV.int (↑(a.rs.length):Int)),(14,AV.int a.i)] [c (some a.xs),b 25 e]/\(a.ds.length<=9223372036854775807/\a.rs.length<=9223372036854775807/\(∀(r:AV),List.Mem r a.rs->List.length (af (ag r 1))<=9223372036854775807)/\(0:Int)<=a.i/\a.i<=(↑(a.rs.length):Int)/\a.xs=Ey (yP a.ds (List.drop a.i.toNat a.rs)))/\∀(y:Bool),True->aq y (K (AV.aH []) [c (some []),b 25 e]) (K (AV.aH []) [c none,b 25 e])):=by kernel_rfl
def WO(x:Ca):List AV×List Dn.Obj:=([.cf 0, .ptr 1 0 [] 0],[.ext (some (Ey (yP x.1 x.2))), .box 25 (eH x.1 x.2)])
def GI(x:Ca):=x.1.length<=aW/\x.2.length<=aW/\Mq x.2
def Oc(_:Ca):Out (AV×List Dn.Obj):= .all (fun st'=>se st') fun st'=> .one (.aH [],st')
theorem cKi κ:bc (Ye κ) 12 129 (aO WO GI Oc):=by
 refine aR ?_;rintro⟨ds,b⟩ K ⟨c,d,e⟩ a;refine Eq.mpr (yKi κ ds b _ K) ?_;refine⟨rfl,⟨ds,b,_,[],[],0,0,0⟩,rfl,⟨c,d,e,by simp,by simp only;omega,rfl⟩,fun y _=>?_⟩;cases y
 ·exact a _ trivial
 ·exact a _ trivial
set_option maxRecDepth 20000 in
noncomputable def zY(κ:Kp):Env:=(Ye κ).aw 129 (aO WO GI Oc)
theorem eKi κ:aE (zY κ):=(eKh _).aw (mKh _) (cKi _)
theorem mKi κ:aj (zY κ):=(mKh _).aw aI
end Go.Proofs.YtioeffnadipbaaaGreatDoor
namespace Go.Proofs.YtioeffnadipbaaaGreatDoor
open Go Go.Dn Go.Rl Go.Proofs
theorem xL{f}: ∀{a},(Iw f a).2=0↔ ∀x,x∈a->f x=0
 |[]=>by simp[Iw]
 |x::l=>by
  rw[Iw];by_cases h:f x=0
  ·rw[as0 h,as1,xL];grind
  grind
theorem sE{ds a}:(lZ ds a).2=0↔fA ds a=true/\(Ul ds ds 0).2=0/\(∀x,x∈a->kj ds x=0)/\∀x,x∈a->kZ x=0:=by
 unfold lZ Al;cases fA ds a with
 |false=>simp
 | true=>
  simp only[as1,true_and];by_cases h:(Ul ds ds 0).2=0
  ·by_cases b:(Iw (kj ds) a).2=0
   ·simp_all[as0,as1,xL]
   ·grind [xL]
  grind
theorem Nd{ds a}(h:known (cO ds) a=0):0<=bx a.rel ds/\bx a.rel ds<ds.length:=by
 unfold known at h;cases e:kL a.rel (cO ds) with
 |none=>grind
 |some k=>obtain⟨_,c,b⟩:=om e;omega
theorem Um{ds r}(h:(uO (ds,r)).1=0):jf (cO ds) (aQ r)=0:=by
 by_cases e:jf (cO ds) (aQ r)=0
 ·omega
 ·have a: ∀n,(fR getM gx _ _ (n+1) []).1=jf _ _:=fun n=>by
   rw[fR,Dw _ _ _ e,ar8 e,ar9]
  grind [uO,PU]
theorem qs{ds}: ∀{b},je ds b=0->∀l,l∈b->Rl.dM l=true->known ds l.a=0
 |[],_,_,h,_=>nomatch h
 | x::b,d,l,c,f=>by
  rw[je] at d;cases e:Rl.dM x&& !decide (known ds x.a=0) with
  |true=>
   grind
  |false=>
   rw[e] at d;rcases List.mem_cons.1 c with rfl|c
   ·grind
   ·exact qs d l c f
theorem r4{ds c}(h:(lZ ds c).2=0){r}(d:r∈c):(0<=bx (toStr (ag (ag r 0) 0)) ds/\bx (toStr (ag (ag r 0) 0)) ds<ds.length)/\
  ∀l,l∈af (ag r 1)->dM (toInt (ag l 0))=true->0<=bx (toStr (ag (ag l 1) 0)) ds/\bx (toStr (ag (ag l 1) 0)) ds<ds.length:=by
 obtain⟨k,_,i,_⟩:=sE.1 h;have f:=i r d;have b:jf (cO ds) (aQ (dr r))=0:=by
  refine Um ?_;unfold kj at f
  grind
 unfold jf at b;cases e:decide (known (cO ds) (aQ (dr r)).head=0) with
 |false=>grind
 |true=>
  rw[e,as1] at b;refine⟨Nd (a:=(aQ (dr r)).head) (by simpa using e),fun l g m=>?_⟩;have j:c9 l∈(aQ (dr r)).body:=List.mem_map_of_mem g;refine Nd (a:=(c9 l).a) (qs b _ j ?_)
  grind [c9,toInt,ag,Rl.dM,dM]
theorem AZ{ds a e}: ∀{b},e∈Fl ds a b↔ ∃l,l∈b/\dM (toInt (ag l 0))=true/\e=(a,bx (toStr (ag (ag l 1) 0)) ds)
 |[]=>by simp[Fl]
 | x::b=>by
  rw[Fl];cases h:dM _ with
  |true=>
   rw[as1,at4,AZ]
   grind
  |false=>
   rw[ar9,AZ]
   grind
theorem RF{ds a e}:e∈yP ds a↔ ∃r,r∈a/\∃l,l∈af (ag r 1)/\dM (toInt (ag l 0))=true/\e=(bx (toStr (ag (ag r 0) 0)) ds,bx (toStr (ag (ag l 1) 0)) ds):=by
 unfold yP;rw[List.mem_flatMap];exact exists_congr fun r=>and_congr_right fun _=>AZ
def YQ ds a:=∀e,e∈yP ds a->(0<=e.1/\e.1<ds.length)/\0<=e.2/\e.2<ds.length
theorem YR{ds a}(h:(lZ ds a).2=0):YQ ds a:=by
 intro e c;obtain⟨r,b,l,f,d,rfl⟩:=RF.1 c;have:=r4 h b
 grind
end Go.Proofs.YtioeffnadipbaaaGreatDoor
namespace Go.Rl
open Go Go.Dn
theorem tC D b: ∃t a,D++[b]=t::a/\(t::a).dropLast=D/\ft (t::a)=b:=by
 cases D with
 |nil=>exact⟨b,_,rfl,rfl,rfl⟩
 | cons t D=>
  refine⟨t,D++[b],rfl,?_,?_⟩
  ·grind
  ·have:=yO (t:=t) (todo:=D++[b])
   rw[←List.cons_append,List.dropLast_concat] at this
   simp_all
theorem zx{n m L}(d:WG n m L){D a b}(f:Sd n m (D++[b]) a):
  xD n m L (D++[b]) a=bif a.contains b then xD n m L D a else xD n m L (D++L.at b) (a++[b]):=by
 obtain⟨t,g,e,h,c⟩:=tC D b
 grind [KJ]
theorem Sd.aa9{n m D a b}(h:Sd n m (D++[b]) a):Sd n m D a/\ms n m D a<ms n m (D++[b]) a:=by
 obtain⟨t,d,e,f,g⟩:=tC D b;rw[e] at h⊢;have c:=h.pop
 grind [A4]
theorem Sd.YG{n m L}(d:WG n m L){D a b}(h:Sd n m (D++[b]) a)(c:a.contains b=false):Sd n m (D++L.at b) (a++[b])/\ms n m (D++L.at b) (a++[b])<ms n m (D++[b]) a:=by
 obtain⟨t,j,e,k,g⟩:=tC D b;have f:=h.ht b (by simp);rw[e] at h⊢;rw[←g] at c f;have l:=h.add d c;have i:=A3 d t _ _ f c
 grind
end Go.Rl
namespace Go.Proofs.YtioeffnadipbaaaGreatDoor
open Go Go.Dn Go.Rl Go.Proofs
attribute [local irreducible] a0 vc
set_option maxRecDepth 20000
abbrev gS(k:Int):Value:= .int .i64 k
def dy(L:Gr):=L.map fun l=>l.map gS
def iD(l:List Int):List (Value×AV):=l.map fun k=>(gS k, .lit (.bool true))
abbrev Xs(l:List Int):AV:= .eO 3 4 (l.map gS) (l.map fun _=> .lit (.bool true))
theorem H6: ∀(l:List _) k,bW (l.map fun l=>l.map gS) k=(l.getD k []).map gS
 |[],k=>by rfl
 |_::_,0=>rfl
 |_::l,k+1=>by simpa[bW] using H6 l k
theorem mz L a:bW (dy L) a.toNat=(L.at a).map gS:=H6 L _
theorem mu b: ∀l,c6 (iD l) (gS b) (.lit (.bool false))= .lit (.bool (l.contains b))
 |[]=>rfl
 |a::l=>by
  have c:=mu b l;simp[iD,c6] at c⊢;have e:ef (gS b) (gS a)=(b==a):=by rfl
  grind
theorem sl b: ∀l,eE (iD l) (gS b) (.lit (.bool true))=iD (bif l.contains b then l else l++[b])
 |[]=>rfl
 |a::l=>by
  have c:=sl b l;simp[iD,eE] at c⊢;have e:ef (gS b) (gS a)=(b==a):=by rfl
  grind
theorem uV l:(iD l).map (·.1)=l.map gS:=by simp[iD]
theorem uW l:(iD l).map (·.2)=l.map fun _=> .lit (.bool true):=by simp[iD]
abbrev Ox(a:List (List Value)):Dn.Obj:= .rows 35 3 a none
abbrev uD n b a:=[.box 145 (.agg [.ak 1 0 n, .ak 2 0 a.length]),Ox b, .row 101 a]
abbrev yo n a:=[.box 145 (.agg [.ak 1 0 n, .nil]),Ox a]
theorem RJ D c x:nth (D++x::c) (0+D.length)=x:=by
 induction D with
 |nil=>rfl
 |cons a D b=>exact b
theorem It D b a:((D++[b]).length:Int) - 1=D.length/\iA (D++[b])++a=iA D++AV.int b::a/\nth (iA D++AV.int b::a) (0+D.length)=AV.int b/\(iA D++AV.int b::a).take D.length=iA D/\toInt (AV.int b)=b:=by
 have c:=RJ (iA D) a (AV.int b);rw[jd] at c;exact⟨by simp,by simp[iA],c,List.take_left' (jd D),rfl⟩
theorem Db L a:(bW (dy L) a.toNat).length=(L.at a).length:=by rw[mz,List.length_map]
theorem G3 L a:List.map AV.lit (List.take (bW (dy L) a.toNat).length (bW (dy L) a.toNat))=iA (L.at a):=by
 rw[List.take_length,mz,List.map_map];rfl
structure P5 where
 n:Nat
 m:Nat
 L:Gr
 fs:List AV
 todo:List Int
 met:List Int
 tl:List AV
def BQ(x:P5):=WG x.n x.m x.L/\Sd x.n x.m x.todo x.met/\(x.n+1)*x.m<=1000000000
def kh(x:P5):=xD x.n x.m x.L x.todo x.met
theorem xRe(κ:Kp)(N:Nat) ls fs es ws(k:Nat) I(n:Nat) K:(vc (zY κ) 12 86 none 3 (ad (Pr κ).toProgram 86 3) (sp 48 [(0, .ptr 0 0 [] 0),(5, .mp 3),(6, .ak 4 0 k)] (uD N ls fs++[.map 3 4 es, .row 3 ws])) (bj (zY κ) 86 3 3 I n K))=(
 letI a:=IntKind.wrap IntKind.i64
 letI b:=Obj.row
 letI c:=Dn.Obj.map
 letI d:=(↑k:Int) - (1:Int)
 letI e:=a d
 letI f:=nth ws (0+Int.toNat e)
 letI g:=AV.agg [AV.ak 1 0 N,AV.ak 2 0 fs.length]
 letI i:=(0:Int)<=a d
 letI j:=Value.int IntKind.i64 (toInt f)
 letI l:=bW ls (Int.toNat (toInt f))
 letI h:=List.take (List.length l) l
 aq (decide ((↑k:Int)>(0:Int))) (aV (decide i&&decide (a d<(↑k:Int))) (aV (decide i&&decide (a d
 <=a d)&&decide (a d<=(↑k:Int))) (aq (!Dn.toBool (c6 es j (AV.bool false))) (aV (decide ((0:Int)<=toInt
 f)&&decide (toInt f<(↑N:Int))) (aV (decide ((Int.toNat e+List.length (List.map AV.lit h)+1)*9<=70368744177664)) (∃(e0:Nat),e0<n/\I e0
 (sp 48 [(0,AV.ptr 0 0 [] 0),(5,AV.mp 3),(6,AV.ak 4 0 (Int.toNat e+List.length (List.map AV.lit h)))] [Obj.box 145 g,Obj.rows 35 3 ls none,b
 101 fs,c 3 4 (eE es j (AV.bool true)),b 3 (List.take (Int.toNat e) ws++List.map AV.lit h)])))) (∃(e0:Nat),e0<n/\I e0 (sp 48 [(0,
 AV.ptr 0 0 [] 0),(5,AV.mp 3),(6,AV.ak 4 0 (Int.toNat e))] [Obj.box 145 g,Obj.rows 35 3 ls none,b 101 fs,c 3 4 es,b 3 ws]))))) (K
 (Exit.exit 0) (sp 48 [(5,AV.mp 3)] [Obj.box 145 g,Obj.rows 35 3 ls none,b 101 fs,c 3 4 es]))):=by kernel_rfl
abbrev WW(x:P5):=sp 48 [(0, .ptr 0 0 [] 0),(5, .mp 3),(6, .ak 4 0 x.todo.length)] (uD x.n (dy x.L) x.fs++[.map 3 4 (iD x.met), .row 3 (iA x.todo++x.tl)])
def Dt(x:P5):Out (Exit×S):= .one (.exit 0,sp 48 [(5, .mp 3)] (uD x.n (dy x.L) x.fs++[.map 3 4 (iD (kh x))]))
theorem lRe κ:aU (zY κ) 12 86 3 (aG 3 WW BQ Dt):=by
 refine aC (fun x=>ms x.n x.m x.todo x.met) ?_;rintro⟨n,m,L,l,todo,a,i⟩ K ⟨d,f,j⟩ c;simp only at d f j;rw[show(zY κ).P=Pr κ from rfl];refine Eq.mpr (xRe κ n (dy L) l (iD a) (iA todo++i) todo.length _ _ K) ?_;simp only[Dt,kh,Out.run] at c;rw[ae,ar4,ar6];refine⟨fun h=>?_,fun h=>?_⟩
 ·obtain⟨D,b,rfl⟩: ∃D b,todo=D++[b]:=⟨_,_,(List.dropLast_concat_getLast (by intro e;subst e;simp at h)).symm⟩
  have k:=f.le;have w:=f.ht b (by simp);have q:=d.le b;have p:=d.len;have r:m<=(n+1)*m:=Nat.le_mul_of_pos_left m (Nat.succ_pos n);obtain⟨e0,s,t,u,v⟩:=It D b i;simp only[as9,List.length_singleton] at k;rw[e0,az (n:=(D.length:Int)) (by omega) (by omega),s,Int.toNat_natCast,t,u,v,mu,sl,mz,List.take_length,List.map_map];rw[zx d f] at c;simp only[ai,ae,ar4,ar5,List.length_map,as9,List.length_singleton,show Dn.toBool (AV.lit (.bool (a.contains b)))=a.contains b from rfl];refine⟨⟨by omega,by omega⟩,⟨⟨by omega,by omega⟩,by omega⟩,fun e=>?_,fun e=>?_⟩
  ·have e:a.contains b=false:=by simpa using e
   obtain⟨o,g⟩:=f.YG d e;rw[e,ar9] at c;refine⟨⟨by omega,by omega⟩,by omega,_,g,⟨n,m,L,l,D++L.at b,a++[b],[]⟩,?_,⟨d,o,j⟩,rfl,?_⟩
   ·rw[e,ar9]
    simp only[WW,List.append_nil,as9,wD];rfl
   ·simp only[Dt,kh,Out.run]
    exact c
  ·have e:a.contains b=true:=by simpa using e
   obtain⟨o,g⟩:=f.aa9;rw[e,as1] at c;refine⟨_,g,⟨n,m,L,l,D,a,AV.int b::i⟩,rfl,⟨d,o,j⟩,rfl,?_⟩;simp only[Dt,kh,Out.run];exact c
 ·obtain rfl:todo=[]:=List.eq_nil_of_length_eq_zero (by omega)
  rw[DG] at c;exact c
theorem xRz(κ:Kp)(N:Nat) ls es ws(k:Nat) I(n:Nat) K:(vc (zY κ) 12 86 none 2 (ad (Pr κ).toProgram 86 3) (sp 48 [(0, .ptr 0 0 [] 0),(5, .mp 2),(6, .ak 3 0 k)] (yo N ls++[.map 3 4 es, .row 3 ws])) (bj (zY κ) 86 3 2 I n K))=(
 letI a:=IntKind.wrap IntKind.i64
 letI b:=Dn.Obj.map
 letI c:=(↑k:Int) - (1:Int)
 letI d:=a c
 letI e:=nth ws (0+Int.toNat d)
 letI f:=AV.agg [AV.ak 1 0 N,AV.nil]
 letI h:=(0:Int)<=a c
 letI i:=Value.int IntKind.i64 (toInt e)
 letI j:=bW ls (Int.toNat (toInt e))
 letI g:=List.take (List.length j) j
 aq (decide ((↑k:Int)>(0:Int))) (aV (decide h&&decide (a c<(↑k:Int))) (aV (decide h&&decide (a c
 <=a c)&&decide (a c<=(↑k:Int))) (aq (!Dn.toBool (c6 es i (AV.bool false))) (aV (decide ((0:Int)<=toInt
 e)&&decide (toInt e<(↑N:Int))) (aV (decide ((Int.toNat d+List.length (List.map AV.lit g)+1)*9<=70368744177664)) (∃(e0:Nat),e0<n/\I e0
 (sp 48 [(0,AV.ptr 0 0 [] 0),(5,AV.mp 2),(6,AV.ak 3 0 (Int.toNat d+List.length (List.map AV.lit g)))] [Obj.box 145 f,Obj.rows 35 3 ls none,b
 3 4 (eE es i (AV.bool true)),Obj.row 3 (List.take (Int.toNat d) ws++List.map AV.lit g)])))) (∃(e0:Nat),e0<n/\I e0 (sp 48 [(0,AV.ptr 0 0 [] 0),(5,
 AV.mp 2),(6,AV.ak 3 0 (Int.toNat d))] [Obj.box 145 f,Obj.rows 35 3 ls none,b 3 4 es,Obj.row 3 ws]))))) (K (Exit.exit 0) (sp 48 [(5,AV.mp 2)]
 [Obj.box 145 f,Obj.rows 35 3 ls none,b 3 4 es]))):=by kernel_rfl
abbrev WX(x:P5):=sp 48 [(0, .ptr 0 0 [] 0),(5, .mp 2),(6, .ak 3 0 x.todo.length)] (yo x.n (dy x.L)++[.map 3 4 (iD x.met), .row 3 (iA x.todo++x.tl)])
def Du(x:P5):Out (Exit×S):= .one (.exit 0,sp 48 [(5, .mp 2)] (yo x.n (dy x.L)++[.map 3 4 (iD (kh x))]))
theorem lRz κ:aU (zY κ) 12 86 3 (aG 2 WX BQ Du):=by
 refine aC (fun x=>ms x.n x.m x.todo x.met) ?_;rintro⟨n,m,L,o,todo,a,k⟩ K ⟨d,f,j⟩ c;simp only at d f j;rw[show(zY κ).P=Pr κ from rfl];refine Eq.mpr (xRz κ n (dy L) (iD a) (iA todo++k) todo.length _ _ K) ?_;simp only[Du,kh,Out.run] at c;rw[ae,ar4,ar6];refine⟨fun h=>?_,fun h=>?_⟩
 ·obtain⟨D,b,rfl⟩: ∃D b,todo=D++[b]:=⟨_,_,(List.dropLast_concat_getLast (by intro e;subst e;simp at h)).symm⟩
  have i:=f.le;have q:=f.ht b (by simp);have w:=d.le b;have p:=d.len;have r:m<=(n+1)*m:=Nat.le_mul_of_pos_left m (Nat.succ_pos n);obtain⟨e0,s,t,u,v⟩:=It D b k;simp only[as9,List.length_singleton] at i;rw[e0,az (n:=(D.length:Int)) (by omega) (by omega),s,Int.toNat_natCast,t,u,v,mu,sl,mz,List.take_length,List.map_map];rw[zx d f] at c;simp only[ai,ae,ar4,ar5,List.length_map,as9,List.length_singleton,show Dn.toBool (AV.lit (.bool (a.contains b)))=a.contains b from rfl];refine⟨⟨by omega,by omega⟩,⟨⟨by omega,by omega⟩,by omega⟩,fun e=>?_,fun e=>?_⟩
  ·have e:a.contains b=false:=by simpa using e
   obtain⟨l,g⟩:=f.YG d e;rw[e,ar9] at c;refine⟨⟨by omega,by omega⟩,by omega,_,g,⟨n,m,L,o,D++L.at b,a++[b],[]⟩,?_,⟨d,l,j⟩,rfl,?_⟩
   ·rw[e,ar9]
    simp only[WX,List.append_nil,as9,wD];rfl
   ·simp only[Du,kh,Out.run]
    exact c
  ·have e:a.contains b=true:=by simpa using e
   obtain⟨l,g⟩:=f.aa9;rw[e,as1] at c;refine⟨_,g,⟨n,m,L,o,D,a,AV.int b::k⟩,rfl,⟨d,l,j⟩,rfl,?_⟩;simp only[Du,kh,Out.run];exact c
 ·obtain rfl:todo=[]:=List.eq_nil_of_length_eq_zero (by omega)
  rw[DG] at c;exact c
def ab3(s:S):=Nat.beq s.st.length 5
noncomputable def Vi κ:=(zY κ).an 86 3 (r6 ab3 (aG 3 WW BQ Dt) (aG 2 WX BQ Du))
theorem eRl κ:aE (Vi κ):=(eKi _).an (mKi _) (oW (lRe _) (lRz _))
theorem mRl κ:aj (Vi κ):=(mKi _).an (lf aJ aJ)
structure Ut where
 n:Nat
 m:Nat
 L:Gr
 fs:List AV
 a:Int
def IN(x:Ut):=WG x.n x.m x.L/\(x.n+1)*x.m<=1000000000/\0<=x.a/\x.a<x.n
theorem yRe κ N ls fs a K:(a0 (Vi κ) 12 86 [.ptr 0 0 [] 0, .int a] (uD N ls fs) K)=(
 letI b:=AV.ptr 0 0 []
 letI c:=AV.agg
 letI d:=Obj.box
 letI e:=Obj.row
 letI f:=Obj.rows
 letI g:=Dn.Obj.map
 letI h:=AV.ak
 letI i:=Pg.toProgram (Env.P (zY κ))
 letI k:=List.length (bW ls a.toNat)
 letI j:=List.take k (bW ls a.toNat)
 aV (decide ((0:Int)<=a)&&decide (a<(↑N:Int))) ((Nat.beq k 0=true->ad i 86 3=ad i 86 3/\∃(e1:P5),sp 48 [(0,b 0),(5,AV.mp 3),
 (6,h 4 0 0)] [d 145 (c [h 1 0 N,h 2 0 fs.length]),f 35 3 ls none,e 101 fs,g 3 4 [],e 3 []]=sp 48 [(0,
 b 0),(5,AV.mp 3),(6,h 4 0 e1.todo.length)] [d 145 (c [h 1 0 e1.n,h 2 0 e1.fs.length]),f 35 3 (dy e1.L) none,
 e 101 e1.fs,g 3 4 (iD e1.met),e 3 (iA e1.todo++e1.tl)]/\(WG e1.n e1.m e1.L/\Sd e1.n e1.m e1.todo e1.met/\(e1.n+1)*e1.m<=
 1000000000)/\K (AV.eO 3 4 (List.map (fun(e0:Value×AV)=>e0.1) (iD (kh e1))) (List.map (fun(e0:Value×AV)=>e0.2) (iD (kh e1)))) [d 145 (c
 [h 1 0 e1.n,h 2 0 e1.fs.length]),f 35 3 (dy e1.L) none,e 101 e1.fs])/\aV (decide ((0+List.length (List.map AV.lit j)+1)*9<=
 70368744177664)) (ad i 86 3=ad i 86 3/\∃(e1:P5),sp 48 [(0,b 0),(5,AV.mp 3),(6,h 4 0 (0+List.length (List.map AV.lit j)))]
 [d 145 (c [h 1 0 N,h 2 0 fs.length]),f 35 3 ls none,e 101 fs,g 3 4 [],e 3 ([]++List.map AV.lit j)]=sp
 48 [(0,b 0),(5,AV.mp 3),(6,h 4 0 e1.todo.length)] [d 145 (c [h 1 0 e1.n,h 2 0 e1.fs.length]),f 35 3 (dy e1.L)
 none,e 101 e1.fs,g 3 4 (iD e1.met),e 3 (iA e1.todo++e1.tl)]/\(WG e1.n e1.m e1.L/\Sd e1.n e1.m e1.todo e1.met/\(e1.n+1)*e1.m<=
 1000000000)/\K (AV.eO 3 4 (List.map (fun(e0:Value×AV)=>e0.1) (iD (kh e1))) (List.map (fun(e0:Value×AV)=>e0.2) (iD (kh e1)))) [d 145 (c
 [h 1 0 e1.n,h 2 0 e1.fs.length]),f 35 3 (dy e1.L) none,e 101 e1.fs]))):=by kernel_rfl
def Ui(x:Ut):List AV×List Dn.Obj:=([.ptr 0 0 [] 0, .int x.a],uD x.n (dy x.L) x.fs)
def Gb(x:Ut):Out (AV×List Dn.Obj):= .one (Xs (iR x.n x.m x.L x.a),uD x.n (dy x.L) x.fs)
theorem cRe κ:bc (Vi κ) 12 86 (aO Ui IN Gb):=by
 refine aR ?_;rintro⟨n,m,L,f,a⟩ K ⟨b,d,g,h⟩ c;simp only at b d g h;refine Eq.mpr (yRe κ n (dy L) f a K) ?_;simp only[Gb,Out.run,iR] at c;have j:=Sd.start b g;have k:=b.le a;have i:m<=(n+1)*m:=Nat.le_mul_of_pos_left m (Nat.succ_pos n);rw[G3,jd,Db,ai,ai,ar5,ar4,ar4,ar4];refine⟨⟨g,h⟩,fun e=>⟨rfl,⟨n,m,L,f,[],[],[]⟩,rfl,⟨b,?_,d⟩,?_⟩,by omega,rfl,⟨n,m,L,f,L.at a,[],[]⟩,?_,⟨b,j,d⟩,?_⟩
 ·simp_all
 ·have e:L.at a=[]:=List.eq_nil_of_length_eq_zero (Nat.eq_of_beq_eq_true e)
  rw[e] at c;simp only[uV,uW];exact c
 ·simp only[List.append_nil,Nat.zero_add]
  rfl
 ·simp only[uV,uW]
  exact c
theorem yRz κ N ls a K:(a0 (Vi κ) 12 86 [.ptr 0 0 [] 0, .int a] (yo N ls) K)=(
 letI b:=AV.ptr 0 0 []
 letI c:=AV.agg
 letI d:=Obj.box
 letI e:=Obj.row
 letI f:=Obj.rows
 letI g:=Dn.Obj.map
 letI h:=AV.ak
 letI i:=AV.nil
 letI j:=Pg.toProgram (Env.P (zY κ))
 letI l:=List.length (bW ls a.toNat)
 letI k:=List.take l (bW ls a.toNat)
 aV (decide ((0:Int)<=a)&&decide (a<(↑N:Int))) ((Nat.beq l 0=true->ad j 86 3=ad j 86 3/\∃(e1:P5),sp 48 [(0,b 0),(5,AV.mp 2),
 (6,h 3 0 0)] [d 145 (c [h 1 0 N,i]),f 35 3 ls none,g 3 4 [],e 3 []]=sp 48 [(0,b 0),(5,AV.mp
 2),(6,h 3 0 e1.todo.length)] [d 145 (c [h 1 0 e1.n,i]),f 35 3 (dy e1.L) none,g 3 4 (iD e1.met),e 3 (iA
 e1.todo++e1.tl)]/\(WG e1.n e1.m e1.L/\Sd e1.n e1.m e1.todo e1.met/\(e1.n+1)*e1.m<=1000000000)/\K (AV.eO 3 4 (List.map (fun(e0:Value×AV)=>e0.1)
 (iD (kh e1))) (List.map (fun(e0:Value×AV)=>e0.2) (iD (kh e1)))) [d 145 (c [h 1 0 e1.n,i]),f 35 3 (dy e1.L) none])/\aV
 (decide ((0+List.length (List.map AV.lit k)+1)*9<=70368744177664)) (ad j 86 3=ad j 86 3/\∃(e1:P5),sp 48 [(0,b 0),(5,AV.mp 2),
 (6,h 3 0 (0+List.length (List.map AV.lit k)))] [d 145 (c [h 1 0 N,i]),f 35 3 ls none,g 3 4 [],e 3 ([]++
 List.map AV.lit k)]=sp 48 [(0,b 0),(5,AV.mp 2),(6,h 3 0 e1.todo.length)] [d 145 (c [h 1 0 e1.n,i]),f 35 3
 (dy e1.L) none,g 3 4 (iD e1.met),e 3 (iA e1.todo++e1.tl)]/\(WG e1.n e1.m e1.L/\Sd e1.n e1.m e1.todo e1.met/\(e1.n+1)*e1.m<=
 1000000000)/\K (AV.eO 3 4 (List.map (fun(e0:Value×AV)=>e0.1) (iD (kh e1))) (List.map (fun(e0:Value×AV)=>e0.2) (iD (kh e1)))) [d 145 (c
 [h 1 0 e1.n,i]),f 35 3 (dy e1.L) none]))):=by kernel_rfl
def Uj(x:Ut):List AV×List Dn.Obj:=([.ptr 0 0 [] 0, .int x.a],yo x.n (dy x.L))
def Gc(x:Ut):Out (AV×List Dn.Obj):= .one (Xs (iR x.n x.m x.L x.a),yo x.n (dy x.L))
theorem cRz κ:bc (Vi κ) 12 86 (aO Uj IN Gc):=by
 refine aR ?_;rintro⟨n,m,L,h,a⟩ K ⟨b,f,d,g⟩ c;simp only at b f d g;refine Eq.mpr (yRz κ n (dy L) a K) ?_;simp only[Gc,Out.run,iR] at c;have j:=Sd.start b d;have k:=b.le a;have i:m<=(n+1)*m:=Nat.le_mul_of_pos_left m (Nat.succ_pos n);rw[G3,jd,Db,ai,ai,ar5,ar4,ar4,ar4];refine⟨⟨d,g⟩,fun e=>⟨rfl,⟨n,m,L,h,[],[],[]⟩,rfl,⟨b,?_,f⟩,?_⟩,by omega,rfl,⟨n,m,L,h,L.at a,[],[]⟩,?_,⟨b,j,f⟩,?_⟩
 ·simp_all
 ·have e:L.at a=[]:=List.eq_nil_of_length_eq_zero (Nat.eq_of_beq_eq_true e)
  rw[e] at c;simp only[uV,uW];exact c
 ·simp only[List.append_nil,Nat.zero_add]
  rfl
 ·simp only[uV,uW]
  exact c
def Gv(d:List Dn.Obj->Bool)(a b:dL):dL:=fun c st K=>bif d st then a c st K else b c st K
theorem tq{c a b}(f:a.fU)(g:b.fU):(Gv c a b).fU:=fun e st K j d h=>by
 unfold Gv at h⊢;cases i:c _<;>simp[i] at h⊢
 ·exact g _ _ _ _ d h
 ·exact f _ _ _ _ d h
theorem By{E N f c a b}(i:bc E N f a)(g:bc E N f b):bc E N f (Gv c a b):=fun d st K h=>by
 unfold Gv at h;cases e:c _<;>rw[e] at h
 ·exact g _ _ _ h
 ·exact i _ _ _ h
def ab0(st:List Dn.Obj):=Nat.beq st.length 3
noncomputable def S2 κ:=(Vi κ).aw 86 (Gv ab0 (aO Ui IN Gb) (aO Uj IN Gc))
theorem eRe κ:aE (S2 κ):=(eRl _).aw (mRl _) (By (cRe _) (cRz _))
theorem mRe κ:aj (S2 κ):=(mRl _).aw (tq aI aI)
def JS:List Nat:=129::Rs
noncomputable abbrev Y8(κ:Kp)(ds a:List AV):Dn.Obj:=
 .loop (iG (Pr κ).toProgram 42 3 .ready none (hG (bM 63) [(0,eH ds a),(1, .ptr 0 0 [] 0),(2, .lit (.pointer none)),(3, .ptr 3 0 [] 0),(7, .ptr 0 0 [0] 0),(8, .ah 43 ds),(9, .int ds.length),(10, .ak 1 0 ds.length),(11, .agg [.ak 1 0 ds.length, .nil]),(12, .ptr 2 0 [] 0),(13,eH ds a),(14, .bm 129 [.ptr 4 0 [] 0])]))
noncomputable abbrev qh κ ds a:=[.box 25 (eH ds a),Ox (List.replicate ds.length []), .box 145 (.agg [.ak 1 0 ds.length, .nil]), .box 99 (.ptr 2 0 [] 0), .box 25 (eH ds a),Y8 κ ds a]
noncomputable abbrev Ef κ ds a b:=[.box 25 (eH ds a),Ox b, .box 145 (.agg [.ak 1 0 ds.length, .nil]), .box 99 (.ptr 2 0 [] 0), .dead,Y8 κ ds a]
theorem sGf κ ds rs Q:(tidy (Pr κ).toProgram 6 (dt (qh κ ds rs) (bV (qh κ ds rs) [.ptr 4 0 [] 0])) Q)=(
 letI a:=AV.ptr
 letI b:=AV.agg
 letI c:=AV.ah
 Q [Obj.box 25 (b [c 43 ds,c 48 rs]),Obj.rows 35 3 (List.replicate ds.length []) none,Obj.box 145 (b [AV.ak 1 0 ds.length,AV.nil]),Obj.box
 99 (a 2 0 [] 0),Obj.dead,Dn.Obj.loop (iG Tryz.prog 42 3 LoopState.ready none (hG (bM 63) [(0,b [c 43 ds,c 48 rs]),(1,a 0 0 [] 0),
 (2,AV.lit (Value.pointer none)),(3,a 3 0 [] 0),(7,a 0 0 [0] 0),(8,c 43 ds),(9,AV.int (↑(ds.length):Int)),(10,AV.ak 1 0 ds.length),
 (11,b [AV.ak 1 0 ds.length,AV.nil]),(12,a 2 0 [] 0),(13,b [c 43 ds,c 48 rs]),(14,AV.bm 129 [a 4 0 [] 0])]))]):=by kernel_rfl
theorem rGf κ ds rs ls a b Q(K2:List Dn.Obj->Prop):(fQ (vc (S2 κ) 12) 5 [.int a, .int b] (Ef κ ds rs ls) (fun r st''=>match r with| .lit (.bool true)=>tidy (Pr κ).toProgram 6 st'' Q| .lit (.bool false)=>K2 st''|_=>False))=(
 letI c:=AV.ptr
 letI d:=AV.agg
 letI e:=Obj.box
 letI f:=AV.ah
 letI i:=iG Tryz.prog 42 3 LoopState.ready none (hG (bM 63) [(0,d [f 43 ds,f 48 rs]),(1,c 0 0 [] 0),(2,AV.lit (Value.pointer none)),
  (3,c 3 0 [] 0),(7,c 0 0 [0] 0),(8,f 43 ds),(9,AV.int (↑(ds.length):Int)),(10,AV.ak 1 0 ds.length),(11,d [AV.ak 1 0 ds.length,
  AV.nil]),(12,c 2 0 [] 0),(13,d [f 43 ds,f 48 rs]),(14,AV.bm 129 [c 4 0 [] 0])])
 letI h:=decide ((0:Int)<=a)&&decide (a<(↑(ds.length):Int))
 letI g:=bW ls a.toNat
 letI j:=decide (List.length g=List.length g)&&decide ((List.length g+1+1)*9<=70368744177664)
 letI k:=Dn.jU ls a.toNat (bW ls a.toNat++[Value.int IntKind.i64 b])
 letI l:=List.map AV.lit (List.take (List.length g) g)
 letI m:=d [AV.ak 1 0 ds.length,AV.nil]
 letI n:=d [f 43 ds,f 48 rs]
 letI o:=aV h (aV (decide (a.toNat=a.toNat)&&decide (a.toNat=a.toNat)&&decide (List.length g+1=List.length (bW k a.toNat))) (Q [e 25 n,
  Obj.rows 35 3 k none,e 145 m,e 99 (c 2 0 [] 0),Obj.dead,Dn.Obj.loop i]))
 aV h (aV (decide (List.length l<=9223372036854775807)) (aq (!YZ b l) (aV h (aV j o/\aV j o)) (Q [e 25 n,Obj.rows 35 3 ls none,e 145 m,
 e 99 (c 2 0 [] 0),Obj.dead,Dn.Obj.loop i])))):=by kernel_rfl
theorem kGf κ ds rs xs:(AV.cf 0::fE (ij (bV (qh κ ds rs) [.ptr 4 0 [] 0])) [.ptr 4 0 [] 0],Obj.ext (some xs)::gg (ij (bV (qh κ ds rs) [.ptr 4 0 [] 0])) (fY (qh κ ds rs) (bV (qh κ ds rs) [.ptr 4 0 [] 0])))=([.cf 0, .ptr 1 0 [] 0],[.ext (some xs), .box 25 (eH ds rs)]):=by kernel_rfl
theorem oGf κ ds rs:lD (qh κ ds rs) [.ptr 4 0 [] 0]=true:=by kernel_rfl
theorem DQ: ∀L k x,Dn.jU (dy L) k (x.map gS)=dy (L.set k x)
 |[],k,x=>by rfl
 |_::_,0,x=>rfl
 |a::L,k+1,x=>by
  have b:=DQ L k x
  grind [dy,Dn.jU]
theorem SR n:dy (List.replicate n [])=List.replicate n []:=by simp[dy]
structure yh(ds rs:List AV):Prop where
 hd:ds.length<=60
 hr:rs.length<=200
 bs: ∀r,r∈rs->(af (ag r 1)).length<=20
 ed:YQ ds rs
theorem Hv ds a: ∀b,(Fl ds a b).length<=b.length
 |[]=>Nat.le_refl _
 |l::b=>by
  have c:=Hv ds a b
  grind [Fl]
theorem Ao ds: ∀a,(∀r,r∈a->(af (ag r 1)).length<=20)->(yP ds a).length<=a.length*20
 |[],_=>Nat.le_refl _
 |r::a,h=>by
  have b:=Ao ds a (by grind)
  grind [Hv,bx,ag,af,yP,edR]
noncomputable def Wx(κ:Kp):ee:=fun a st K=>∃x:Ca,(a,st)=([AV.ptr 4 0 [] 0],qh κ x.1 x.2)/\yh x.1 x.2/\K (Ef κ x.1 x.2 (dy (s7 x.1.length (yP x.1 x.2))))
theorem KY κ:(Wx κ).fU:=by
 rintro b st K g e ⟨a,d,f,c⟩;exact⟨a,d,f,e _ c⟩
theorem VA κ a st K(h:aO WO GI Oc a st K):(S2 κ).call 129 a st K:=h
theorem gfr κ:ir (S2 κ) 12 129 (Wx κ):=by
 rintro n st K ⟨⟨ds,f⟩,x,k,u⟩;obtain⟨rfl,rfl⟩:=Prod.mk.inj x;simp only at k u;have hd:=k.hd;have q:=k.hr;have C:=Ao ds f k.bs;refine⟨Ey (yP ds f),fun i st'=>∃c g,i=Ey g/\st'=Ef κ ds f (dy (s7 ds.length c))/\c++g=yP ds f,⟨oGf κ ds f,?_,?_,?_,?_⟩⟩
 ·refine VA κ _ _ _ ⟨(ds,f),?_,⟨by simp only[aW];omega,by simp only[aW];omega,fun r q=>?_⟩,fun st' h=>h⟩
  ·rw[kGf];rfl
  ·have:=k.bs r q;simp only[aW];omega
 ·rw[show(S2 κ).P=Pr κ from rfl,show(qh κ ds f).length=6 from rfl,sGf]
  refine⟨[],yP ds f,rfl,?_,rfl⟩;rw[s7,List.foldl_nil,SR]
 ·rintro B o st' ⟨c,g,l,rfl,j⟩
  cases g with
  |nil=>cases l
  | cons e g=>
   obtain⟨a,b⟩:=e;obtain⟨v,rfl⟩:=List.cons.inj l;obtain rfl:=AV.aH.inj v;rw[show(S2 κ).P=Pr κ from rfl,show(qh κ ds f).length=6 from rfl];refine Eq.mpr (rGf κ ds f _ a b _ _) ?_;have m:=k.ed (a,b) (by rw[←j];simp);simp only at m;have y:s7 ds.length (c++[(a,b)])=pO (s7 ds.length c) (a,b):=by simp[s7,List.foldl_append]
   have s:(s7 ds.length c).length=ds.length:=by unfold s7;rw[sG];simp
   have A:((s7 ds.length c).at a).length<=c.length:=by
    have:=Mn c (List.replicate ds.length []) a
    rw[EY] at this;simpa[s7] using this
   have D:c.length<=(yP ds f).length:=by rw[←j];simp
   have d: ∀st',st'=Ef κ ds f (dy (pO (s7 ds.length c) (a,b)))->∃p t,Ey g=Ey t/\st'=Ef κ ds f (dy (s7 ds.length p))/\p++t=yP ds f:=fun st' h=>⟨c++[(a,b)],g,rfl,by rw[y,h],by rw[←j];simp⟩
   rw[G3,M1,mz,show[Value.int IntKind.i64 b]=[b].map gS from rfl,←List.map_append,DQ];have z:(bW (dy ((s7 ds.length c).set a.toNat ((s7 ds.length c).at a++[b]))) a.toNat).length=((s7 ds.length c).at a).length+1:=by
    rw[mz,EZ _ _ _ _ (by omega),if_pos rfl];simp
   rw[z];simp only[ai,ae,ar5,ar4,List.length_map,jd];refine⟨⟨by omega,by omega⟩,by omega,fun e=>⟨⟨by omega,by omega⟩,?_⟩,fun e=>d _ ?_⟩
   ·have e:((s7 ds.length c).at a).contains b=false:=by simpa using e
    have w:pO (s7 ds.length c) (a,b)=(s7 ds.length c).set a.toNat ((s7 ds.length c).at a++[b]):=by
     unfold pO;rw[e,ar9]
    rw[w] at d;exact⟨⟨⟨trivial,by omega⟩,⟨by omega,by omega⟩,⟨⟨trivial,trivial⟩,trivial⟩,d _ rfl⟩,⟨trivial,by omega⟩,⟨by omega,by omega⟩,⟨⟨trivial,trivial⟩,trivial⟩,d _ rfl⟩
   ·have e:((s7 ds.length c).at a).contains b=true:=by simpa using e
    unfold pO;rw[e,as1]
 ·rintro st' ⟨c,g,l,rfl,j⟩
  obtain rfl:g=[]:=by cases g with|nil=>rfl|cons _ _=>cases l
  rw[List.append_nil] at j;rw[j];exact u
noncomputable def L4 κ:=((S2 κ).addRange 42 3 129 (Wx κ)).cV fun f=>iH f JS
theorem eOr κ:aE (L4 κ):=((eRe _).addRange (mRe _) (gfr _)).cV _
theorem mOr κ:aj (L4 κ):=((mRe _).addRange (KY _)).cV _
theorem xOa κ(N i:Nat) ls fs I n K:(vc (L4 κ) 12 42 none 0 (ad (Pr κ).toProgram 42 8) (sp 63 [(3, .ptr 0 0 [] 0),(45, .int N),(46, .int i)] [.box 99 (.ptr 1 0 [] 0), .box 145 (.agg [.ak 2 0 N, .ak 3 0 fs.length]),Ox ls, .row 101 fs]) (bj (L4 κ) 42 8 0 I n K))=(
 letI a:=AV.ptr 0 0 []
 letI b:=AV.agg
 letI c:=Obj.box
 letI d:=Obj.row
 letI e:=Obj.rows
 letI f:=AV.ak
 letI g:=AV.ptr 1 0 [] 0
 letI h:=b [f 2 0 N,f 3 0 fs.length]
 aq (decide ((↑i:Int)<(↑N:Int))) (∃(e2:Ut),([a 0,AV.int (↑i:Int)],[c 145 (b [f 1 0 N,f 2 0 fs.length]),e 35
 3 ls none,d 101 fs])=([a 0,AV.int e2.a],[c 145 (b [f 1 0 e2.n,f 2 0 e2.fs.length]),e 35 3 (dy e2.L) none,
 d 101 e2.fs])/\(WG e2.n e2.m e2.L/\(e2.n+1)*e2.m<=1000000000/\(0:Int)<=e2.a/\e2.a<(↑(e2.n):Int))/\(c 99 g=c 99 g/\
 c 145 (b [f 2 0 e2.n,f 3 0 e2.fs.length])=c 145 h/\e 35 3 (dy e2.L) none=e 35 3 ls none/\True)/\aV (decide
 ((fs.length+1+1)*9<=70368744177664)) (∃(e1:Nat),e1<n/\I e1 (sp 63 [(3,a 0),(45,AV.int (↑N:Int)),(46,AV.int (IntKind.wrap
 IntKind.i64 ((↑i:Int)+(1:Int))))] [c 99 g,c 145 (b [f 2 0 e2.n,f 3 0 (fs.length+1)]),e 35 3 (dy e2.L) none,d
 101 (List.take fs.length e2.fs++[AV.eO 3 4 (List.map gS (iR e2.n e2.m e2.L e2.a)) (List.map (fun(e0:Int)=>AV.bool true) (iR e2.n e2.m e2.L e2.a))])])))
 (K (Exit.exit 2) (sp 63 [(3,a 0)] [c 99 g,c 145 h,e 35 3 ls none,d 101 fs]))):=by kernel_rfl
theorem xOb κ(N:Nat) ls I n K:(vc (L4 κ) 12 42 none 0 (ad (Pr κ).toProgram 42 8) (sp 63 [(3, .ptr 0 0 [] 0),(45, .int N),(46, .int 0)] [.box 99 (.ptr 1 0 [] 0), .box 145 (.agg [.ak 2 0 N, .nil]),Ox ls]) (bj (L4 κ) 42 8 0 I n K))=(
 letI a:=AV.ptr 0 0 []
 letI b:=AV.agg
 letI c:=Obj.box
 letI d:=Obj.rows
 letI e:=AV.ak
 letI f:=AV.ptr 1 0 [] 0
 letI g:=b [e 2 0 N,AV.nil]
 aq (decide ((0:Int)<(↑N:Int))) (∃(e2:Ut),([a 0,AV.int 0],[c 145 (b [e 1 0 N,AV.nil]),d 35 3 ls none])=([AV.ptr
 0 0 [] 0,AV.int e2.a],[c 145 (b [e 1 0 e2.n,AV.nil]),d 35 3 (dy e2.L) none])/\(WG e2.n e2.m e2.L/\(e2.n+1)*e2.m<=1000000000/\
 (0:Int)<=e2.a/\e2.a<(↑(e2.n):Int))/\(c 99 f=c 99 f/\c 145 (b [e 2 0 e2.n,AV.nil])=c 145 g/\d 35 3 (dy
 e2.L) none=d 35 3 ls none/\True)/\∃(e1:Nat),e1<n/\I e1 (sp 63 [(3,a 0),(45,AV.int (↑N:Int)),(46,AV.int 1)] [c 99 f,
 c 145 (b [e 2 0 e2.n,e 3 0 1]),d 35 3 (dy e2.L) none,Obj.row 101 [AV.eO 3 4 (List.map gS (iR e2.n e2.m e2.L e2.a)) (List.map (fun
 (e0:Int)=>AV.bool true) (iR e2.n e2.m e2.L e2.a))]])) (K (Exit.exit 2) (sp 63 [(3,a 0)] [c 99 f,c 145 g,d 35 3 ls
 none]))):=by kernel_rfl
def bu n m L k:=(List.range k).map fun(a:Nat)=>Xs (iR n m L a)
theorem kK n m L k:(bu n m L k).length=k:=by simp[bu]
theorem JO n m L k:bu n m L (k+1)=bu n m L k++[Xs (iR n m L k)]:=by
 simp[bu,List.range_succ]
structure AOf where
 n:Nat
 m:Nat
 L:Gr
 i:Nat
abbrev V9(n m:Nat)(L:Gr):Nat->List Dn.Obj
 |0=>[.box 99 (.ptr 1 0 [] 0), .box 145 (.agg [.ak 2 0 n, .nil]),Ox (dy L)]
 |k+1=>[.box 99 (.ptr 1 0 [] 0), .box 145 (.agg [.ak 2 0 n, .ak 3 0 (bu n m L (k+1)).length]),Ox (dy L), .row 101 (bu n m L (k+1))]
abbrev SA(x:AOf):=sp 63 [(3, .ptr 0 0 [] 0),(45, .int x.n),(46, .int x.i)] (V9 x.n x.m x.L x.i)
def O2(x:AOf):=WG x.n x.m x.L/\(x.n+1)*x.m<=1000000000/\x.i<=x.n/\x.n<=60
def TK(x:AOf):Out (Exit×S):= .aq (Nat.beq x.n 0)
 (.one (.exit 2,sp 63 [(3, .ptr 0 0 [] 0)] [.box 99 (.ptr 1 0 [] 0), .box 145 (.agg [.ak 2 0 x.n, .nil]),Ox (dy x.L)]))
 (.one (.exit 2,sp 63 [(3, .ptr 0 0 [] 0)] [.box 99 (.ptr 1 0 [] 0), .box 145 (.agg [.ak 2 0 x.n, .ak 3 0 (bu x.n x.m x.L x.n).length]),Ox (dy x.L), .row 101 (bu x.n x.m x.L x.n)]))
theorem lOa κ:aU (L4 κ) 12 42 8 (aG 0 SA O2 TK):=by
 refine aC (fun x=>x.n - x.i) ?_;rintro⟨n,m,L,i⟩ K ⟨b,a,f,d⟩ c;simp only at b a f d;rw[show(L4 κ).P=Pr κ from rfl];cases i with
 | zero=>
  refine Eq.mpr (xOb κ n (dy L) _ _ K) ?_;rw[ae,ar4,ar6];refine⟨fun h=>⟨⟨n,m,L,[],0⟩,rfl,⟨b,a,by simp only;omega,h⟩,⟨rfl,rfl,rfl,trivial⟩,_,?_,⟨n,m,L,1⟩,rfl,⟨b,a,?_,d⟩,rfl,c⟩,fun h=>?_⟩
  ·simp only;omega
  ·simp only;omega
  ·obtain rfl:n=0:=by omega
   exact c
 | succ k=>
  refine Eq.mpr (xOa κ n (k+1) (dy L) (bu n m L (k+1)) _ _ K) ?_;rw[ae,ar4,ar6];refine⟨fun h=>⟨⟨n,m,L,bu n m L (k+1),((k+1:Nat):Int)⟩,rfl,⟨b,a,by simp only;omega,h⟩,⟨rfl,rfl,rfl,trivial⟩,?_⟩,fun h=>?_⟩
  ·have e:sp 63 [(3, .ptr 0 0 [] 0),(45, .int n),(46, .int (((k+1:Nat):Int)+1))] [.box 99 (.ptr 1 0 [] 0), .box 145 (.agg [.ak 2 0 n, .ak 3 0 ((bu n m L (k+1)).length+1)]),Ox (dy L), .row 101 (List.take (bu n m L (k+1)).length (bu n m L (k+1))++[Xs (iR n m L ((k+1:Nat):Int))])]=SA ⟨n,m,L,k+2⟩:=by
    rw[List.take_length,←JO];simp only[SA,V9,kK];rfl
   rw[ai,ar4,az (n:=((k+1:Nat):Int)+1) (by omega) (by omega)];refine⟨by rw[kK];omega,_,?_,⟨n,m,L,k+2⟩,e,⟨b,a,?_,d⟩,rfl,c⟩
   ·simp only;omega
   ·simp only;omega
  ·obtain rfl:n=k+1:=by omega
   exact c
noncomputable def Yg κ:=(L4 κ).an 42 8 (aG 0 SA O2 TK)
theorem eOa κ:aE (Yg κ):=(eOr _).an (mOr _) (lOa _)
theorem mOa κ:aj (Yg κ):=(mOr _).an aJ
theorem yOg κ ds rs K:(a0 (Yg κ) 12 42 [eH ds rs] [] K)=(
 letI a:=AV.ptr 0 0 []
 letI b:=AV.int
 letI c:=AV.ptr
 letI d:=AV.agg
 letI e:=Obj.box
 letI f:=Obj.rows
 letI g:=AV.ah
 letI h:=AV.ak
 letI i:=AV.nil
 letI j:=Int.toNat (↑(ds.length):Int)
 letI l:=d [g 43 ds,g 48 rs]
 letI m:=Pg.toProgram (Env.P (L4 κ))
 aV (true&&decide ((↑(ds.length):Int)<=(↑(ds.length):Int))&&decide ((Int.toNat (↑(ds.length):Int)+1)*25<=70368744177664)&&true) (∃(e1:Ca),letI k:=[g 43 e1.1,g 48 e1.2];letI n:=[h 1 0 e1.1.length,i];([c 4 0 [] 0],[e 25 l,f 35 3 (List.replicate j []) none,e 145 (d [h 1 0 j,i]),e 99 (c 2 0 [] 0),e 25 l,Dn.Obj.loop (iG Tryz.prog 42 3 LoopState.ready none (hG (bM 63) [(0,d [g 43 ds,g 48 rs]),(1,a 0),(2,AV.lit (Value.pointer none)),(3,c 3 0 [] 0),(7,c 0 0 [0] 0),(8,g 43 ds),(9,b (↑(ds.length):Int)),(10,h 1 0 j),(11,d [h 1 0 j,i]),(12,c 2 0 [] 0),(13,d [g 43 ds,g 48 rs]),(14,AV.bm 129 [c 4 0 [] 0])]))])=([c 4 0 [] 0],[e 25 (d k),f 35 3 (List.replicate e1.1.length []) none,e 145 (d n),e 99 (c 2 0 [] 0),e 25 (d k),Dn.Obj.loop (iG Tryz.prog 42 3 LoopState.ready none (hG (bM 63) [(0,d k),(1,a 0),(2,AV.lit (Value.pointer none)),(3,c 3 0 [] 0),(7,c 0 0 [0] 0),(8,g 43 e1.1),(9,b (↑(e1.1.length):Int)),(10,h 1 0 e1.1.length),(11,d n),(12,c 2 0 [] 0),(13,d k),(14,AV.bm 129 [c 4 0 [] 0])]))])/\yh e1.1 e1.2/\ad m 42 8=ad m 42 8/\∃(e0:AOf),sp 63 [(3,a 0),(45,b (↑(e1.1.length):Int)),(46,b 0)] [e 99 (c 1 0 [] 0),e 145 (d [h 2 0 e1.1.length,i]),f 35 3 (dy (s7 e1.1.length (yP e1.1 e1.2))) none]=sp 63 [(3,a 0),(45,b (↑(e0.n):Int)),(46,b (↑(e0.i):Int))] (V9 e0.n e0.m e0.L e0.i)/\(WG e0.n e0.m e0.L/\(e0.n+1)*e0.m<=1000000000/\e0.i<=e0.n/\e0.n<=60)/\aq (Nat.beq e0.n 0) (K (a 0) [e 145 (d [h 1 0 e0.n,i]),f 35 3 (dy e0.L) none]) (K (a 0) [e 145 (d [h 1 0 e0.n,h 2 0 (List.length (bu e0.n e0.m e0.L e0.n))]),f 35 3 (dy e0.L) none,Obj.row 101 (bu e0.n e0.m e0.L e0.n)]))):=by kernel_rfl
def CG ds a:=s7 ds.length (yP ds a)
def rE ds rs:=(yP ds rs).length
def af0(x:Ca):List AV×List Dn.Obj:=([eH x.1 x.2],[])
def TL(x:Ca):Out (AV×List Dn.Obj):= .aq (Nat.beq x.1.length 0)
 (.one (.ptr 0 0 [] 0,yo x.1.length (dy (CG x.1 x.2))))
 (.one (.ptr 0 0 [] 0,uD x.1.length (dy (CG x.1 x.2)) (bu x.1.length (rE x.1 x.2) (CG x.1 x.2) x.1.length)))
theorem yh.le{ds a}(h:yh ds a):(ds.length+1)*rE ds a<=1000000000:=by
 have c:=h.hd;have d:=h.hr;have b:=Ao ds _ h.bs;refine Nat.le_trans (Nat.mul_le_mul (show ds.length+1<=61 by omega) (by unfold rE;omega)) (by omega)
theorem yh.wg{ds a}(h:yh ds a):WG ds.length (rE ds a) (CG ds a):=Wa h.ed
theorem cOg κ:bc (Yg κ) 12 42 (aO af0 (fun x=>yh x.1 x.2) TL):=by
 refine aR ?_;rintro⟨ds,b⟩ K a c;simp only at a;refine Eq.mpr (yOg κ ds b K) ?_;have hd:=a.hd;simp only[ai,ar5];exact⟨by grind,(ds,b),rfl,a,trivial,⟨ds.length,rE ds b,CG ds b,0⟩,rfl,⟨a.wg,a.le,Nat.zero_le _,hd⟩,c⟩
noncomputable def Yh κ:=(Yg κ).aw 42 (aO af0 (fun x=>yh x.1 x.2) TL)
theorem eOf κ:aE (Yh κ):=(eOa _).aw (mOa _) (cOg _)
theorem mOf κ:aj (Yh κ):=(mOa _).aw aI
end Go.Proofs.YtioeffnadipbaaaGreatDoor
