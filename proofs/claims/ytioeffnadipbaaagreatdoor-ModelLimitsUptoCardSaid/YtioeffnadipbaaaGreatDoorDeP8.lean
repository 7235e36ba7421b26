import Derived.Test.YtioeffnadipbaaaGreatDoorDeP1
import Derived.Test.YtioeffnadipbaaaGreatDoorDeP6
namespace Go.Rl
open Go Go.Dn
abbrev Gr:=List (List Int)
def Gr.at(L:Gr)(a:Int):List Int:=L.getD a.toNat []
def qg(L:Gr)(e:Int×Int):=bif (L.at e.1).contains e.2 then L else L.set e.1.toNat (L.at e.1++[e.2])
def tr n(E:List _):=E.foldl qg (List.replicate n [])
theorem C8 L e:(qg L e).length=L.length:=by
 grind [qg]
theorem tQ: ∀(E:List _) L,(E.foldl qg L).length=L.length
 |[],_=>rfl
 |e::E,L=>by rw[List.foldl_cons,tQ E,C8]
theorem GA(L:Gr)(a b:Int) x(ha:a.toNat<L.length):Gr.at (L.set a.toNat x) b=if a.toNat=b.toNat then x else L.at b:=by
 grind [Gr.at]
theorem Mm L e(he:0<=e.1/\e.1.toNat<L.length) a b(h0:0<=a):b∈(qg L e).at a↔b∈L.at a\/(a,b)=e:=by
 obtain⟨c,d⟩:=e;unfold qg;cases h:(L.at c).contains d with
 |true=>
  grind
 |false=>
  rw[an7,GA L c a _ he.2]
  grind
theorem za: ∀(E:List _) L,(∀e,e∈E->0<=e.1/\e.1.toNat<L.length)->∀a b:Int,0<=a->(b∈Gr.at (E.foldl qg L) a↔b∈L.at a\/(a,b)∈E)
 |[],L,_,a,b,_=>by simp
 |e::E,L,h,a,b,h0=>by
  rw[List.foldl_cons,za E _ fun x hx=>by grind [C8] a b h0,Mm L e (h e (by simp)) a b h0,ap0,or_assoc]
theorem Ot: ∀(E:List _) L a,(Gr.at (E.foldl qg L) a).length<=(L.at a).length+E.length
 |[],L,a=>by simp
 | e ::E,L,a=>by
  rw[List.foldl_cons];refine Nat.le_trans (Ot E (qg L e) a) ?_;have:((qg L e).at a).length<=(L.at a).length+1:=by
   unfold qg;cases(L.at e.1).contains e.2 with
   |true=>rw[an9];omega
   | false=>
    rw[an7];by_cases hl:e.1.toNat<L.length
    ·rw[GA L e.1 a _ hl]
     by_cases hc:e.1.toNat=a.toNat
     ·simp_all[Gr.at]
     ·rw[if_neg hc];omega
    ·rw[List.set_eq_of_length_le (by omega)];omega
  grind
theorem Fx n a:Gr.at (List.replicate n []) a=[]:=by
 grind [Gr.at]
structure WG(n m:Nat)(L:Gr):Prop where
 len:L.length=n
 le: ∀a,(L.at a).length<=m
 lF: ∀a,0<=a->∀b,b∈L.at a->0<=b/\b<n
theorem RB{n:Nat}{E:List (Int×Int)}(h: ∀e,e∈E->(0<=e.1/\e.1<n)/\0<=e.2/\e.2<n){a b}(h0:0<=a):b∈(tr n E).at a↔(a,b)∈E:=by
 grind [tr,za,Fx]
theorem Uy{n:Nat}{E:List (Int×Int)}(h: ∀e,e∈E->(0<=e.1/\e.1<n)/\0<=e.2/\e.2<n):WG n E.length (tr n E):=by
 refine⟨by unfold tr;rw[tQ];simp,fun a=>?_,fun a h0 b hb=>?_⟩
 ·grind [Ot,Fx,tr]
 grind [RB]
inductive yz (L:Gr):Int->Int->Prop
 |refl (a:Int):yz L a a
 |step {a b c:Int} (h:b∈L.at a) (k:yz L b c):yz L a c
def Rc L a b:=∃c,c∈L.at a/\yz L c b
theorem yz.trans{L a b c}(h:yz L a b)(k:yz L b c):yz L a c:=by
 induction h<;>grind [step]
theorem Rc.trans{L a b c}(h:Rc L a b)(k:Rc L b c):Rc L a c:=by
 obtain⟨d,h1,h2⟩:=h;obtain⟨e,k1,k2⟩:=k;exact⟨d,h1,h2.trans (.step k1 k2)⟩
theorem Rc.step{L a b c}(h:Rc L a b)(k:c∈L.at b):Rc L a c:=h.trans ⟨c,k, .refl c⟩
theorem Rc.mono{L M}(h: ∀a b,0<=a->b∈L.at a->b∈M.at a/\0<=b){a b}(h0:0<=a)(k:Rc L a b):Rc M a b:=by
 obtain⟨c,h1,h2⟩:=k;have st: ∀{x y:Int},yz L x y->0<=x->yz M x y:=fun{x y} k=>by
  induction k with
  |refl=>intro _;exact .refl _
  |step h' _ ih=>intro hx;exact .step (h _ _ hx h').1 (by grind)
 exact⟨c,by grind,by grind⟩
theorem Rc.lF{n m L}(hG:WG n m L){a b}(h0:0<=a)(h:Rc L a b):0<=b/\b<n:=by
 obtain⟨c,h1,h2⟩:=h;have:=hG.lF a h0 c h1
 clear h1;induction h2 with
 |refl=>grind
 |step h _ ih=>exact ih (hG.lF _ this.1 _ h)
def fw(l:List Int):Int:=l.getLastD 0
def Ld(L:Gr):Nat->List Int->List Int->List Int
 |0,_,met=>met
 |_+1,[],met=>met
 |f+1,t::todo,met=>bif met.contains (fw (t::todo)) then Ld L f (t::todo).dropLast met else Ld L f ((t::todo).dropLast++L.at (fw (t::todo))) (met++[fw (t::todo)])
def jR n:=(List.range n).map fun(k:Nat)=>(k:Int)
theorem pk{n a}:a∈jR n↔0<=a/\a<n:=by
 simp[jR];refine⟨?_,fun h=>⟨a.toNat,by omega,by omega⟩⟩;omega
theorem pT{α:Type}{p q}: ∀{l:List α},(∀x,x∈l->p x=true->q x=true)->(∃x,x∈l/\q x=true/\p x=false)->l.countP p<l.countP q
 |[],_,h=>by grind
 | a::l,h,⟨x,hx,h1,h2⟩=>by
  have hm:=List.countP_mono_left (l:=l) (p:=p) (q:=q) (by grind);simp only[List.countP_cons];rcases List.mem_cons.1 hx with rfl|hx
  ·grind
  ·have ih:=pT (l:=l) (by grind) ⟨x,hx,h1,h2⟩
   grind
def Ev n(met:List _):=(jR n).countP fun x=>!met.contains x
theorem G6 n met:Ev n met<=n:=by
 grind [List.countP_le_length,jR,Ev]
theorem HK{n:Nat}{met}{b:Int}(hb:0<=b/\b<n)(hn:met.contains b=false) l(hl:b∈l):Ev n (met++l)<Ev n met:=by
 refine pT (fun x _ h=>?_) ⟨b,pk.2 hb,by grind,by grind⟩
 grind
def ms n m(todo met:List Int):=Ev n met*(m+1)+todo.length
theorem pC{t todo}:fw (t::todo)∈t::todo:=by
 grind [fw]
theorem zE{t todo}:(t::todo).dropLast++[fw (t::todo)]=t::todo:=by
 grind [fw,List.dropLast_concat_getLast]
theorem Ca n m t todo met:ms n m (t::todo).dropLast met<ms n m (t::todo) met:=by
 grind [ms]
theorem Ay{n m L}(hG:WG n m L) t todo met(hb:0<=fw (t::todo)/\fw (t::todo)<n)(hn:met.contains (fw (t::todo))=false):
  ms n m ((t::todo).dropLast++L.at (fw (t::todo))) (met++[fw (t::todo)])<ms n m (t::todo) met:=by
 unfold ms;have h1:=HK hb hn [fw (t::todo)] (by simp);have h2:=hG.le (fw (t::todo));have h3:=Nat.mul_le_mul_right (m+1) h1
 grind
structure Sd(n m:Nat)(todo met:List Int):Prop where
 ht: ∀x,x∈todo->0<=x/\x<n
 hm: ∀x,x∈met->0<=x/\x<n
 le:todo.length+Ev n met*m<=(n+1)*m
theorem Sd.pop{n m t todo met}(h:Sd n m (t::todo) met):Sd n m (t::todo).dropLast met:=
 ⟨fun x hx=>h.ht x (List.dropLast_subset _ hx),h.hm,by have:=h.le;grind⟩
theorem Sd.add{n m L}(hG:WG n m L){t todo met}(h:Sd n m (t::todo) met)(hn:met.contains (fw (t::todo))=false):Sd n m ((t::todo).dropLast++L.at (fw (t::todo))) (met++[fw (t::todo)]):=by
 have hb:=h.ht _ pC;refine⟨fun x hx=>?_,fun x hx=>?_,?_⟩
 ·rcases List.mem_append.1 hx with hx|hx
  ·exact h.ht x (List.dropLast_subset _ hx)
  ·exact hG.lF _ hb.1 x hx
 ·rcases List.mem_append.1 hx with hx|hx
  ·exact h.hm x hx
  grind
 ·have h1:=HK hb hn [fw (t::todo)] (by simp)
  have h2:=hG.le (fw (t::todo));have h3:=Nat.mul_le_mul_right m (show Ev n (met++[fw (t::todo)])+1<=Ev n met from h1);rw[Nat.add_mul] at h3;have h4:=h.le
  grind
theorem Sd.start{n m L}(hG:WG n m L){a}(h0:0<=a):Sd n m (L.at a) []:=
 ⟨fun x hx=>hG.lF a h0 x hx,by simp,by
  have h1:=hG.le a;have h2:=Nat.mul_le_mul_right m (G6 n [])
  grind⟩
theorem sB{n m L}(hG:WG n m L): ∀f g todo met,Sd n m todo met->ms n m todo met<=f->ms n m todo met<=g->Ld L f todo met=Ld L g todo met
 |0,g,todo,met,_,h,_=>by
  have:todo=[]:=by unfold ms at h;simp_all
  subst this;cases g<;>rfl
 |f+1,0,todo,met,_,_,h=>by
  have:todo=[]:=by unfold ms at h;simp_all
  subst this;rfl
 |f+1,g+1,[],met,_,_,_=>rfl
 | f+1,g+1,t::todo,met,hs,h1,h2=>by
  rw[Ld,Ld];cases hc:met.contains (fw (t::todo)) with
  |true=>
   have:=Ca n m t todo met
   rw[an9,an9];exact sB hG f g _ _ hs.pop (by omega) (by omega)
  |false=>
   have:=Ay hG t todo met (hs.ht _ pC) hc
   exact sB hG f g _ _ (hs.add hG hc) (by omega) (by omega)
def xD n m L todo met:=Ld L (ms n m todo met) todo met
theorem DT n m L met:xD n m L [] met=met:=by
 unfold xD;cases ms n m _ _<;>rfl
theorem KV{n m L}(hG:WG n m L){t todo met}(hs:Sd n m (t::todo) met):
  xD n m L (t::todo) met=bif met.contains (fw (t::todo)) then xD n m L (t::todo).dropLast met else xD n m L ((t::todo).dropLast++L.at (fw (t::todo))) (met++[fw (t::todo)]):=by
 have e:ms n m (t::todo) met=ms n m (t::todo) met - 1+1:=by rfl
 unfold xD;rw[e,Ld];cases hc:met.contains _ with
 |true=>
  have:=Ca n m t todo met
  exact sB hG _ _ _ _ hs.pop (by omega) (Nat.le_refl _)
 |false=>
  have:=Ay hG t _ _ (hs.ht _ pC) hc
  exact sB hG _ _ _ _ (hs.add hG hc) (by omega) (Nat.le_refl _)
theorem A4{n m L}(hG:WG n m L)(P:Int->Prop)(hP: ∀x y,P x->y∈L.at x->P y): ∀f todo met,Sd n m todo met->ms n m todo met<=f->(∀x,x∈todo\/x∈met->P x)->(∀x,x∈met->∀y,y∈L.at x->y∈met\/y∈todo)->
  (∀x,x∈Ld L f todo met->P x)/\(∀x,x∈todo\/x∈met->x∈Ld L f todo met)/\∀x,x∈Ld L f todo met->∀y,y∈L.at x->y∈Ld L f todo met
 |0,todo,met,_,h,h1,h2=>by
  have:todo=[]:=by unfold ms at h;exact List.eq_nil_of_length_eq_zero (by omega)
  subst this;exact⟨fun x hx=>h1 x (.inr hx),fun x hx=>hx.resolve_left (by simp),fun x hx y hy=>(h2 x hx y hy).resolve_right (by simp)⟩
 |f+1,[],met,_,_,h1,h2=>⟨fun x hx=>h1 x (.inr hx),fun x hx=>hx.resolve_left (by simp),fun x hx y hy=>(h2 x hx y hy).resolve_right (by simp)⟩
 | f +1,t::todo,met,hs,h,h1,h2=>by
  have hd: ∀x,x∈t::todo->x∈(t::todo).dropLast\/x=fw (t::todo):=fun x hx=>by
   rw[←zE (t:=t) (todo:=todo)] at hx;simpa using hx
  rw[Ld];cases hc:met.contains (fw (t::todo)) with
  | true=>
   have hm:fw (t::todo)∈met:=by simpa using hc
   have:=Ca n m t todo met
   rw[an9];obtain⟨g1,g2,g3⟩:=A4 hG P hP f (t::todo).dropLast met hs.pop (by omega) (fun x hx=>h1 x (hx.imp (fun h=>List.dropLast_subset _ h) id)) (fun x hx y hy=>by
    rcases h2 x hx y hy with h|h
    ·exact .inl h
    ·rcases hd y h with h|rfl
     ·exact .inr h
     ·exact .inl hm)
   refine⟨g1,fun x hx=>?_,g3⟩;rcases hx with hx|hx
   ·rcases hd x hx with h|rfl
    ·exact g2 x (.inl h)
    ·exact g2 _ (.inr hm)
   ·exact g2 x (.inr hx)
  | false=>
   have:=Ay hG t todo met (hs.ht _ pC) hc
   have hl:=h1 _ (.inl (pC (t:=t) (todo:=todo)));rw[an7];obtain⟨g1,g2,g3⟩:=A4 hG P hP f _ _ (hs.add hG hc) (by omega) (fun x hx=>by
    rcases hx with hx|hx
    ·rcases List.mem_append.1 hx with hx|hx
     ·exact h1 x (.inl (List.dropLast_subset _ hx))
     ·exact hP _ _ hl hx
    ·rcases List.mem_append.1 hx with hx|hx
     ·exact h1 x (.inr hx)
     ·rw[List.mem_singleton] at hx;rw[hx];exact hl) (by grind)
   grind
def iV n m L a:=xD n m L (L.at a) []
theorem RD{n m L}(hG:WG n m L){a b}(h0:0<=a):b∈iV n m L a↔Rc L a b:=by
 obtain⟨g1,g2,g3⟩:=A4 hG (Rc L a) (fun x y h k=>h.step k) _ _ _ (Sd.start hG h0) (Nat.le_refl _) (fun x hx=>⟨x,by grind, .refl x⟩) (by simp);refine⟨g1 b,?_⟩;rintro⟨c,h1,h2⟩;have hc:=g2 c (.inl h1);clear h1;induction h2 with
 |refl=>exact hc
 |step h _ ih=>grind
def ly n m L a b:=decide (a=b)||(iV n m L a).contains b&&(iV n m L b).contains a
theorem O1 n m L a:ly n m L a a=true:=by simp[ly]
section
variable {n m:Nat} {L:Gr}
def iy n m L a:=(jR n).filter (ly n m L a)
def kk n m L(done:List Int) a:=!done.contains a&&(iV n m L a).all fun b=>done.contains b||ly n m L a b
def gR n m L done:=((jR n).find? (kk n m L done)).getD (-1)
def wo(done l:List Int):=l.foldl (fun d b=>bif d.contains b then d else d++[b]) done
def yQ(n m:Nat)(L:Gr):Nat->List Int->List (List Int)
 |0,_=>[]
 |f+1,done=>bif decide (gR n m L done<0) then[] else iy n m L (gR n m L done)::yQ n m L f (wo done (iy n m L (gR n m L done)))
theorem wX: ∀l done x,x∈wo done l↔x∈done\/x∈l
 |[],done,x=>by simp[wo]
 |b::l,done,x=>by
  have ih:=wX l (bif done.contains b then done else done++[b]) x
  grind [wo]
theorem y1{done}(h:0<=gR n m L done):(0<=gR n m L done/\gR n m L done<n)/\kk n m L done (gR n m L done)=true:=by
 unfold gR at h⊢;cases e:(jR n).find? _<;>grind [pk]
theorem QT{a b}:b∈iy n m L a↔(0<=b/\b<n)/\ly n m L a b=true:=by
 unfold iy;rw[List.mem_filter,pk]
theorem BM{done}(h:0<=gR n m L done):Ev n (wo done (iy n m L (gR n m L done)))<Ev n done:=by
 obtain⟨h1,h2⟩:=y1 h;have hn:=by
  simp only[kk,an3,Bool.not_eq_true'] at h2;exact h2.1
 refine pT (fun x _ hx=>?_) ⟨gR n m L done,pk.2 h1,by simpa using hn,?_⟩
 ·simp_all[wX]
 simp_all[wX,QT,O1]
theorem z0: ∀f g done,Ev n done<f->Ev n done<g->yQ n m L f done=yQ n m L g done
 |0,_,_,h,_=>by omega
 |_+1,0,_,_,h=>by omega
 | f+1,g+1,done,h1,h2=>by
  rw[yQ,yQ];cases h:decide (gR n m L done<0) with
  |true=>rfl
  |false=>
   have:=BM     (by simpa using h)
   rw[an7,an7,z0 f g _ (by omega) (by omega)]
def uw n m L done:=yQ n m L (Ev n done+1) done
theorem CE done:uw n m L done=bif decide (gR n m L done<0) then[] else iy n m L (gR n m L done)::uw n m L (wo done (iy n m L (gR n m L done))):=by
 unfold uw;rw[yQ];cases h:decide (gR n m L _<0) with
 |true=>rfl
 |false=>
  have:=BM     (by simpa using h)
  rw[an7,an7,z0 _ _ _ (by omega) (Nat.lt_succ_self _)]
end
end Go.Rl
namespace Go.Proofs.YtioeffnadipbaaaGreatDoor
open Go Go.Dn Go.Rl Go.Proofs
attribute [local irreducible] a7 vc
set_option maxRecDepth 20000
def jC(op:Int):Bool:=decide (op=1)
def jh(op:Int):=bif decide (op=2) then true else decide (op>=7)
def dJ(op:Int):=bif decide (op<3) then true else decide (op>6)
theorem yKa κ op K:(a7 (Xo κ) 12 90 [.int op] [] K)=(
 K (AV.bool (op==(1:Int))) []):=by kernel_rfl
def gKa:List AV->Option (Bool×AV)
 |[.lit (.int .i64 op)]=>some (true, .bool (jC op))
 |_=>none
theorem pKa κ:cj (Xo κ) 12 90 gKa:=by
 intro args x hh;unfold gKa at hh;split at hh
 ·rename_i op
  simp   at hh;subst hh;exact⟨_,rfl,rfl,Eq.mpr (yKa κ _ _) (by rfl)⟩
 grind
noncomputable def Zy κ:=(Xo κ).aK 90 gKa
theorem eKa κ:aE (Zy κ):=(eCs _).aK (mCs _) (pKa _)
theorem mKa κ:aj (Zy κ):=(mCs _).aK
theorem yKb κ op K:(a7 (Zy κ) 12 88 [.int op] [] K)=(
 aq (op==(2:Int)) (K (AV.bool true) []) (K (AV.bool (decide (op>=(7:Int)))) [])):=by kernel_rfl
def gKb:List AV->Option (Bool×AV)
 |[.lit (.int .i64 op)]=>some (true, .bool (jh op))
 |_=>none
theorem pKb κ:cj (Zy κ) 12 88 gKb:=by
 intro args x hh;unfold gKb at hh;split at hh
 ·rename_i op
  simp   at hh;subst hh;refine⟨_,rfl,rfl,Eq.mpr (yKb _ _ _) ?_⟩;simp[W2];unfold jh;cases decide (op=2)<;>rfl
 grind
noncomputable def YB κ:=(Zy κ).aK 88 gKb
theorem eKb κ:aE (YB κ):=(eKa _).aK (mKa _) (pKb _)
theorem mKb κ:aj (YB κ):=(mKa _).aK
theorem yKc κ(a:LA) K:(a7 (YB κ) 12 130 [a.av] [] K)=(
 aq (decide (a.op<(3:Int))) (K (AV.bool true) []) (K (AV.bool (decide (a.op>(6:Int)))) [])):=by kernel_rfl
def gKc:List AV->Option (Bool×AV)
 |[.agg [.lit (.int .i64 op), .agg [.lit (.string _), .ah 38 _], .agg [.lit (.int .i64 _), .lit (.string _), .lit (.int .i64 _), .ah 38 _], .agg [.lit (.int .i64 _), .lit (.string _), .lit (.int .i64 _), .ah 38 _]]]=>some (true, .bool (dJ op))
 |_=>none
theorem pKc κ:cj (YB κ) 12 130 gKc:=by
 intro args x hh;unfold gKc at hh;split at hh
 ·rename_i op s l o1 s1 n1 l1 o2 s2 n2 l2
  simp only[an5,ao1,true_and] at hh;subst hh;refine⟨_,rfl,rfl,Eq.mpr (yKc κ ⟨op,s,l,o1,s1,n1,l1,o2,s2,n2,l2⟩ _) ?_⟩;unfold dJ;simp only;cases decide (op<3)<;>rfl
 ·cases hh
noncomputable def Sh κ:=(YB κ).aK 130 gKc
theorem eKc κ:aE (Sh κ):=(eKb _).aK (mKb _) (pKc _)
theorem mKc κ:aj (Sh κ):=(mKb _).aK
theorem xKd κ l k i I n K:(vc (Sh κ) 12 131 none 0 (ad (Pr κ).toProgram 131 2) (sp 19 [(0, .ah 3 l),(1, .int k),(7, .int l.length),(8, .int i)] []) (bh (Sh κ) 131 2 0 I n K))=(
 letI a:=i<(↑(l.length):Int)
 aq (decide a) (aW (decide ((0:Int)<=i)&&decide a) (aq (k==toInt (nth l i.toNat)) (K Exit.ret (sp 19 [(4,AV.int i)] [])) (∃(e0:Nat),e0<n/\I e0
 (sp 19 [(0,AV.ah 3 l),(1,AV.int k),(7,AV.int (↑(l.length):Int)),(8,AV.int (IntKind.wrap IntKind.i64 (i+(1:Int))))] [])))) (K (Exit.exit 0) (sp 19
 [] []))):=by kernel_rfl
def ig(k:Int):List AV->Int->Int
 |[],_=> -1
 |a::l,i=>bif decide (k=toInt a) then i else ig k l (i+1)
abbrev Zb(a:List _×Int×Int):=sp 19 [(0, .ah 3 a.1),(1, .int a.2.1),(7, .int a.1.length),(8, .int a.2.2)] []
def On(a:List AV×Int×Int):=a.1.length<=aU/\0<=a.2.2/\a.2.2<=a.1.length
def IT(a:List AV×Int×Int):Out (Exit×S):= .aq (decide (ig a.2.1 (a.1.drop a.2.2.toNat) a.2.2>=0)) (.one (.ret,sp 19 [(4, .int (ig a.2.1 (a.1.drop a.2.2.toNat) a.2.2))] [])) (.one (.exit 0,sp 19 [] []))
theorem lKd κ:aR (Sh κ) 12 131 2 (aG 0 Zb On IT):=by
 refine aD (fun a=>a.1.length - a.2.2.toNat) ?_;rintro⟨l,s,i⟩ K ⟨h1,h2,h3⟩ ho;simp only at h1 h2 h3;rw[show(Sh κ).P=Pr κ from rfl];refine Eq.mpr (xKd κ l s i _ _ K) ?_;simp only[aU] at h1;simp only[IT,Out.run,ae] at ho;simp only[ae,ai,an2,an4,an3,beq_iff_eq,beq_eq_false_iff_ne];refine⟨fun hi=>⟨⟨h2,hi⟩,fun e=>?_,fun e=>?_⟩,fun hi=>?_⟩
 ·rw[ao3 (show i.toNat<l.length by omega),←aX l i.toNat (by omega),ig,an8 e,an9,an8 (show i>=0 from h2)] at ho
  exact ho.1 rfl
 ·rw[az (n:=i+1) (by omega) (by omega)]
  refine⟨_,?_,(l,s,i+1),rfl,⟨by simpa[aU] using h1,by simp only;omega,by simp only;omega⟩,rfl,?_⟩
  ·simp only;omega
  ·rw[ao3 (show i.toNat<l.length by omega),←aX l i.toNat (by omega),ig,an6 e,an7] at ho
   simp only[IT,Out.run,ae,show(i+1).toNat=i.toNat+1 by omega];exact ho
 ·rw[ao0 (by omega)] at ho
  exact ho.2 rfl
noncomputable def EKd κ:=(Sh κ).an 131 2 (aG 0 Zb On IT)
theorem eKd κ:aE (EKd κ):=(eKc _).an (mKc _) (lKd _)
theorem mKd κ:aj (EKd κ):=(mKc _).an aI
theorem yKe κ l k K:(a7 (EKd κ) 12 131 [.ah 3 l, .int k] [] K)=(
 letI b:=AV.int
 ad (Pg.toProgram (Env.P (Sh κ))) 131 2=ad (Pg.toProgram (Env.P (Sh κ))) 131 2/\∃(a:List AV×Int×Int),letI c:=List.drop (Int.toNat a.2.2) a.1;sp 19 [(0,AV.ah 3 l),(1,b k),(7,b (↑(l.length):Int)),(8,b 0)] []=sp 19 [(0,AV.ah 3 a.1),(1,b a.2.1),(7,b (↑(a.1.length):Int)),(8,b a.2.2)] []/\(a.1.length<=9223372036854775807/\(0:Int)<=a.2.2/\a.2.2<=(↑(a.1.length):Int))/\aq (decide (ig a.2.1 c a.2.2>=(0:Int))) (K (b (ig a.2.1 c a.2.2)) []) (K (b (-1)) [])):=by kernel_rfl
def gKe:List AV->Option (Bool×AV)
 |[.ah 3 l, .lit (.int .i64 k)]=>some (decide (l.length<=aU), .int (ig k l 0))
 |_=>none
theorem wE s: ∀l i,¬ ig s l i>=0->0<=i->ig s l i= -1
 |[],_,_,_=>rfl
 |a::l,i,h,h0=>by
  simp only[ig] at h⊢;cases e:decide (s=toInt a) with
  |true=>grind
  |false=>rw[e] at h;exact wE s l _ h (by omega)
theorem pKe κ:cj (EKd κ) 12 131 gKe:=by
 intro args x hh;unfold gKe at hh;split at hh
 ·rename_i l s
  simp only[an5,ao1,an2] at hh;obtain⟨h1,rfl⟩:=hh;refine⟨_,rfl,rfl,?_⟩;refine Eq.mpr (yKe κ l s _) ?_;refine⟨rfl,(l,s,0),rfl,⟨h1,by simp only;omega,by simp only;omega⟩,?_⟩
  simp_all[Int.toNat_zero,ae,wE]
 ·cases hh
noncomputable def ZR κ:=(EKd κ).aK 131 gKe
theorem eKe κ:aE (ZR κ):=(eKd _).aK (mKd _) (pKe _)
theorem mKe κ:aj (ZR κ):=(mKd _).aK
theorem yKf κ l k K:(a7 (ZR κ) 12 85 [.ah 3 l, .int k] [] K)=(
 aW (decide (l.length<=9223372036854775807)) (K (AV.bool (decide (ig k l (0:Int)>=(0:Int)))) [])):=by kernel_rfl
def XC k l:=decide (ig k l 0>=0)
def gKf:List AV->Option (Bool×AV)
 |[.ah 3 l, .lit (.int .i64 k)]=>some (decide (l.length<=aU), .bool (XC k l))
 |_=>none
theorem pKf κ:cj (ZR κ) 12 85 gKf:=by
 intro args x hh;unfold gKf at hh;split at hh
 ·rename_i l s
  simp   at hh;obtain⟨h1,rfl⟩:=hh;refine⟨_,rfl,rfl,?_⟩;refine Eq.mpr (yKf _ l s _) ?_;rw[ai,an2];exact⟨h1,rfl⟩
 grind
noncomputable def Rt κ:=(ZR κ).aK 85 gKf
theorem eKf κ:aE (Rt κ):=(eKe _).aK (mKe _) (pKf _)
theorem mKf κ:aj (Rt κ):=(mKe _).aK
theorem y6 k: ∀l i,0<=i->(ig k (iA l) i>=0↔k∈l)
 |[],_,_=>by simp[iA,ig]
 |a::l,i,h0=>by
  have ih:=y6 k l (i+1) (by omega);simp only[iA,ao9,ig] at ih⊢
  grind [toInt]
theorem Nl k l:XC k (iA l)=l.contains k:=by
 grind [XC,y6]
def FA(ds:List AV)(a:Int):List AV->List (Int×Int)
 |[]=>[]
 |l::bl=>bif dJ (toInt (af l 0)) then(a,bH (toStr (af (af l 1) 0)) ds)::FA ds a bl else FA ds a bl
def edR ds r:=FA ds (bH (toStr (af (af r 0) 0)) ds) (ag (af r 1))
def zm(ds rs:List _):=rs.flatMap (edR ds)
def Ez(E:List (Int×Int)):List AV:=E.map fun e=> .aJ [.int e.1, .int e.2]
theorem Sn E F:Ez (E++F)=Ez E++Ez F:=by simp[Ez]
structure S2 where
 ds:List AV
 rs:List AV
 xs:List AV
 more:List AV
 bl:List AV
 a:Int
 i:Int
 j:Int
abbrev Nq(x:S2):=sp 53 [(0, .cf 0),(1, .ptr 1 0 [] 0),(5, .int x.a),(12, .ah 48 x.rs),(13, .int x.rs.length),(14, .int x.i),(28, .ah 80 x.bl),(29, .int x.bl.length),(30, .int x.j)] [.ext (some x.xs), .box 25 (fq x.ds x.rs)]
theorem xKg κ x I n K:(vc (Rt κ) 12 129 none 2 (ad (Pr κ).toProgram 129 5) (Nq x) (bh (Rt κ) 129 5 2 I n K))=(
 letI a:=AV.int
 letI b:=Obj.box
 letI c:=Obj.ext
 letI d:=AV.ah
 letI e:=AV.agg [d 43 x.ds,d 48 x.rs]
 letI g:=IntKind.wrap IntKind.i64 (x.j+(1:Int))
 letI f:=x.bl.length
 aq (decide (x.j<(↑f:Int))) (aW (decide ((0:Int)<=x.j)&&decide (x.j<(↑f:Int))) (aq (!dJ (toInt (af (nth x.bl x.j.toNat) 0))) (∃(e0:Nat),e0<n
 /\I e0 (sp 53 [(0,AV.cf 0),(1,AV.ptr 1 0 [] 0),(5,a x.a),(12,d 48 x.rs),(13,a (↑(x.rs.length):Int)),(14,a x.i),(28,d 80
 x.bl),(29,a (↑f:Int)),(30,a g)] [c (some x.xs),b 25 e])) (∃(e2:List AV×ByteArray),([d 43 x.ds,AV.str (toStr (af (af
 (nth x.bl x.j.toNat) 1) 0))],aL)=([d 43 e2.1,AV.str e2.2],aL)/\iD e2/\∃(e1:List AV),x.xs=AV.aJ [a x.a,a (bH e2.2 e2.1)]::e1/\(∃
 (e0:Nat),e0<n/\I e0 (sp 53 [(0,AV.cf 0),(1,AV.ptr 1 0 [] 0),(5,a x.a),(12,d 48 x.rs),(13,a (↑(x.rs.length):Int)),(14,a
 x.i),(28,d 80 x.bl),(29,a (↑f:Int)),(30,a g)] [c (some e1),b 25 e]))/\K Exit.ret (sp 53 [] [c none,b 25
 e])))) (K (Exit.exit 2) (sp 53 [(0,AV.cf 0),(1,AV.ptr 1 0 [] 0),(12,d 48 x.rs),(13,a (↑(x.rs.length):Int)),(14,a x.i)] [c (some
 x.xs),b 25 e]))):=by kernel_rfl
def E6(x:S2):=x.ds.length<=aU/\x.bl.length<=aU/\0<=x.j/\x.j<=x.bl.length/\x.xs=Ez (FA x.ds x.a (x.bl.drop x.j.toNat))++x.more
def Ou(x:S2):Out (Exit×S):= .all (fun _=>True) fun b=> .aq b
 (.one (.exit 2,sp 53 [(0, .cf 0),(1, .ptr 1 0 [] 0),(12, .ah 48 x.rs),(13, .int x.rs.length),(14, .int x.i)] [.ext (some x.more), .box 25 (fq x.ds x.rs)]))
 (.one (.ret,sp 53 [] [.ext none, .box 25 (fq x.ds x.rs)]))
theorem LD ds a bl k(h:k<bl.length):FA ds a (bl.drop k)=bif dJ (toInt (af (nth bl k) 0)) then(a,bH (toStr (af (af (nth bl k) 1) 0)) ds)::FA ds a (bl.drop (k+1)) else FA ds a (bl.drop (k+1)):=by
 grind [List.drop_eq_getElem_cons,aX,FA]
theorem lKg κ:aR (Rt κ) 12 129 5 (aG 2 Nq E6 Ou):=by
 refine aD (fun x=>x.bl.length - x.j.toNat) ?_;rintro⟨ds,rs,xs,more,bl,a,i,j⟩ K ⟨h0,h1,h2,h3,h4⟩ ho;simp only at h0 h1 h2 h3 h4;rw[show(Rt κ).P=Pr κ from rfl];refine Eq.mpr (xKg κ ⟨ds,rs,xs,more,bl,a,i,j⟩ _ _ K) ?_;simp only[aU] at h1;have ho1:=ho true trivial;have ho2:=ho false trivial;simp only[Out.run,aq] at ho1 ho2;simp only[ae,ai,an2,an4,an3];refine⟨fun hj=>⟨⟨h2,hj⟩,?_⟩,fun hj=>?_⟩
 ·have hd:=LD ds a bl j.toNat (by omega)
  rw[hd] at h4;rw[az (n:=j+1) (by omega) (by omega)];have next: ∀ys,ys=Ez (FA ds a (bl.drop (j.toNat+1)))++more->∃m,m<bl.length - j.toNat/\ei Nq E6 Ou (fun x=>x.bl.length - x.j.toNat) K m (Nq ⟨ds,rs,ys,more,bl,a,i,j+1⟩):=fun ys hy=>by
   refine⟨_,?_,⟨ds,rs,ys,more,bl,a,i,j+1⟩,rfl,⟨h0,by simpa[aU] using h1,by simp only;omega,by simp only;omega,?_⟩,rfl,ho⟩
   ·simp only;omega
   ·simp only[show(j+1).toNat=j.toNat+1 by omega];exact hy
  refine⟨fun e=>?_,fun e=>?_⟩
  ·grind
  ·rw[show dJ (toInt (af (nth bl j.toNat) 0))=true by simpa using e] at h4
   exact⟨(ds,toStr (af (af (nth bl j.toNat) 1) 0)),rfl,h0,_,h4,next _ rfl,ho2⟩
 ·rw[ao0 (by omega)] at h4
  have h4:xs=more:=h4;subst h4;exact ho1
noncomputable def QK κ:=(Rt κ).an 129 5 (aG 2 Nq E6 Ou)
theorem eKg κ:aE (QK κ):=(eKf _).an (mKf _) (lKg _)
theorem mKg κ:aj (QK κ):=(mKf _).an aI
abbrev Qj(x:S2):=sp 53 [(0, .cf 0),(1, .ptr 1 0 [] 0),(12, .ah 48 x.rs),(13, .int x.rs.length),(14, .int x.i)] [.ext (some x.xs), .box 25 (fq x.ds x.rs)]
theorem xKh κ x I n K:(vc (QK κ) 12 129 none 2 (ad (Pr κ).toProgram 129 1) (Qj x) (bh (QK κ) 129 1 2 I n K))=(
 letI a:=AV.int
 letI b:=Obj.box
 letI c:=Obj.ext
 letI d:=AV.ah
 letI g:=AV.agg [d 43 x.ds,d 48 x.rs]
 letI e:=nth x.rs x.i.toNat
 letI h:=x.i<(↑(x.rs.length):Int)
 letI i:=Pg.toProgram (Env.P (Rt κ))
 aq (decide h) (aW (decide ((0:Int)<=x.i)&&decide h) (∃(e3:List AV×ByteArray),([d 43 x.ds,AV.str (toStr (af (af e 0) 0))],aL)=([d 43 e3.1,AV.str e3.2],aL)/\iD e3/\ad i 129 5=ad i 129 5/\∃(e2:S2),letI f:=AV.agg [d 43 e2.ds,d 48 e2.rs];sp 53 [(0,AV.cf 0),(1,AV.ptr 1 0 [] 0),(5,a (bH e3.2 e3.1)),(12,d 48 x.rs),(13,a (↑(x.rs.length):Int)),(14,a x.i),(28,d 80 (ag (af e 1))),(29,a (↑(List.length (ag (af e 1))):Int)),(30,a 0)] [c (some x.xs),b 25 g]=sp 53 [(0,AV.cf 0),(1,AV.ptr 1 0 [] 0),(5,a e2.a),(12,d 48 e2.rs),(13,a (↑(e2.rs.length):Int)),(14,a e2.i),(28,d 80 e2.bl),(29,a (↑(e2.bl.length):Int)),(30,a e2.j)] [c (some e2.xs),b 25 f]/\(e2.ds.length<=9223372036854775807/\e2.bl.length<=9223372036854775807/\(0:Int)<=e2.j/\e2.j<=(↑(e2.bl.length):Int)/\e2.xs=Ez (FA e2.ds e2.a (List.drop e2.j.toNat e2.bl))++e2.more)/\∀(e1:Bool),True->aq e1 (∃(e0:Nat),e0<n/\I e0 (sp 53 [(0,AV.cf 0),(1,AV.ptr 1 0 [] 0),(12,d 48 e2.rs),(13,a (↑(e2.rs.length):Int)),(14,a (IntKind.wrap IntKind.i64 (e2.i+(1:Int))))] [c (some e2.more),b 25 f])) (K Exit.ret (sp 53 [] [c none,b 25 f])))) (K (Exit.exit 0) (sp 53 [] [c (some x.xs),b 25 g]))):=by kernel_rfl
def MW(rs:List _):=∀r,r∈rs->(ag (af r 1)).length<=aU
def Fg(x:S2):=x.ds.length<=aU/\x.rs.length<=aU/\MW x.rs/\0<=x.i/\x.i<=x.rs.length/\x.xs=Ez (zm x.ds (x.rs.drop x.i.toNat))
def ND(x:S2):Out (Exit×S):= .all (fun _=>True) fun b=> .aq b
 (.one (.exit 0,sp 53 [] [.ext (some []), .box 25 (fq x.ds x.rs)]))
 (.one (.ret,sp 53 [] [.ext none, .box 25 (fq x.ds x.rs)]))
theorem lKh κ:aR (QK κ) 12 129 1 (aG 2 Qj Fg ND):=by
 refine aD (fun x=>x.rs.length - x.i.toNat) ?_;rintro⟨ds,rs,xs,more,bl,a,i,j⟩ K ⟨h0,h1,h5,h2,h3,h4⟩ ho;simp only at h0 h1 h2 h3 h4 h5;rw[show(QK κ).P=Pr κ from rfl];refine Eq.mpr (xKh κ ⟨ds,rs,xs,more,bl,a,i,j⟩ _ _ K) ?_;simp only[aU] at h1;have ho1:=ho true trivial;have ho2:=ho false trivial;simp only[Out.run,aq] at ho1 ho2;simp only[ae,ai,an2,an4,an3];refine⟨fun hi=>⟨⟨h2,hi⟩,(ds,toStr (af (af (nth rs i.toNat) 0) 0)),rfl,h0,?_⟩,fun hi=>?_⟩
 ·have hk:i.toNat<rs.length:=by omega
  rw[zm,ao3 hk,←aX rs i.toNat hk,List.flatMap_cons,Sn] at h4;refine⟨trivial,⟨ds,rs,xs,Ez (zm ds (rs.drop (i.toNat+1))),ag (af (nth rs i.toNat) 1),bH (toStr (af (af (nth rs i.toNat) 0) 0)) ds,i,0⟩,rfl,⟨h0,?_,by simp only;omega,by simp only;omega,h4⟩,?_⟩
  ·exact h5 _ (by rw[aX _ _ hk];exact List.getElem_mem _)
  ·intro y _
   refine⟨fun _=>?_,fun _=>ho2⟩
   ·show∃m,m<rs.length - i.toNat/\ei Qj Fg ND (fun x=>x.rs.length - x.i.toNat) K m (sp 53 [(0, .cf 0),(1, .ptr 1 0 [] 0),(12, .ah 48 rs),(13, .int rs.length),(14, .int (IntKind.wrap IntKind.i64 (i+1)))] [.ext (some (Ez (zm ds (rs.drop (i.toNat+1))))), .box 25 (fq ds rs)])
    rw[az (n:=i+1) (by omega) (by omega)];refine⟨_,?_,⟨ds,rs,_,more,bl,a,i+1,j⟩,rfl,⟨h0,by simpa[aU] using h1,h5,by simp only;omega,by simp only;omega,?_⟩,rfl,ho⟩
    ·simp only;omega
    ·simp only[show(i+1).toNat=i.toNat+1 by omega];rfl
 ·rw[ao0 (by omega)] at h4
  have h4:xs=[]:=h4;subst h4;exact ho1
noncomputable def Yc κ:=(QK κ).an 129 1 (aG 2 Qj Fg ND)
theorem eKh κ:aE (Yc κ):=(eKg _).an (mKg _) (lKh _)
theorem mKh κ:aj (Yc κ):=(mKg _).an aI
theorem yKi κ ds rs xs K:(a7 (Yc κ) 12 129 [.cf 0, .ptr 1 0 [] 0] [.ext (some xs), .box 25 (fq ds rs)] K)=(
 letI b:=Obj.box
 letI c:=Obj.ext
 letI d:=AV.ah
 ad (Pg.toProgram (Env.P (QK κ))) 129 1=ad (Pg.toProgram (Env.P (QK κ))) 129 1/\∃(a:S2),letI e:=AV.agg [d 43 a.ds,d 48 a.rs];sp 53 [(0,AV.cf 0),(1,AV.ptr 1 0 [] 0),(12,d 48 rs),(13,AV.int (↑(rs.length):Int)),(14,AV.int 0)] [c (some xs),b 25 (AV.agg [d 43 ds,d 48 rs])]=sp 53 [(0,AV.cf 0),(1,AV.ptr 1 0 [] 0),(12,d 48 a.rs),(13,AV.int (↑(a.rs.length):Int)),(14,AV.int a.i)] [c (some a.xs),b 25 e]/\(a.ds.length<=9223372036854775807/\a.rs.length<=9223372036854775807/\(∀(r:AV),List.Mem r a.rs->List.length (ag (af r 1))<=9223372036854775807)/\(0:Int)<=a.i/\a.i<=(↑(a.rs.length):Int)/\a.xs=Ez (zm a.ds (List.drop a.i.toNat a.rs)))/\∀(y:Bool),True->aq y (K (AV.aJ []) [c (some []),b 25 e]) (K (AV.aJ []) [c none,b 25 e])):=by kernel_rfl
def Vb(x:Ch):List AV×List Dn.Obj:=([.cf 0, .ptr 1 0 [] 0],[.ext (some (Ez (zm x.1 x.2))), .box 25 (fq x.1 x.2)])
def E4(x:Ch):=x.1.length<=aU/\x.2.length<=aU/\MW x.2
def LU(_:Ch):Out (AV×List Dn.Obj):= .all (fun st'=>sv st') fun st'=> .one (.aJ [],st')
theorem cKi κ:bg (Yc κ) 12 129 (aO Vb E4 LU):=by
 refine aQ ?_;rintro⟨ds,rs⟩ K ⟨h1,h2,h3⟩ ho;refine Eq.mpr (yKi κ ds rs _ K) ?_;refine⟨rfl,⟨ds,rs,_,[],[],0,0,0⟩,rfl,⟨h1,h2,h3,by simp,by simp only;omega,rfl⟩,fun y _=>?_⟩;cases y
 ·exact ho _ trivial
 ·exact ho _ trivial
set_option maxRecDepth 20000 in
noncomputable def AS(κ:Kp):Env:=(Yc κ).aw 129 (aO Vb E4 LU)
theorem eKi κ:aE (AS κ):=(eKh _).aw (mKh _) (cKi _)
theorem mKi κ:aj (AS κ):=(mKh _).aw aH
end Go.Proofs.YtioeffnadipbaaaGreatDoor
namespace Go.Proofs.YtioeffnadipbaaaGreatDoor
open Go Go.Dn Go.Rl Go.Proofs
theorem x6{f}: ∀{rs},(H8 f rs).2=0↔ ∀x,x∈rs->f x=0
 |[]=>by simp[H8]
 |x::l=>by
  rw[H8];by_cases h:f x=0
  ·rw[an8 h,an9,x6];grind
  grind
theorem sZ{ds rs}:(mi ds rs).2=0↔fF ds rs=true/\(S8 ds ds 0).2=0/\(∀x,x∈rs->km ds x=0)/\∀x,x∈rs->kU x=0:=by
 unfold mi BD;cases fF ds rs with
 |false=>simp
 | true=>
  simp only[an9,true_and];by_cases h:(S8 ds ds 0).2=0
  ·by_cases h2:(H8 (km ds) rs).2=0
   ·simp_all[an8,x6]
   ·grind [x6]
  grind
theorem PD{ds a}(h:known (cM ds) a=0):0<=bH a.rel ds/\bH a.rel ds<ds.length:=by
 unfold known at h;cases e:kQ a.rel (cM ds) with
 |none=>grind
 |some k=>obtain⟨_,h2,h3⟩:=px e;omega
theorem SX{ds r}(h:(uR (ds,r)).1=0):jn (cM ds) (aM r)=0:=by
 by_cases e:jn (cM ds) (aM r)=0
 ·omega
 ·have hr: ∀n,(fR getM gB _ _ (n+1) []).1=jn _ _:=fun n=>by
   rw[fR,Ej _ _ _ e,an6 e,an7]
  grind [uR,NN]
theorem qJ{ds}: ∀{b},jd ds b=0->∀l,l∈b->Rl.dJ l=true->known ds l.a=0
 |[],_,_,h,_=>nomatch h
 | x::b,hk,l,hl,ha=>by
  rw[jd] at hk;cases e:Rl.dJ x&& !decide (known ds x.a=0) with
  |true=>
   grind
  |false=>
   rw[e] at hk;rcases List.mem_cons.1 hl with rfl|hl
   ·grind
   ·exact qJ hk l hl ha
theorem sJ{ds rs}(h:(mi ds rs).2=0){r}(hr:r∈rs):(0<=bH (toStr (af (af r 0) 0)) ds/\bH (toStr (af (af r 0) 0)) ds<ds.length)/\
  ∀l,l∈ag (af r 1)->dJ (toInt (af l 0))=true->0<=bH (toStr (af (af l 1) 0)) ds/\bH (toStr (af (af l 1) 0)) ds<ds.length:=by
 obtain⟨h1,_,h2,_⟩:=sZ.1 h;have ht:=h2 r hr;have hk:jn (cM ds) (aM (ea r))=0:=by
  refine SX ?_;unfold km at ht
  grind
 unfold jn at hk;cases e:decide (known (cM ds) (aM (ea r)).head=0) with
 |false=>grind
 |true=>
  rw[e,an9] at hk;refine⟨PD (a:=(aM (ea r)).head) (by simpa using e),fun l hl ha=>?_⟩;have hm:cX l∈(aM (ea r)).body:=List.mem_map_of_mem hl;refine PD (a:=(cX l).a) (qJ hk _ hm ?_)
  grind [cX,toInt,af,Rl.dJ,dJ]
theorem AL{ds a e}: ∀{bl},e∈FA ds a bl↔ ∃l,l∈bl/\dJ (toInt (af l 0))=true/\e=(a,bH (toStr (af (af l 1) 0)) ds)
 |[]=>by simp[FA]
 | x::bl=>by
  rw[FA];cases h:dJ _ with
  |true=>
   rw[an9,ap0,AL]
   grind
  |false=>
   rw[an7,AL]
   grind
theorem QI{ds rs e}:e∈zm ds rs↔ ∃r,r∈rs/\∃l,l∈ag (af r 1)/\dJ (toInt (af l 0))=true/\e=(bH (toStr (af (af r 0) 0)) ds,bH (toStr (af (af l 1) 0)) ds):=by
 unfold zm;rw[List.mem_flatMap];exact exists_congr fun r=>and_congr_right fun _=>AL
def Y6 ds rs:=∀e,e∈zm ds rs->(0<=e.1/\e.1<ds.length)/\0<=e.2/\e.2<ds.length
theorem Z7{ds rs}(h:(mi ds rs).2=0):Y6 ds rs:=by
 intro e he;obtain⟨r,h1,l,h2,h3,rfl⟩:=QI.1 he;have:=sJ h h1
 grind
end Go.Proofs.YtioeffnadipbaaaGreatDoor
namespace Go.Rl
open Go Go.Dn
theorem ub D b: ∃t td,D++[b]=t::td/\(t::td).dropLast=D/\fw (t::td)=b:=by
 cases D with
 |nil=>exact⟨b,_,rfl,rfl,rfl⟩
 | cons t D=>
  refine⟨t,D++[b],rfl,?_,?_⟩
  ·grind
  ·have:=zE (t:=t) (todo:=D++[b])
   rw[←List.cons_append,List.dropLast_concat] at this
   simp_all
theorem Aa{n m L}(hG:WG n m L){D met b}(hs:Sd n m (D++[b]) met):
  xD n m L (D++[b]) met=bif met.contains b then xD n m L D met else xD n m L (D++L.at b) (met++[b]):=by
 obtain⟨t,td,e,e1,e2⟩:=ub D b
 grind [KV]
theorem Sd.XH{n m D met b}(h:Sd n m (D++[b]) met):Sd n m D met/\ms n m D met<ms n m (D++[b]) met:=by
 obtain⟨t,td,e,e1,e2⟩:=ub D b;rw[e] at h⊢;have h1:=h.pop
 grind [Ca]
theorem Sd.ZF{n m L}(hG:WG n m L){D met b}(h:Sd n m (D++[b]) met)(hn:met.contains b=false):Sd n m (D++L.at b) (met++[b])/\ms n m (D++L.at b) (met++[b])<ms n m (D++[b]) met:=by
 obtain⟨t,td,e,e1,e2⟩:=ub D b;have hb:=h.ht b (by simp);rw[e] at h⊢;rw[←e2] at hn hb;have h1:=h.add hG hn;have h2:=Ay hG t _ _ hb hn
 grind
end Go.Rl
namespace Go.Proofs.YtioeffnadipbaaaGreatDoor
open Go Go.Dn Go.Rl Go.Proofs
attribute [local irreducible] a7 vc
set_option maxRecDepth 20000
abbrev gZ(k:Int):Value:= .int .i64 k
def dw(L:Gr):=L.map fun l=>l.map gZ
def iJ(l:List Int):List (Value×AV):=l.map fun k=>(gZ k, .lit (.bool true))
abbrev WU(l:List Int):AV:= .eP 3 4 (l.map gZ) (l.map fun _=> .lit (.bool true))
theorem Ji: ∀(l:List _) k,bV (l.map fun l=>l.map gZ) k=(l.getD k []).map gZ
 |[],k=>by rfl
 |_::_,0=>rfl
 |_::l,k+1=>by simpa[bV] using Ji l k
theorem mN L a:bV (dw L) a.toNat=(L.at a).map gZ:=Ji L _
theorem mo b: ∀l,cV (iJ l) (gZ b) (.lit (.bool false))= .lit (.bool (l.contains b))
 |[]=>rfl
 |a::l=>by
  have ih:=mo b l;simp[iJ,cV] at ih⊢;have e:eg (gZ b) (gZ a)=(b==a):=by rfl
  grind
theorem rM b: ∀l,eC (iJ l) (gZ b) (.lit (.bool true))=iJ (bif l.contains b then l else l++[b])
 |[]=>rfl
 |a::l=>by
  have ih:=rM b l;simp[iJ,eC] at ih⊢;have e:eg (gZ b) (gZ a)=(b==a):=by rfl
  grind
theorem vC l:(iJ l).map (·.1)=l.map gZ:=by simp[iJ]
theorem vh l:(iJ l).map (·.2)=l.map fun _=> .lit (.bool true):=by simp[iJ]
abbrev OC(ls:List (List Value)):Dn.Obj:= .rows 35 3 ls none
abbrev vd n ls fs:=[.box 145 (.agg [.ak 1 0 n, .ak 2 0 fs.length]),OC ls, .row 101 fs]
abbrev yO n ls:=[.box 145 (.agg [.ak 1 0 n, .nil]),OC ls]
theorem Sf D tl x:nth (D++x::tl) (0+D.length)=x:=by
 induction D with
 |nil=>rfl
 |cons a D ih=>exact ih
theorem Jg D b tl:((D++[b]).length:Int) - 1=D.length/\iA (D++[b])++tl=iA D++AV.int b::tl/\nth (iA D++AV.int b::tl) (0+D.length)=AV.int b/\(iA D++AV.int b::tl).take D.length=iA D/\toInt (AV.int b)=b:=by
 have e2:=Sf (iA D) tl (AV.int b);rw[jm] at e2;exact⟨by simp,by simp[iA],e2,List.take_left' (jm D),rfl⟩
theorem Cw L a:(bV (dw L) a.toNat).length=(L.at a).length:=by rw[mN,List.length_map]
theorem Gd L a:List.map AV.lit (List.take (bV (dw L) a.toNat).length (bV (dw L) a.toNat))=iA (L.at a):=by
 rw[List.take_length,mN,List.map_map];rfl
structure PU where
 n:Nat
 m:Nat
 L:Gr
 fs:List AV
 todo:List Int
 met:List Int
 tl:List AV
def AA(x:PU):=WG x.n x.m x.L/\Sd x.n x.m x.todo x.met/\(x.n+1)*x.m<=1000000000
def kl(x:PU):=xD x.n x.m x.L x.todo x.met
theorem xRe(κ:Kp)(N:Nat) ls fs es ws(k:Nat) I(n:Nat) K:(vc (AS κ) 12 86 none 3 (ad (Pr κ).toProgram 86 3) (sp 48 [(0, .ptr 0 0 [] 0),(5, .mp 3),(6, .ak 4 0 k)] (vd N ls fs++[.map 3 4 es, .row 3 ws])) (bh (AS κ) 86 3 3 I n K))=(
 letI a:=IntKind.wrap IntKind.i64
 letI b:=Obj.row
 letI c:=Dn.Obj.map
 letI d:=(↑k:Int) - (1:Int)
 letI e:=a d
 letI f:=nth ws (0+Int.toNat e)
 letI g:=AV.agg [AV.ak 1 0 N,AV.ak 2 0 fs.length]
 letI i:=(0:Int)<=a d
 letI j:=Value.int IntKind.i64 (toInt f)
 letI l:=bV ls (Int.toNat (toInt f))
 letI h:=List.take (List.length l) l
 aq (decide ((↑k:Int)>(0:Int))) (aW (decide i&&decide (a d<(↑k:Int))) (aW (decide i&&decide (a d
 <=a d)&&decide (a d<=(↑k:Int))) (aq (!Dn.toBool (cV es j (AV.bool false))) (aW (decide ((0:Int)<=toInt
 f)&&decide (toInt f<(↑N:Int))) (aW (decide ((Int.toNat e+List.length (List.map AV.lit h)+1)*9<=70368744177664)) (∃(e0:Nat),e0<n/\I e0
 (sp 48 [(0,AV.ptr 0 0 [] 0),(5,AV.mp 3),(6,AV.ak 4 0 (Int.toNat e+List.length (List.map AV.lit h)))] [Obj.box 145 g,Obj.rows 35 3 ls none,b
 101 fs,c 3 4 (eC es j (AV.bool true)),b 3 (List.take (Int.toNat e) ws++List.map AV.lit h)])))) (∃(e0:Nat),e0<n/\I e0 (sp 48 [(0,
 AV.ptr 0 0 [] 0),(5,AV.mp 3),(6,AV.ak 4 0 (Int.toNat e))] [Obj.box 145 g,Obj.rows 35 3 ls none,b 101 fs,c 3 4 es,b 3 ws]))))) (K
 (Exit.exit 0) (sp 48 [(5,AV.mp 3)] [Obj.box 145 g,Obj.rows 35 3 ls none,b 101 fs,c 3 4 es]))):=by kernel_rfl
abbrev Ut(x:PU):=sp 48 [(0, .ptr 0 0 [] 0),(5, .mp 3),(6, .ak 4 0 x.todo.length)] (vd x.n (dw x.L) x.fs++[.map 3 4 (iJ x.met), .row 3 (iA x.todo++x.tl)])
def Di(x:PU):Out (Exit×S):= .one (.exit 0,sp 48 [(5, .mp 3)] (vd x.n (dw x.L) x.fs++[.map 3 4 (iJ (kl x))]))
theorem lRe κ:aR (AS κ) 12 86 3 (aG 3 Ut AA Di):=by
 refine aD (fun x=>ms x.n x.m x.todo x.met) ?_;rintro⟨n,m,L,fs,todo,met,tl⟩ K ⟨hG,hS,hb⟩ ho;simp only at hG hS hb;rw[show(AS κ).P=Pr κ from rfl];refine Eq.mpr (xRe κ n (dw L) fs (iJ met) (iA todo++tl) todo.length _ _ K) ?_;simp only[Di,kl,Out.run] at ho;rw[ae,an2,an4];refine⟨fun h=>?_,fun h=>?_⟩
 ·obtain⟨D,b,rfl⟩: ∃D b,todo=D++[b]:=⟨_,_,(List.dropLast_concat_getLast (by intro e;subst e;simp at h)).symm⟩
  have hle:=hS.le;have hbr:=hS.ht b (by simp);have hlm:=hG.le b;have hlen:=hG.len;have hmn:m<=(n+1)*m:=Nat.le_mul_of_pos_left m (Nat.succ_pos n);obtain⟨e0,e1,e2,e3,e4⟩:=Jg D b tl;simp only[ao7,List.length_singleton] at hle;rw[e0,az (n:=(D.length:Int)) (by omega) (by omega),e1,Int.toNat_natCast,e2,e3,e4,mo,rM,mN,List.take_length,List.map_map];rw[Aa hG hS] at ho;simp only[ai,ae,an2,an3,List.length_map,ao7,List.length_singleton,show Dn.toBool (AV.lit (.bool (met.contains b)))=met.contains b from rfl];refine⟨⟨by omega,by omega⟩,⟨⟨by omega,by omega⟩,by omega⟩,fun e=>?_,fun e=>?_⟩
  ·have e:met.contains b=false:=by simpa using e
   obtain⟨h1,h2⟩:=hS.ZF hG e;rw[e,an7] at ho;refine⟨⟨by omega,by omega⟩,by omega,_,h2,⟨n,m,L,fs,D++L.at b,met++[b],[]⟩,?_,⟨hG,h1,hb⟩,rfl,?_⟩
   ·rw[e,an7]
    simp only[Ut,List.append_nil,ao7,wA];rfl
   ·simp only[Di,kl,Out.run]
    exact ho
  ·have e:met.contains b=true:=by simpa using e
   obtain⟨h1,h2⟩:=hS.XH;rw[e,an9] at ho;refine⟨_,h2,⟨n,m,L,fs,D,met,AV.int b::tl⟩,rfl,⟨hG,h1,hb⟩,rfl,?_⟩;simp only[Di,kl,Out.run];exact ho
 ·obtain rfl:todo=[]:=List.eq_nil_of_length_eq_zero (by omega)
  rw[DT] at ho;exact ho
theorem xRz(κ:Kp)(N:Nat) ls es ws(k:Nat) I(n:Nat) K:(vc (AS κ) 12 86 none 2 (ad (Pr κ).toProgram 86 3) (sp 48 [(0, .ptr 0 0 [] 0),(5, .mp 2),(6, .ak 3 0 k)] (yO N ls++[.map 3 4 es, .row 3 ws])) (bh (AS κ) 86 3 2 I n K))=(
 letI a:=IntKind.wrap IntKind.i64
 letI b:=Dn.Obj.map
 letI c:=(↑k:Int) - (1:Int)
 letI d:=a c
 letI e:=nth ws (0+Int.toNat d)
 letI f:=AV.agg [AV.ak 1 0 N,AV.nil]
 letI h:=(0:Int)<=a c
 letI i:=Value.int IntKind.i64 (toInt e)
 letI j:=bV ls (Int.toNat (toInt e))
 letI g:=List.take (List.length j) j
 aq (decide ((↑k:Int)>(0:Int))) (aW (decide h&&decide (a c<(↑k:Int))) (aW (decide h&&decide (a c
 <=a c)&&decide (a c<=(↑k:Int))) (aq (!Dn.toBool (cV es i (AV.bool false))) (aW (decide ((0:Int)<=toInt
 e)&&decide (toInt e<(↑N:Int))) (aW (decide ((Int.toNat d+List.length (List.map AV.lit g)+1)*9<=70368744177664)) (∃(e0:Nat),e0<n/\I e0
 (sp 48 [(0,AV.ptr 0 0 [] 0),(5,AV.mp 2),(6,AV.ak 3 0 (Int.toNat d+List.length (List.map AV.lit g)))] [Obj.box 145 f,Obj.rows 35 3 ls none,b
 3 4 (eC es i (AV.bool true)),Obj.row 3 (List.take (Int.toNat d) ws++List.map AV.lit g)])))) (∃(e0:Nat),e0<n/\I e0 (sp 48 [(0,AV.ptr 0 0 [] 0),(5,
 AV.mp 2),(6,AV.ak 3 0 (Int.toNat d))] [Obj.box 145 f,Obj.rows 35 3 ls none,b 3 4 es,Obj.row 3 ws]))))) (K (Exit.exit 0) (sp 48 [(5,AV.mp 2)]
 [Obj.box 145 f,Obj.rows 35 3 ls none,b 3 4 es]))):=by kernel_rfl
abbrev Vj(x:PU):=sp 48 [(0, .ptr 0 0 [] 0),(5, .mp 2),(6, .ak 3 0 x.todo.length)] (yO x.n (dw x.L)++[.map 3 4 (iJ x.met), .row 3 (iA x.todo++x.tl)])
def Ep(x:PU):Out (Exit×S):= .one (.exit 0,sp 48 [(5, .mp 2)] (yO x.n (dw x.L)++[.map 3 4 (iJ (kl x))]))
theorem lRz κ:aR (AS κ) 12 86 3 (aG 2 Vj AA Ep):=by
 refine aD (fun x=>ms x.n x.m x.todo x.met) ?_;rintro⟨n,m,L,fs,todo,met,tl⟩ K ⟨hG,hS,hb⟩ ho;simp only at hG hS hb;rw[show(AS κ).P=Pr κ from rfl];refine Eq.mpr (xRz κ n (dw L) (iJ met) (iA todo++tl) todo.length _ _ K) ?_;simp only[Ep,kl,Out.run] at ho;rw[ae,an2,an4];refine⟨fun h=>?_,fun h=>?_⟩
 ·obtain⟨D,b,rfl⟩: ∃D b,todo=D++[b]:=⟨_,_,(List.dropLast_concat_getLast (by intro e;subst e;simp at h)).symm⟩
  have hle:=hS.le;have hbr:=hS.ht b (by simp);have hlm:=hG.le b;have hlen:=hG.len;have hmn:m<=(n+1)*m:=Nat.le_mul_of_pos_left m (Nat.succ_pos n);obtain⟨e0,e1,e2,e3,e4⟩:=Jg D b tl;simp only[ao7,List.length_singleton] at hle;rw[e0,az (n:=(D.length:Int)) (by omega) (by omega),e1,Int.toNat_natCast,e2,e3,e4,mo,rM,mN,List.take_length,List.map_map];rw[Aa hG hS] at ho;simp only[ai,ae,an2,an3,List.length_map,ao7,List.length_singleton,show Dn.toBool (AV.lit (.bool (met.contains b)))=met.contains b from rfl];refine⟨⟨by omega,by omega⟩,⟨⟨by omega,by omega⟩,by omega⟩,fun e=>?_,fun e=>?_⟩
  ·have e:met.contains b=false:=by simpa using e
   obtain⟨h1,h2⟩:=hS.ZF hG e;rw[e,an7] at ho;refine⟨⟨by omega,by omega⟩,by omega,_,h2,⟨n,m,L,fs,D++L.at b,met++[b],[]⟩,?_,⟨hG,h1,hb⟩,rfl,?_⟩
   ·rw[e,an7]
    simp only[Vj,List.append_nil,ao7,wA];rfl
   ·simp only[Ep,kl,Out.run]
    exact ho
  ·have e:met.contains b=true:=by simpa using e
   obtain⟨h1,h2⟩:=hS.XH;rw[e,an9] at ho;refine⟨_,h2,⟨n,m,L,fs,D,met,AV.int b::tl⟩,rfl,⟨hG,h1,hb⟩,rfl,?_⟩;simp only[Ep,kl,Out.run];exact ho
 ·obtain rfl:todo=[]:=List.eq_nil_of_length_eq_zero (by omega)
  rw[DT] at ho;exact ho
def X8(s:S):=Nat.beq s.st.length 5
noncomputable def WJ κ:=(AS κ).an 86 3 (rK X8 (aG 3 Ut AA Di) (aG 2 Vj AA Ep))
theorem eRl κ:aE (WJ κ):=(eKi _).an (mKi _) (oR (lRe _) (lRz _))
theorem mRl κ:aj (WJ κ):=(mKi _).an (k9 aI aI)
structure VJ where
 n:Nat
 m:Nat
 L:Gr
 fs:List AV
 a:Int
def Hf(x:VJ):=WG x.n x.m x.L/\(x.n+1)*x.m<=1000000000/\0<=x.a/\x.a<x.n
theorem yRe κ N ls fs a K:(a7 (WJ κ) 12 86 [.ptr 0 0 [] 0, .int a] (vd N ls fs) K)=(
 letI b:=AV.ptr 0 0 []
 letI c:=AV.agg
 letI d:=Obj.box
 letI e:=Obj.row
 letI f:=Obj.rows
 letI g:=Dn.Obj.map
 letI h:=AV.ak
 letI i:=Pg.toProgram (Env.P (AS κ))
 letI k:=List.length (bV ls a.toNat)
 letI j:=List.take k (bV ls a.toNat)
 aW (decide ((0:Int)<=a)&&decide (a<(↑N:Int))) ((Nat.beq k 0=true->ad i 86 3=ad i 86 3/\∃(e1:PU),sp 48 [(0,b 0),(5,AV.mp 3),
 (6,h 4 0 0)] [d 145 (c [h 1 0 N,h 2 0 fs.length]),f 35 3 ls none,e 101 fs,g 3 4 [],e 3 []]=sp 48 [(0,
 b 0),(5,AV.mp 3),(6,h 4 0 e1.todo.length)] [d 145 (c [h 1 0 e1.n,h 2 0 e1.fs.length]),f 35 3 (dw e1.L) none,
 e 101 e1.fs,g 3 4 (iJ e1.met),e 3 (iA e1.todo++e1.tl)]/\(WG e1.n e1.m e1.L/\Sd e1.n e1.m e1.todo e1.met/\(e1.n+1)*e1.m<=
 1000000000)/\K (AV.eP 3 4 (List.map (fun(e0:Value×AV)=>e0.1) (iJ (kl e1))) (List.map (fun(e0:Value×AV)=>e0.2) (iJ (kl e1)))) [d 145 (c
 [h 1 0 e1.n,h 2 0 e1.fs.length]),f 35 3 (dw e1.L) none,e 101 e1.fs])/\aW (decide ((0+List.length (List.map AV.lit j)+1)*9<=
 70368744177664)) (ad i 86 3=ad i 86 3/\∃(e1:PU),sp 48 [(0,b 0),(5,AV.mp 3),(6,h 4 0 (0+List.length (List.map AV.lit j)))]
 [d 145 (c [h 1 0 N,h 2 0 fs.length]),f 35 3 ls none,e 101 fs,g 3 4 [],e 3 ([]++List.map AV.lit j)]=sp
 48 [(0,b 0),(5,AV.mp 3),(6,h 4 0 e1.todo.length)] [d 145 (c [h 1 0 e1.n,h 2 0 e1.fs.length]),f 35 3 (dw e1.L)
 none,e 101 e1.fs,g 3 4 (iJ e1.met),e 3 (iA e1.todo++e1.tl)]/\(WG e1.n e1.m e1.L/\Sd e1.n e1.m e1.todo e1.met/\(e1.n+1)*e1.m<=
 1000000000)/\K (AV.eP 3 4 (List.map (fun(e0:Value×AV)=>e0.1) (iJ (kl e1))) (List.map (fun(e0:Value×AV)=>e0.2) (iJ (kl e1)))) [d 145 (c
 [h 1 0 e1.n,h 2 0 e1.fs.length]),f 35 3 (dw e1.L) none,e 101 e1.fs]))):=by kernel_rfl
def SQ(x:VJ):List AV×List Dn.Obj:=([.ptr 0 0 [] 0, .int x.a],vd x.n (dw x.L) x.fs)
def FU(x:VJ):Out (AV×List Dn.Obj):= .one (WU (iV x.n x.m x.L x.a),vd x.n (dw x.L) x.fs)
theorem cRe κ:bg (WJ κ) 12 86 (aO SQ Hf FU):=by
 refine aQ ?_;rintro⟨n,m,L,fs,a⟩ K ⟨hG,hb,h0,h1⟩ ho;simp only at hG hb h0 h1;refine Eq.mpr (yRe κ n (dw L) fs a K) ?_;simp only[FU,Out.run,iV] at ho;have hS:=Sd.start hG h0;have hle:=hG.le a;have hmn:m<=(n+1)*m:=Nat.le_mul_of_pos_left m (Nat.succ_pos n);rw[Gd,jm,Cw,ai,ai,an3,an2,an2,an2];refine⟨⟨h0,h1⟩,fun e=>⟨rfl,⟨n,m,L,fs,[],[],[]⟩,rfl,⟨hG,?_,hb⟩,?_⟩,by omega,rfl,⟨n,m,L,fs,L.at a,[],[]⟩,?_,⟨hG,hS,hb⟩,?_⟩
 ·simp_all
 ·have e:L.at a=[]:=List.eq_nil_of_length_eq_zero (Nat.eq_of_beq_eq_true e)
  rw[e] at ho;simp only[vC,vh];exact ho
 ·simp only[List.append_nil,Nat.zero_add]
  rfl
 ·simp only[vC,vh]
  exact ho
theorem yRz κ N ls a K:(a7 (WJ κ) 12 86 [.ptr 0 0 [] 0, .int a] (yO N ls) K)=(
 letI b:=AV.ptr 0 0 []
 letI c:=AV.agg
 letI d:=Obj.box
 letI e:=Obj.row
 letI f:=Obj.rows
 letI g:=Dn.Obj.map
 letI h:=AV.ak
 letI i:=AV.nil
 letI j:=Pg.toProgram (Env.P (AS κ))
 letI l:=List.length (bV ls a.toNat)
 letI k:=List.take l (bV ls a.toNat)
 aW (decide ((0:Int)<=a)&&decide (a<(↑N:Int))) ((Nat.beq l 0=true->ad j 86 3=ad j 86 3/\∃(e1:PU),sp 48 [(0,b 0),(5,AV.mp 2),
 (6,h 3 0 0)] [d 145 (c [h 1 0 N,i]),f 35 3 ls none,g 3 4 [],e 3 []]=sp 48 [(0,b 0),(5,AV.mp
 2),(6,h 3 0 e1.todo.length)] [d 145 (c [h 1 0 e1.n,i]),f 35 3 (dw e1.L) none,g 3 4 (iJ e1.met),e 3 (iA
 e1.todo++e1.tl)]/\(WG e1.n e1.m e1.L/\Sd e1.n e1.m e1.todo e1.met/\(e1.n+1)*e1.m<=1000000000)/\K (AV.eP 3 4 (List.map (fun(e0:Value×AV)=>e0.1)
 (iJ (kl e1))) (List.map (fun(e0:Value×AV)=>e0.2) (iJ (kl e1)))) [d 145 (c [h 1 0 e1.n,i]),f 35 3 (dw e1.L) none])/\aW
 (decide ((0+List.length (List.map AV.lit k)+1)*9<=70368744177664)) (ad j 86 3=ad j 86 3/\∃(e1:PU),sp 48 [(0,b 0),(5,AV.mp 2),
 (6,h 3 0 (0+List.length (List.map AV.lit k)))] [d 145 (c [h 1 0 N,i]),f 35 3 ls none,g 3 4 [],e 3 ([]++
 List.map AV.lit k)]=sp 48 [(0,b 0),(5,AV.mp 2),(6,h 3 0 e1.todo.length)] [d 145 (c [h 1 0 e1.n,i]),f 35 3
 (dw e1.L) none,g 3 4 (iJ e1.met),e 3 (iA e1.todo++e1.tl)]/\(WG e1.n e1.m e1.L/\Sd e1.n e1.m e1.todo e1.met/\(e1.n+1)*e1.m<=
 1000000000)/\K (AV.eP 3 4 (List.map (fun(e0:Value×AV)=>e0.1) (iJ (kl e1))) (List.map (fun(e0:Value×AV)=>e0.2) (iJ (kl e1)))) [d 145 (c
 [h 1 0 e1.n,i]),f 35 3 (dw e1.L) none]))):=by kernel_rfl
def SI(x:VJ):List AV×List Dn.Obj:=([.ptr 0 0 [] 0, .int x.a],yO x.n (dw x.L))
def GQ(x:VJ):Out (AV×List Dn.Obj):= .one (WU (iV x.n x.m x.L x.a),yO x.n (dw x.L))
theorem cRz κ:bg (WJ κ) 12 86 (aO SI Hf GQ):=by
 refine aQ ?_;rintro⟨n,m,L,fs,a⟩ K ⟨hG,hb,h0,h1⟩ ho;simp only at hG hb h0 h1;refine Eq.mpr (yRz κ n (dw L) a K) ?_;simp only[GQ,Out.run,iV] at ho;have hS:=Sd.start hG h0;have hle:=hG.le a;have hmn:m<=(n+1)*m:=Nat.le_mul_of_pos_left m (Nat.succ_pos n);rw[Gd,jm,Cw,ai,ai,an3,an2,an2,an2];refine⟨⟨h0,h1⟩,fun e=>⟨rfl,⟨n,m,L,fs,[],[],[]⟩,rfl,⟨hG,?_,hb⟩,?_⟩,by omega,rfl,⟨n,m,L,fs,L.at a,[],[]⟩,?_,⟨hG,hS,hb⟩,?_⟩
 ·simp_all
 ·have e:L.at a=[]:=List.eq_nil_of_length_eq_zero (Nat.eq_of_beq_eq_true e)
  rw[e] at ho;simp only[vC,vh];exact ho
 ·simp only[List.append_nil,Nat.zero_add]
  rfl
 ·simp only[vC,vh]
  exact ho
def GY(sel:List Dn.Obj->Bool)(a b:dc):dc:=fun args st K=>bif sel st then a args st K else b args st K
theorem sR{sel a b}(ha:a.gw)(hb:b.gw):(GY sel a b).gw:=fun args st K K' hK h=>by
 unfold GY at h⊢;cases hs:sel _<;>simp[hs] at h⊢
 ·exact hb _ _ _ _ hK h
 ·exact ha _ _ _ _ hK h
theorem BW{E N f sel a b}(ha:bg E N f a)(hb:bg E N f b):bg E N f (GY sel a b):=fun args st K h=>by
 unfold GY at h;cases hs:sel _<;>rw[hs] at h
 ·exact hb _ _ _ h
 ·exact ha _ _ _ h
def XK(st:List Dn.Obj):=Nat.beq st.length 3
noncomputable def Tu κ:=(WJ κ).aw 86 (GY XK (aO SQ Hf FU) (aO SI Hf GQ))
theorem eRe κ:aE (Tu κ):=(eRl _).aw (mRl _) (BW (cRe _) (cRz _))
theorem mRe κ:aj (Tu κ):=(mRl _).aw (sR aH aH)
def LI:List Nat:=129::Rq
noncomputable abbrev Xx(κ:Kp)(ds rs:List AV):Dn.Obj:=
 .loop (iO (Pr κ).toProgram 42 3 .ready none (ik (bO 63) [(0,fq ds rs),(1, .ptr 0 0 [] 0),(2, .lit (.pointer none)),(3, .ptr 3 0 [] 0),(7, .ptr 0 0 [0] 0),(8, .ah 43 ds),(9, .int ds.length),(10, .ak 1 0 ds.length),(11, .agg [.ak 1 0 ds.length, .nil]),(12, .ptr 2 0 [] 0),(13,fq ds rs),(14, .bm 129 [.ptr 4 0 [] 0])]))
noncomputable abbrev qA κ ds rs:=[.box 25 (fq ds rs),OC (List.replicate ds.length []), .box 145 (.agg [.ak 1 0 ds.length, .nil]), .box 99 (.ptr 2 0 [] 0), .box 25 (fq ds rs),Xx κ ds rs]
noncomputable abbrev Cl κ ds rs ls:=[.box 25 (fq ds rs),OC ls, .box 145 (.agg [.ak 1 0 ds.length, .nil]), .box 99 (.ptr 2 0 [] 0), .dead,Xx κ ds rs]
theorem sGf κ ds rs Q:(tidy (Pr κ).toProgram 6 (dy (qA κ ds rs) (b8 (qA κ ds rs) [.ptr 4 0 [] 0])) Q)=(
 letI a:=AV.ptr
 letI b:=AV.agg
 letI c:=AV.ah
 Q [Obj.box 25 (b [c 43 ds,c 48 rs]),Obj.rows 35 3 (List.replicate ds.length []) none,Obj.box 145 (b [AV.ak 1 0 ds.length,AV.nil]),Obj.box
 99 (a 2 0 [] 0),Obj.dead,Dn.Obj.loop (iO Tryz.prog 42 3 LoopState.ready none (ik (bO 63) [(0,b [c 43 ds,c 48 rs]),(1,a 0 0 [] 0),
 (2,AV.lit (Value.pointer none)),(3,a 3 0 [] 0),(7,a 0 0 [0] 0),(8,c 43 ds),(9,AV.int (↑(ds.length):Int)),(10,AV.ak 1 0 ds.length),
 (11,b [AV.ak 1 0 ds.length,AV.nil]),(12,a 2 0 [] 0),(13,b [c 43 ds,c 48 rs]),(14,AV.bm 129 [a 4 0 [] 0])]))]):=by kernel_rfl
theorem rGf κ ds rs ls a b Q(K2:List Dn.Obj->Prop):(gu (vc (Tu κ) 12) 5 [.int a, .int b] (Cl κ ds rs ls) (fun r st''=>match r with| .lit (.bool true)=>tidy (Pr κ).toProgram 6 st'' Q| .lit (.bool false)=>K2 st''|_=>False))=(
 letI c:=AV.ptr
 letI d:=AV.agg
 letI e:=Obj.box
 letI f:=AV.ah
 letI i:=iO Tryz.prog 42 3 LoopState.ready none (ik (bO 63) [(0,d [f 43 ds,f 48 rs]),(1,c 0 0 [] 0),(2,AV.lit (Value.pointer none)),
  (3,c 3 0 [] 0),(7,c 0 0 [0] 0),(8,f 43 ds),(9,AV.int (↑(ds.length):Int)),(10,AV.ak 1 0 ds.length),(11,d [AV.ak 1 0 ds.length,
  AV.nil]),(12,c 2 0 [] 0),(13,d [f 43 ds,f 48 rs]),(14,AV.bm 129 [c 4 0 [] 0])])
 letI h:=decide ((0:Int)<=a)&&decide (a<(↑(ds.length):Int))
 letI g:=bV ls a.toNat
 letI j:=decide (List.length g=List.length g)&&decide ((List.length g+1+1)*9<=70368744177664)
 letI k:=Dn.j4 ls a.toNat (bV ls a.toNat++[Value.int IntKind.i64 b])
 letI l:=List.map AV.lit (List.take (List.length g) g)
 letI m:=d [AV.ak 1 0 ds.length,AV.nil]
 letI n:=d [f 43 ds,f 48 rs]
 letI o:=aW h (aW (decide (a.toNat=a.toNat)&&decide (a.toNat=a.toNat)&&decide (List.length g+1=List.length (bV k a.toNat))) (Q [e 25 n,
  Obj.rows 35 3 k none,e 145 m,e 99 (c 2 0 [] 0),Obj.dead,Dn.Obj.loop i]))
 aW h (aW (decide (List.length l<=9223372036854775807)) (aq (!XC b l) (aW h (aW j o/\aW j o)) (Q [e 25 n,Obj.rows 35 3 ls none,e 145 m,
 e 99 (c 2 0 [] 0),Obj.dead,Dn.Obj.loop i])))):=by kernel_rfl
theorem kGf κ ds rs xs:(AV.cf 0::fP (iW (b8 (qA κ ds rs) [.ptr 4 0 [] 0])) [.ptr 4 0 [] 0],Obj.ext (some xs)::gx (iW (b8 (qA κ ds rs) [.ptr 4 0 [] 0])) (gz (qA κ ds rs) (b8 (qA κ ds rs) [.ptr 4 0 [] 0])))=([.cf 0, .ptr 1 0 [] 0],[.ext (some xs), .box 25 (fq ds rs)]):=by kernel_rfl
theorem oGf κ ds rs:my (qA κ ds rs) [.ptr 4 0 [] 0]=true:=by kernel_rfl
theorem DS: ∀L k x,Dn.j4 (dw L) k (x.map gZ)=dw (L.set k x)
 |[],k,x=>by rfl
 |_::_,0,x=>rfl
 |a::L,k+1,x=>by
  have ih:=DS L k x
  grind [dw,Dn.j4]
theorem QZ n:dw (List.replicate n [])=List.replicate n []:=by simp[dw]
structure yE(ds rs:List AV):Prop where
 hd:ds.length<=60
 hr:rs.length<=200
 bs: ∀r,r∈rs->(ag (af r 1)).length<=20
 ed:Y6 ds rs
theorem Je ds a: ∀bl,(FA ds a bl).length<=bl.length
 |[]=>Nat.le_refl _
 |l::bl=>by
  have ih:=Je ds a bl
  grind [FA]
theorem Bu ds: ∀rs,(∀r,r∈rs->(ag (af r 1)).length<=20)->(zm ds rs).length<=rs.length*20
 |[],_=>Nat.le_refl _
 |r::rs,h=>by
  have ih:=Bu ds rs (by grind)
  grind [Je,bH,af,ag,zm,edR]
noncomputable def UU(κ:Kp):eH:=fun caps st K=>∃x:Ch,(caps,st)=([AV.ptr 4 0 [] 0],qA κ x.1 x.2)/\yE x.1 x.2/\K (Cl κ x.1 x.2 (dw (tr x.1.length (zm x.1 x.2))))
theorem JR κ:(UU κ).gw:=by
 rintro caps st K K' hK ⟨a,h1,h2,h3⟩;exact⟨a,h1,h2,hK _ h3⟩
theorem Wv κ args st K(h:aO Vb E4 LU args st K):(Tu κ).call 129 args st K:=h
theorem gfr κ:jb (Tu κ) 12 129 (UU κ):=by
 rintro caps st K ⟨⟨ds,rs⟩,h1,hf,h5⟩;obtain⟨rfl,rfl⟩:=Prod.mk.inj h1;simp only at hf h5;have hd:=hf.hd;have hr:=hf.hr;have hl:=Bu ds rs hf.bs;refine⟨Ez (zm ds rs),fun items st'=>∃E1 E2,items=Ez E2/\st'=Cl κ ds rs (dw (tr ds.length E1))/\E1++E2=zm ds rs,⟨oGf κ ds rs,?_,?_,?_,?_⟩⟩
 ·refine Wv κ _ _ _ ⟨(ds,rs),?_,⟨by simp only[aU];omega,by simp only[aU];omega,fun r hr=>?_⟩,fun st' h=>h⟩
  ·rw[kGf];rfl
  ·have:=hf.bs r hr;simp only[aU];omega
 ·rw[show(Tu κ).P=Pr κ from rfl,show(qA κ ds rs).length=6 from rfl,sGf]
  refine⟨[],zm ds rs,rfl,?_,rfl⟩;rw[tr,List.foldl_nil,QZ]
 ·rintro us rest st' ⟨E1,E2,e1,rfl,e3⟩
  cases E2 with
  |nil=>cases e1
  | cons e E2=>
   obtain⟨a,b⟩:=e;obtain⟨hu,rfl⟩:=List.cons.inj e1;obtain rfl:=AV.aJ.inj hu;rw[show(Tu κ).P=Pr κ from rfl,show(qA κ ds rs).length=6 from rfl];refine Eq.mpr (rGf κ ds rs _ a b _ _) ?_;have hab:=hf.ed (a,b) (by rw[←e3];simp);simp only at hab;have hg:tr ds.length (E1++[(a,b)])=qg (tr ds.length E1) (a,b):=by simp[tr,List.foldl_append]
   have hlen:(tr ds.length E1).length=ds.length:=by unfold tr;rw[tQ];simp
   have hle:((tr ds.length E1).at a).length<=E1.length:=by
    have:=Ot E1 (List.replicate ds.length []) a
    rw[Fx] at this;simpa[tr] using this
   have hE:E1.length<=(zm ds rs).length:=by rw[←e3];simp
   have next: ∀st',st'=Cl κ ds rs (dw (qg (tr ds.length E1) (a,b)))->∃F1 F2,Ez E2=Ez F2/\st'=Cl κ ds rs (dw (tr ds.length F1))/\F1++F2=zm ds rs:=fun st' h=>⟨E1++[(a,b)],E2,rfl,by rw[hg,h],by rw[←e3];simp⟩
   rw[Gd,Nl,mN,show[Value.int IntKind.i64 b]=[b].map gZ from rfl,←List.map_append,DS];have e4:(bV (dw ((tr ds.length E1).set a.toNat ((tr ds.length E1).at a++[b]))) a.toNat).length=((tr ds.length E1).at a).length+1:=by
    rw[mN,GA _ _ _ _ (by omega),if_pos rfl];simp
   rw[e4];simp only[ai,ae,an3,an2,List.length_map,jm];refine⟨⟨by omega,by omega⟩,by omega,fun e=>⟨⟨by omega,by omega⟩,?_⟩,fun e=>next _ ?_⟩
   ·have e:((tr ds.length E1).at a).contains b=false:=by simpa using e
    have e5:qg (tr ds.length E1) (a,b)=(tr ds.length E1).set a.toNat ((tr ds.length E1).at a++[b]):=by
     unfold qg;rw[e,an7]
    rw[e5] at next;exact⟨⟨⟨trivial,by omega⟩,⟨by omega,by omega⟩,⟨⟨trivial,trivial⟩,trivial⟩,next _ rfl⟩,⟨trivial,by omega⟩,⟨by omega,by omega⟩,⟨⟨trivial,trivial⟩,trivial⟩,next _ rfl⟩
   ·have e:((tr ds.length E1).at a).contains b=true:=by simpa using e
    unfold qg;rw[e,an9]
 ·rintro st' ⟨E1,E2,e1,rfl,e3⟩
  obtain rfl:E2=[]:=by cases E2 with|nil=>rfl|cons _ _=>cases e1
  rw[List.append_nil] at e3;rw[e3];exact h5
noncomputable def No κ:=((Tu κ).addRange 42 3 129 (UU κ)).cO fun f=>iS f LI
theorem eOr κ:aE (No κ):=((eRe _).addRange (mRe _) (gfr _)).cO _
theorem mOr κ:aj (No κ):=((mRe _).addRange (JR _)).cO _
theorem xOa κ(N i:Nat) ls fs I n K:(vc (No κ) 12 42 none 0 (ad (Pr κ).toProgram 42 8) (sp 63 [(3, .ptr 0 0 [] 0),(45, .int N),(46, .int i)] [.box 99 (.ptr 1 0 [] 0), .box 145 (.agg [.ak 2 0 N, .ak 3 0 fs.length]),OC ls, .row 101 fs]) (bh (No κ) 42 8 0 I n K))=(
 letI a:=AV.ptr 0 0 []
 letI b:=AV.agg
 letI c:=Obj.box
 letI d:=Obj.row
 letI e:=Obj.rows
 letI f:=AV.ak
 letI g:=AV.ptr 1 0 [] 0
 letI h:=b [f 2 0 N,f 3 0 fs.length]
 aq (decide ((↑i:Int)<(↑N:Int))) (∃(e2:VJ),([a 0,AV.int (↑i:Int)],[c 145 (b [f 1 0 N,f 2 0 fs.length]),e 35
 3 ls none,d 101 fs])=([a 0,AV.int e2.a],[c 145 (b [f 1 0 e2.n,f 2 0 e2.fs.length]),e 35 3 (dw e2.L) none,
 d 101 e2.fs])/\(WG e2.n e2.m e2.L/\(e2.n+1)*e2.m<=1000000000/\(0:Int)<=e2.a/\e2.a<(↑(e2.n):Int))/\(c 99 g=c 99 g/\
 c 145 (b [f 2 0 e2.n,f 3 0 e2.fs.length])=c 145 h/\e 35 3 (dw e2.L) none=e 35 3 ls none/\True)/\aW (decide
 ((fs.length+1+1)*9<=70368744177664)) (∃(e1:Nat),e1<n/\I e1 (sp 63 [(3,a 0),(45,AV.int (↑N:Int)),(46,AV.int (IntKind.wrap
 IntKind.i64 ((↑i:Int)+(1:Int))))] [c 99 g,c 145 (b [f 2 0 e2.n,f 3 0 (fs.length+1)]),e 35 3 (dw e2.L) none,d
 101 (List.take fs.length e2.fs++[AV.eP 3 4 (List.map gZ (iV e2.n e2.m e2.L e2.a)) (List.map (fun(_e0:Int)=>AV.bool true) (iV e2.n e2.m e2.L e2.a))])])))
 (K (Exit.exit 2) (sp 63 [(3,a 0)] [c 99 g,c 145 h,e 35 3 ls none,d 101 fs]))):=by kernel_rfl
theorem xOb κ(N:Nat) ls I n K:(vc (No κ) 12 42 none 0 (ad (Pr κ).toProgram 42 8) (sp 63 [(3, .ptr 0 0 [] 0),(45, .int N),(46, .int 0)] [.box 99 (.ptr 1 0 [] 0), .box 145 (.agg [.ak 2 0 N, .nil]),OC ls]) (bh (No κ) 42 8 0 I n K))=(
 letI a:=AV.ptr 0 0 []
 letI b:=AV.agg
 letI c:=Obj.box
 letI d:=Obj.rows
 letI e:=AV.ak
 letI f:=AV.ptr 1 0 [] 0
 letI g:=b [e 2 0 N,AV.nil]
 aq (decide ((0:Int)<(↑N:Int))) (∃(e2:VJ),([a 0,AV.int 0],[c 145 (b [e 1 0 N,AV.nil]),d 35 3 ls none])=([AV.ptr
 0 0 [] 0,AV.int e2.a],[c 145 (b [e 1 0 e2.n,AV.nil]),d 35 3 (dw e2.L) none])/\(WG e2.n e2.m e2.L/\(e2.n+1)*e2.m<=1000000000/\
 (0:Int)<=e2.a/\e2.a<(↑(e2.n):Int))/\(c 99 f=c 99 f/\c 145 (b [e 2 0 e2.n,AV.nil])=c 145 g/\d 35 3 (dw
 e2.L) none=d 35 3 ls none/\True)/\∃(e1:Nat),e1<n/\I e1 (sp 63 [(3,a 0),(45,AV.int (↑N:Int)),(46,AV.int 1)] [c 99 f,
 c 145 (b [e 2 0 e2.n,e 3 0 1]),d 35 3 (dw e2.L) none,Obj.row 101 [AV.eP 3 4 (List.map gZ (iV e2.n e2.m e2.L e2.a)) (List.map (fun
 (_e0:Int)=>AV.bool true) (iV e2.n e2.m e2.L e2.a))]])) (K (Exit.exit 2) (sp 63 [(3,a 0)] [c 99 f,c 145 g,d 35 3 ls
 none]))):=by kernel_rfl
def bw n m L k:=(List.range k).map fun(a:Nat)=>WU (iV n m L a)
theorem lq n m L k:(bw n m L k).length=k:=by simp[bw]
theorem Kw n m L k:bw n m L (k+1)=bw n m L k++[WU (iV n m L k)]:=by
 simp[bw,List.range_succ]
structure AOf where
 n:Nat
 m:Nat
 L:Gr
 i:Nat
abbrev Ue(n m:Nat)(L:Gr):Nat->List Dn.Obj
 |0=>[.box 99 (.ptr 1 0 [] 0), .box 145 (.agg [.ak 2 0 n, .nil]),OC (dw L)]
 |k+1=>[.box 99 (.ptr 1 0 [] 0), .box 145 (.agg [.ak 2 0 n, .ak 3 0 (bw n m L (k+1)).length]),OC (dw L), .row 101 (bw n m L (k+1))]
abbrev Ss(x:AOf):=sp 63 [(3, .ptr 0 0 [] 0),(45, .int x.n),(46, .int x.i)] (Ue x.n x.m x.L x.i)
def Nt(x:AOf):=WG x.n x.m x.L/\(x.n+1)*x.m<=1000000000/\x.i<=x.n/\x.n<=60
def Tl(x:AOf):Out (Exit×S):= .aq (Nat.beq x.n 0)
 (.one (.exit 2,sp 63 [(3, .ptr 0 0 [] 0)] [.box 99 (.ptr 1 0 [] 0), .box 145 (.agg [.ak 2 0 x.n, .nil]),OC (dw x.L)]))
 (.one (.exit 2,sp 63 [(3, .ptr 0 0 [] 0)] [.box 99 (.ptr 1 0 [] 0), .box 145 (.agg [.ak 2 0 x.n, .ak 3 0 (bw x.n x.m x.L x.n).length]),OC (dw x.L), .row 101 (bw x.n x.m x.L x.n)]))
theorem lOa κ:aR (No κ) 12 42 8 (aG 0 Ss Nt Tl):=by
 refine aD (fun x=>x.n - x.i) ?_;rintro⟨n,m,L,i⟩ K ⟨hG,hb,hi,hn⟩ ho;simp only at hG hb hi hn;rw[show(No κ).P=Pr κ from rfl];cases i with
 | zero=>
  refine Eq.mpr (xOb κ n (dw L) _ _ K) ?_;rw[ae,an2,an4];refine⟨fun h=>⟨⟨n,m,L,[],0⟩,rfl,⟨hG,hb,by simp only;omega,h⟩,⟨rfl,rfl,rfl,trivial⟩,_,?_,⟨n,m,L,1⟩,rfl,⟨hG,hb,?_,hn⟩,rfl,ho⟩,fun h=>?_⟩
  ·simp only;omega
  ·simp only;omega
  ·obtain rfl:n=0:=by omega
   exact ho
 | succ k=>
  refine Eq.mpr (xOa κ n (k+1) (dw L) (bw n m L (k+1)) _ _ K) ?_;rw[ae,an2,an4];refine⟨fun h=>⟨⟨n,m,L,bw n m L (k+1),((k+1:Nat):Int)⟩,rfl,⟨hG,hb,by simp only;omega,h⟩,⟨rfl,rfl,rfl,trivial⟩,?_⟩,fun h=>?_⟩
  ·have e:sp 63 [(3, .ptr 0 0 [] 0),(45, .int n),(46, .int (((k+1:Nat):Int)+1))] [.box 99 (.ptr 1 0 [] 0), .box 145 (.agg [.ak 2 0 n, .ak 3 0 ((bw n m L (k+1)).length+1)]),OC (dw L), .row 101 (List.take (bw n m L (k+1)).length (bw n m L (k+1))++[WU (iV n m L ((k+1:Nat):Int))])]=Ss ⟨n,m,L,k+2⟩:=by
    rw[List.take_length,←Kw];simp only[Ss,Ue,lq];rfl
   rw[ai,an2,az (n:=((k+1:Nat):Int)+1) (by omega) (by omega)];refine⟨by rw[lq];omega,_,?_,⟨n,m,L,k+2⟩,e,⟨hG,hb,?_,hn⟩,rfl,ho⟩
   ·simp only;omega
   ·simp only;omega
  ·obtain rfl:n=k+1:=by omega
   exact ho
noncomputable def Z8 κ:=(No κ).an 42 8 (aG 0 Ss Nt Tl)
theorem eOa κ:aE (Z8 κ):=(eOr _).an (mOr _) (lOa _)
theorem mOa κ:aj (Z8 κ):=(mOr _).an aI
theorem yOg κ ds rs K:(a7 (Z8 κ) 12 42 [fq ds rs] [] K)=(
 letI a:=AV.ptr 0 0 []
 letI b:=AV.int
 letI c:=AV.ptr
 letI d:=AV.agg
 letI e:=Obj.box
 letI f:=Obj.rows
 letI g:=AV.ah
 letI h:=AV.ak
 letI i:=AV.nil
 letI j:=Int.toNat (↑(ds.length):Int)
 letI l:=d [g 43 ds,g 48 rs]
 letI m:=Pg.toProgram (Env.P (No κ))
 aW (true&&decide ((↑(ds.length):Int)<=(↑(ds.length):Int))&&decide ((Int.toNat (↑(ds.length):Int)+1)*25<=70368744177664)&&true) (∃(e1:Ch),letI k:=[g 43 e1.1,g 48 e1.2];letI n:=[h 1 0 e1.1.length,i];([c 4 0 [] 0],[e 25 l,f 35 3 (List.replicate j []) none,e 145 (d [h 1 0 j,i]),e 99 (c 2 0 [] 0),e 25 l,Dn.Obj.loop (iO Tryz.prog 42 3 LoopState.ready none (ik (bO 63) [(0,d [g 43 ds,g 48 rs]),(1,a 0),(2,AV.lit (Value.pointer none)),(3,c 3 0 [] 0),(7,c 0 0 [0] 0),(8,g 43 ds),(9,b (↑(ds.length):Int)),(10,h 1 0 j),(11,d [h 1 0 j,i]),(12,c 2 0 [] 0),(13,d [g 43 ds,g 48 rs]),(14,AV.bm 129 [c 4 0 [] 0])]))])=([c 4 0 [] 0],[e 25 (d k),f 35 3 (List.replicate e1.1.length []) none,e 145 (d n),e 99 (c 2 0 [] 0),e 25 (d k),Dn.Obj.loop (iO Tryz.prog 42 3 LoopState.ready none (ik (bO 63) [(0,d k),(1,a 0),(2,AV.lit (Value.pointer none)),(3,c 3 0 [] 0),(7,c 0 0 [0] 0),(8,g 43 e1.1),(9,b (↑(e1.1.length):Int)),(10,h 1 0 e1.1.length),(11,d n),(12,c 2 0 [] 0),(13,d k),(14,AV.bm 129 [c 4 0 [] 0])]))])/\yE e1.1 e1.2/\ad m 42 8=ad m 42 8/\∃(e0:AOf),sp 63 [(3,a 0),(45,b (↑(e1.1.length):Int)),(46,b 0)] [e 99 (c 1 0 [] 0),e 145 (d [h 2 0 e1.1.length,i]),f 35 3 (dw (tr e1.1.length (zm e1.1 e1.2))) none]=sp 63 [(3,a 0),(45,b (↑(e0.n):Int)),(46,b (↑(e0.i):Int))] (Ue e0.n e0.m e0.L e0.i)/\(WG e0.n e0.m e0.L/\(e0.n+1)*e0.m<=1000000000/\e0.i<=e0.n/\e0.n<=60)/\aq (Nat.beq e0.n 0) (K (a 0) [e 145 (d [h 1 0 e0.n,i]),f 35 3 (dw e0.L) none]) (K (a 0) [e 145 (d [h 1 0 e0.n,h 2 0 (List.length (bw e0.n e0.m e0.L e0.n))]),f 35 3 (dw e0.L) none,Obj.row 101 (bw e0.n e0.m e0.L e0.n)]))):=by kernel_rfl
def Dh ds rs:=tr ds.length (zm ds rs)
def so ds rs:=(zm ds rs).length
def YF(x:Ch):List AV×List Dn.Obj:=([fq x.1 x.2],[])
def TL(x:Ch):Out (AV×List Dn.Obj):= .aq (Nat.beq x.1.length 0)
 (.one (.ptr 0 0 [] 0,yO x.1.length (dw (Dh x.1 x.2))))
 (.one (.ptr 0 0 [] 0,vd x.1.length (dw (Dh x.1 x.2)) (bw x.1.length (so x.1 x.2) (Dh x.1 x.2) x.1.length)))
theorem yE.le{ds rs}(h:yE ds rs):(ds.length+1)*so ds rs<=1000000000:=by
 have h1:=h.hd;have h2:=h.hr;have h3:=Bu ds _ h.bs;refine Nat.le_trans (Nat.mul_le_mul (show ds.length+1<=61 by omega) (by unfold so;omega)) (by omega)
theorem yE.wg{ds rs}(h:yE ds rs):WG ds.length (so ds rs) (Dh ds rs):=Uy h.ed
theorem cOg κ:bg (Z8 κ) 12 42 (aO YF (fun x=>yE x.1 x.2) TL):=by
 refine aQ ?_;rintro⟨ds,rs⟩ K hf ho;simp only at hf;refine Eq.mpr (yOg κ ds rs K) ?_;have hd:=hf.hd;simp only[ai,an3];exact⟨by grind,(ds,rs),rfl,hf,trivial,⟨ds.length,so ds rs,Dh ds rs,0⟩,rfl,⟨hf.wg,hf.le,Nat.zero_le _,hd⟩,ho⟩
noncomputable def Xs κ:=(Z8 κ).aw 42 (aO YF (fun x=>yE x.1 x.2) TL)
theorem eOf κ:aE (Xs κ):=(eOa _).aw (mOa _) (cOg _)
theorem mOf κ:aj (Xs κ):=(mOa _).aw aH
end Go.Proofs.YtioeffnadipbaaaGreatDoor
