import Derived.Test.YthaiinlfnommnaaGreatDoorDbM1
import Derived.Test.YthaiinlfnommnaaGreatDoorDbM7
namespace Go.Rl
open Go Go.Dn
abbrev Gr:=List (List Int)
def Gr.at(L:Gr)(a:Int):List Int:=L.getD a.toNat []
def nS(L:Gr)(e:Int×Int):Gr:=bif (L.at e.1).contains e.2 then L else L.set e.1.toNat (L.at e.1++[e.2])
def r8(n:Nat)(E:List (Int×Int)):Gr:=E.foldl nS (List.replicate n [])
theorem B0(L:Gr)(e:Int×Int):(nS L e).length=L.length:=by
 unfold nS;cases(L.at e.1).contains e.2<;>simp
theorem sb: ∀(E:List (Int×Int)) (L:Gr),(E.foldl nS L).length=L.length
 |[],_=>rfl
 |e::E,L=>by rw[List.foldl_cons,sb E,B0]
theorem Ep(L:Gr)(a b:Int)(x:List Int)(ha:a.toNat<L.length):Gr.at (L.set a.toNat x) b=if a.toNat=b.toNat then x else L.at b:=by
 unfold Gr.at
 rw[List.getD_eq_getElem?_getD,List.getElem?_set]
 by_cases h:a.toNat=b.toNat
 ·rw[if_pos h,if_pos h,if_pos ha];rfl
 ·rw[if_neg h,if_neg h];rfl
theorem KG(L:Gr)(e:Int×Int)(he:0<=e.1/\e.1.toNat<L.length)(a b:Int)(h0:0<=a):b∈(nS L e).at a↔b∈L.at a\/(a,b)=e:=by
 obtain⟨c,d⟩:=e
 simp only at he
 unfold nS
 cases h:(L.at c).contains d with
 |true=>
  rw[aa8]
  refine⟨.inl,?_⟩
  rintro(h1|h1)
  ·exact h1
  ·cases h1;simpa using h
 | false=>
  rw[aa6,Ep L c a _ he.2]
  by_cases hc:c.toNat=a.toNat
  ·have:c=a:=by omega
   subst this
   simp
  ·rw[if_neg hc]
   refine⟨.inl,?_⟩
   rintro(h1|h1)
   ·exact h1
   ·cases h1;exact absurd rfl hc
theorem yB: ∀(E:List (Int×Int)) (L:Gr),(∀e,e∈E->0<=e.1/\e.1.toNat<L.length)->∀a b:Int,0<=a->(b∈Gr.at (E.foldl nS L) a↔b∈L.at a\/(a,b)∈E)
 |[],L,_,a,b,_=>by simp
 |e::E,L,h,a,b,h0=>by
  rw[List.foldl_cons,yB E (nS L e) (fun x hx=>by rw[B0];exact h x (by simp[hx])) a b h0,KG L e (h e (by simp)) a b h0,ac3,or_assoc]
theorem Jw: ∀(E:List (Int×Int)) (L:Gr) (a:Int),(Gr.at (E.foldl nS L) a).length<=(L.at a).length+E.length
 |[],L,a=>by simp
 | e ::E,L,a=>by
  rw[List.foldl_cons]
  refine Nat.le_trans (Jw E (nS L e) a) ?_
  have:((nS L e).at a).length<=(L.at a).length+1:=by
   unfold nS
   cases(L.at e.1).contains e.2 with
   |true=>rw[aa8];omega
   | false=>
    rw[aa6]
    by_cases hl:e.1.toNat<L.length
    ·rw[Ep L e.1 a _ hl]
     by_cases hc:e.1.toNat=a.toNat
     ·rw[if_pos hc,ab9,List.length_singleton]
      have:L.at e.1=L.at a:=by unfold Gr.at;rw[hc]
      rw[this];omega
     ·rw[if_neg hc];omega
    ·rw[List.set_eq_of_length_le (by omega)];omega
  simp only[List.length_cons];omega
theorem EI(n:Nat)(a:Int):Gr.at (List.replicate n []) a=[]:=by
 unfold Gr.at
 rw[List.getD_eq_getElem?_getD]
 by_cases h:a.toNat<n<;>simp[h]
structure WG(n m:Nat)(L:Gr):Prop where
 len:L.length=n
 le: ∀a,(L.at a).length<=m
 ke: ∀a,0<=a->∀b,b∈L.at a->0<=b/\b<n
theorem GX{n:Nat}{E:List (Int×Int)}(h: ∀e,e∈E->(0<=e.1/\e.1<n)/\0<=e.2/\e.2<n){a b:Int}(h0:0<=a):b∈(r8 n E).at a↔(a,b)∈E:=by
 unfold r8
 rw[yB E _ (fun e he=>⟨(h e he).1.1,by have:=(h e he).1;simp;omega⟩) a b h0,EI]
 simp
theorem RA{n:Nat}{E:List (Int×Int)}(h: ∀e,e∈E->(0<=e.1/\e.1<n)/\0<=e.2/\e.2<n):WG n E.length (r8 n E):=by
 refine⟨by unfold r8;rw[sb];simp,fun a=>?_,fun a h0 b hb=>?_⟩
 ·have:=Jw E (List.replicate n []) a
  rw[EI] at this
  simpa[r8] using this
 ·exact(h _ ((GX h h0).1 hb)).2
inductive xm (L:Gr):Int->Int->Prop
 |refl (a:Int):xm L a a
 |step {a b c:Int} (h:b∈L.at a) (k:xm L b c):xm L a c
def Rc(L:Gr)(a b:Int):Prop:=∃c,c∈L.at a/\xm L c b
theorem xm.trans{L:Gr}{a b c:Int}(h:xm L a b)(k:xm L b c):xm L a c:=by
 induction h with
 |refl=>exact k
 |step h _ ih=>exact .step h (ih k)
theorem Rc.trans{L:Gr}{a b c:Int}(h:Rc L a b)(k:Rc L b c):Rc L a c:=by
 obtain⟨d,h1,h2⟩:=h
 obtain⟨e,k1,k2⟩:=k
 exact⟨d,h1,h2.trans (.step k1 k2)⟩
theorem Rc.step{L:Gr}{a b c:Int}(h:Rc L a b)(k:c∈L.at b):Rc L a c:=h.trans ⟨c,k, .refl c⟩
theorem Rc.mono{L M:Gr}(h: ∀a b,0<=a->b∈L.at a->b∈M.at a/\0<=b){a b:Int}(h0:0<=a)(k:Rc L a b):Rc M a b:=by
 obtain⟨c,h1,h2⟩:=k
 have st: ∀{x y:Int},xm L x y->0<=x->xm M x y:=fun{x y} k=>by
  induction k with
  |refl=>intro _;exact .refl _
  |step h' _ ih=>intro hx;exact .step (h _ _ hx h').1 (ih (h _ _ hx h').2)
 exact⟨c,(h a c h0 h1).1,st h2 (h a c h0 h1).2⟩
theorem Rc.ke{n m:Nat}{L:Gr}(hG:WG n m L){a b:Int}(h0:0<=a)(h:Rc L a b):0<=b/\b<n:=by
 obtain⟨c,h1,h2⟩:=h
 have:=hG.ke a h0 c h1
 clear h1
 induction h2 with
 |refl=>exact this
 |step h _ ih=>exact ih (hG.ke _ this.1 _ h)
def eK(l:List Int):Int:=l.getLastD 0
def IL(L:Gr):Nat->List Int->List Int->List Int
 |0,_,met=>met
 |_+1,[],met=>met
 |f+1,t::todo,met=>bif met.contains (eK (t::todo)) then IL L f (t::todo).dropLast met else IL L f ((t::todo).dropLast++L.at (eK (t::todo))) (met++[eK (t::todo)])
def fL(n:Nat):List Int:=(List.range n).map fun(k:Nat)=>(k:Int)
theorem fy{n:Nat}{a:Int}:a∈fL n↔0<=a/\a<n:=by
 simp only[fL,List.mem_map,List.mem_range]
 refine⟨?_,fun h=>⟨a.toNat,by omega,by omega⟩⟩
 rintro⟨k,h,rfl⟩
 omega
theorem mc{α:Type}{p q:α->Bool}: ∀{l:List α},(∀x,x∈l->p x=true->q x=true)->(∃x,x∈l/\q x=true/\p x=false)->l.countP p<l.countP q
 |[],_,h=>by obtain⟨x,hx,_⟩:=h;cases hx
 | a::l,h,⟨x,hx,h1,h2⟩=>by
  have hm:=List.countP_mono_left (l:=l) (p:=p) (q:=q) fun y hy=>h y (by simp[hy])
  simp only[List.countP_cons]
  rcases List.mem_cons.1 hx with rfl|hx
  ·rw[h1,h2];simp;omega
  ·have ih:=mc (l:=l) (fun y hy=>h y (by simp[hy])) ⟨x,hx,h1,h2⟩
   cases hp:p a with
   |true=>rw[h a (by simp) hp];simp;omega
   |false=>cases q a<;>simp<;>omega
def v8(n:Nat)(met:List Int):Nat:=(fL n).countP fun x=>!met.contains x
theorem Ez(n:Nat)(met:List Int):v8 n met<=n:=by
 have:=List.countP_le_length (l:=fL n) (p:=fun x=>!met.contains x)
 simpa[v8,fL] using this
theorem Hh{n:Nat}{met:List Int}{b:Int}(hb:0<=b/\b<n)(hn:met.contains b=false)(l:List Int)(hl:b∈l):v8 n (met++l)<v8 n met:=by
 refine mc (fun x _ h=>?_) ⟨b,fy.2 hb,by simpa using hn,by simp[hl]⟩
 simp only[Bool.not_eq_true',List.contains_eq_mem,aa3,List.mem_append,not_or] at h⊢
 exact h.1
def ms(n m:Nat)(todo met:List Int):Nat:=v8 n met*(m+1)+todo.length
theorem nG{t:Int}{todo:List Int}:eK (t::todo)∈t::todo:=by
 unfold eK
 rw[List.getLastD_cons]
 cases todo with
 |nil=>simp
 |cons a l=>rw[List.getLastD_eq_getLast?,List.getLast?_eq_some_getLast (by simp)];simp
theorem yN{t:Int}{todo:List Int}:(t::todo).dropLast++[eK (t::todo)]=t::todo:=by
 have:eK (t::todo)=(t::todo).getLast (by simp):=by
  unfold eK
  rw[List.getLastD_eq_getLast?,List.getLast?_eq_some_getLast (by simp)];rfl
 rw[this];exact List.dropLast_concat_getLast (by simp)
theorem AR(n m:Nat)(t:Int)(todo met:List Int):ms n m (t::todo).dropLast met<ms n m (t::todo) met:=by
 unfold ms
 simp
theorem As{n m:Nat}{L:Gr}(hG:WG n m L)(t:Int)(todo met:List Int)(hb:0<=eK (t::todo)/\eK (t::todo)<n)(hn:met.contains (eK (t::todo))=false):
  ms n m ((t::todo).dropLast++L.at (eK (t::todo))) (met++[eK (t::todo)])<ms n m (t::todo) met:=by
 unfold ms
 have h1:=Hh hb hn [eK (t::todo)] (by simp)
 have h2:=hG.le (eK (t::todo))
 have h3:=Nat.mul_le_mul_right (m+1) (show v8 n (met++[eK (t::todo)])+1<=v8 n met from h1)
 rw[Nat.add_mul] at h3
 simp only[ab9,List.length_dropLast,List.length_cons]
 omega
structure Sd(n m:Nat)(todo met:List Int):Prop where
 ht: ∀x,x∈todo->0<=x/\x<n
 hm: ∀x,x∈met->0<=x/\x<n
 le:todo.length+v8 n met*m<=(n+1)*m
theorem Sd.pop{n m:Nat}{t:Int}{todo met:List Int}(h:Sd n m (t::todo) met):Sd n m (t::todo).dropLast met:=
 ⟨fun x hx=>h.ht x (List.dropLast_subset _ hx),h.hm,by have:=h.le;simp only[List.length_dropLast,List.length_cons] at this⊢;omega⟩
theorem Sd.add{n m:Nat}{L:Gr}(hG:WG n m L){t:Int}{todo met:List Int}(h:Sd n m (t::todo) met)(hn:met.contains (eK (t::todo))=false):Sd n m ((t::todo).dropLast++L.at (eK (t::todo))) (met++[eK (t::todo)]):=by
 have hb:=h.ht _ nG
 refine⟨fun x hx=>?_,fun x hx=>?_,?_⟩
 ·rcases List.mem_append.1 hx with hx|hx
  ·exact h.ht x (List.dropLast_subset _ hx)
  ·exact hG.ke _ hb.1 x hx
 ·rcases List.mem_append.1 hx with hx|hx
  ·exact h.hm x hx
  ·rw[List.mem_singleton] at hx;rw[hx];exact hb
 ·have h1:=Hh hb hn [eK (t::todo)] (by simp)
  have h2:=hG.le (eK (t::todo))
  have h3:=Nat.mul_le_mul_right m (show v8 n (met++[eK (t::todo)])+1<=v8 n met from h1)
  rw[Nat.add_mul] at h3
  have h4:=h.le
  simp only[ab9,List.length_dropLast,List.length_cons] at h4⊢
  omega
theorem Sd.start{n m:Nat}{L:Gr}(hG:WG n m L){a:Int}(h0:0<=a):Sd n m (L.at a) []:=
 ⟨fun x hx=>hG.ke a h0 x hx,fun x hx=>(nomatch hx),by
  have h1:=hG.le a
  have h2:=Nat.mul_le_mul_right m (Ez n [])
  rw[Nat.add_mul];omega⟩
theorem qV{n m:Nat}{L:Gr}(hG:WG n m L): ∀(f g:Nat) (todo met:List Int),Sd n m todo met->ms n m todo met<=f->ms n m todo met<=g->IL L f todo met=IL L g todo met
 |0,g,todo,met,_,h,_=>by
  have:todo=[]:=by unfold ms at h;exact List.eq_nil_of_length_eq_zero (by omega)
  subst this
  cases g<;>rfl
 |f+1,0,todo,met,_,_,h=>by
  have:todo=[]:=by unfold ms at h;exact List.eq_nil_of_length_eq_zero (by omega)
  subst this;rfl
 |f+1,g+1,[],met,_,_,_=>rfl
 | f+1,g+1,t::todo,met,hs,h1,h2=>by
  rw[IL,IL]
  cases hc:met.contains (eK (t::todo)) with
  |true=>
   have:=AR n m t todo met
   rw[aa8,aa8]
   exact qV hG f g _ _ hs.pop (by omega) (by omega)
  |false=>
   have:=As hG t todo met (hs.ht _ nG) hc
   rw[aa6,aa6]
   exact qV hG f g _ _ (hs.add hG hc) (by omega) (by omega)
def uV(n m:Nat)(L:Gr)(todo met:List Int):List Int:=IL L (ms n m todo met) todo met
theorem C9(n m:Nat)(L:Gr)(met:List Int):uV n m L [] met=met:=by
 unfold uV;cases ms n m [] met<;>rfl
theorem Ij{n m:Nat}{L:Gr}(hG:WG n m L){t:Int}{todo met:List Int}(hs:Sd n m (t::todo) met):
  uV n m L (t::todo) met=bif met.contains (eK (t::todo)) then uV n m L (t::todo).dropLast met else uV n m L ((t::todo).dropLast++L.at (eK (t::todo))) (met++[eK (t::todo)]):=by
 have e:ms n m (t::todo) met=(ms n m (t::todo) met - 1)+1:=by unfold ms;simp only[List.length_cons];omega
 unfold uV
 rw[e,IL]
 cases hc:met.contains (eK (t::todo)) with
 |true=>
  have:=AR n m t todo met
  rw[aa8,aa8]
  exact qV hG _ _ _ _ hs.pop (by omega) (Nat.le_refl _)
 |false=>
  have:=As hG t todo met (hs.ht _ nG) hc
  rw[aa6,aa6]
  exact qV hG _ _ _ _ (hs.add hG hc) (by omega) (Nat.le_refl _)
theorem zU{n m:Nat}{L:Gr}(hG:WG n m L)(P:Int->Prop)(hP: ∀x y,P x->y∈L.at x->P y): ∀(f:Nat) (todo met:List Int),Sd n m todo met->ms n m todo met<=f->(∀x,x∈todo\/x∈met->P x)->(∀x,x∈met->∀y,y∈L.at x->y∈met\/y∈todo)->
  (∀x,x∈IL L f todo met->P x)/\(∀x,x∈todo\/x∈met->x∈IL L f todo met)/\(∀x,x∈IL L f todo met->∀y,y∈L.at x->y∈IL L f todo met)
 |0,todo,met,_,h,h1,h2=>by
  have:todo=[]:=by unfold ms at h;exact List.eq_nil_of_length_eq_zero (by omega)
  subst this
  exact⟨fun x hx=>h1 x (.inr hx),fun x hx=>hx.resolve_left (by simp),fun x hx y hy=>(h2 x hx y hy).resolve_right (by simp)⟩
 |f+1,[],met,_,_,h1,h2=>⟨fun x hx=>h1 x (.inr hx),fun x hx=>hx.resolve_left (by simp),fun x hx y hy=>(h2 x hx y hy).resolve_right (by simp)⟩
 | f +1,t::todo,met,hs,h,h1,h2=>by
  have hd: ∀x,x∈t::todo->x∈(t::todo).dropLast\/x=eK (t::todo):=fun x hx=>by
   rw[←yN (t:=t) (todo:=todo)] at hx
   simpa using hx
  rw[IL]
  cases hc:met.contains (eK (t::todo)) with
  | true=>
   have hm:eK (t::todo)∈met:=by simpa using hc
   have:=AR n m t todo met
   rw[aa8]
   obtain⟨g1,g2,g3⟩:=zU hG P hP f (t::todo).dropLast met hs.pop (by omega) (fun x hx=>h1 x (hx.imp (fun h=>List.dropLast_subset _ h) id)) (fun x hx y hy=>by
    rcases h2 x hx y hy with h|h
    ·exact .inl h
    ·rcases hd y h with h|rfl
     ·exact .inr h
     ·exact .inl hm)
   refine⟨g1,fun x hx=>?_,g3⟩
   rcases hx with hx|hx
   ·rcases hd x hx with h|rfl
    ·exact g2 x (.inl h)
    ·exact g2 _ (.inr hm)
   ·exact g2 x (.inr hx)
  | false=>
   have:=As hG t todo met (hs.ht _ nG) hc
   have hl:=h1 _ (.inl (nG (t:=t) (todo:=todo)))
   rw[aa6]
   obtain⟨g1,g2,g3⟩:=zU hG P hP f _ _ (hs.add hG hc) (by omega) (fun x hx=>by
    rcases hx with hx|hx
    ·rcases List.mem_append.1 hx with hx|hx
     ·exact h1 x (.inl (List.dropLast_subset _ hx))
     ·exact hP _ _ hl hx
    ·rcases List.mem_append.1 hx with hx|hx
     ·exact h1 x (.inr hx)
     ·rw[List.mem_singleton] at hx;rw[hx];exact hl) (fun x hx y hy=>by
    rcases List.mem_append.1 hx with hx|hx
    ·rcases h2 x hx y hy with h|h
     ·exact .inl (ab5 _ h)
     ·rcases hd y h with h|rfl
      ·exact .inr (ab5 _ h)
      ·exact .inl (by simp)
    ·rw[List.mem_singleton] at hx;subst hx
     exact .inr (ab4 _ hy))
   refine⟨g1,fun x hx=>?_,g3⟩
   rcases hx with hx|hx
   ·rcases hd x hx with h|rfl
    ·exact g2 x (.inl (ab5 _ h))
    ·exact g2 _ (.inr (by simp))
   ·exact g2 x (.inr (ab5 _ hx))
def ij(n m:Nat)(L:Gr)(a:Int):List Int:=uV n m L (L.at a) []
theorem ll{n m:Nat}{L:Gr}(hG:WG n m L){a b:Int}(h0:0<=a):b∈ij n m L a↔Rc L a b:=by
 obtain⟨g1,g2,g3⟩:=zU hG (Rc L a) (fun x y h k=>h.step k) _ (L.at a) [] (Sd.start hG h0) (Nat.le_refl _) (fun x hx=>⟨x,hx.resolve_right (by simp), .refl x⟩) (fun x hx=>by cases hx)
 refine⟨g1 b,?_⟩
 rintro⟨c,h1,h2⟩
 have hc:=g2 c (.inl h1)
 clear h1
 induction h2 with
 |refl=>exact hc
 |step h _ ih=>exact ih (g3 _ hc _ h)
def gr(n m:Nat)(L:Gr)(a b:Int):Bool:=decide (a=b)||((ij n m L a).contains b&&(ij n m L b).contains a)
theorem qt{n m:Nat}{L:Gr}(hG:WG n m L){a b:Int}(ha:0<=a)(hb:0<=b):gr n m L a b=true↔a=b\/(Rc L a b/\Rc L b a):=by
 simp only[gr,ab6,aa1,aa2,List.contains_eq_mem,ll hG ha,ll hG hb]
theorem Ln(n m:Nat)(L:Gr)(a:Int):gr n m L a a=true:=by simp[gr]
theorem uK(n m:Nat)(L:Gr)(a b:Int):gr n m L a b=gr n m L b a:=by
 simp only[gr,Bool.and_comm,eq_comm]
theorem oW{n m:Nat}{L:Gr}(hG:WG n m L){a b c:Int}(ha:0<=a)(hb:0<=b)(hc:0<=c)(h:gr n m L a b=true)(k:gr n m L b c=true):gr n m L a c=true:=by
 rw[qt hG ha hb] at h
 rw[qt hG hb hc] at k
 rw[qt hG ha hc]
 rcases h with rfl|⟨h1,h2⟩
 ·exact k
 ·rcases k with rfl|⟨k1,k2⟩
  ·exact .inr ⟨h1,h2⟩
  ·exact .inr ⟨h1.trans k1,k2.trans h2⟩
section
variable {n m:Nat} {L:Gr}
def dO(n m:Nat)(L:Gr)(a:Int):List Int:=(fL n).filter (gr n m L a)
def fV(n m:Nat)(L:Gr)(done:List Int)(a:Int):Bool:=!done.contains a&&(ij n m L a).all fun b=>done.contains b||gr n m L a b
def dw(n m:Nat)(L:Gr)(done:List Int):Int:=((fL n).find? (fV n m L done)).getD (-1)
def rC(done l:List Int):List Int:=l.foldl (fun d b=>bif d.contains b then d else d++[b]) done
def vX(n m:Nat)(L:Gr):Nat->List Int->List (List Int)
 |0,_=>[]
 |f+1,done=>bif decide (dw n m L done<0) then[] else dO n m L (dw n m L done)::vX n m L f (rC done (dO n m L (dw n m L done)))
theorem jI: ∀(l done:List Int) (x:Int),x∈rC done l↔x∈done\/x∈l
 |[],done,x=>by simp[rC]
 | b::l,done,x=>by
  have ih:=jI l (bif done.contains b then done else done++[b]) x
  unfold rC at ih⊢
  rw[List.foldl_cons,ih]
  cases h:done.contains b with
  |true=>
   rw[aa8,ac3]
   have h':b∈done:=by simpa using h
   refine⟨fun h=>h.imp id .inr,?_⟩
   rintro(h|rfl|h)
   ·exact .inl h
   ·exact .inl h'
   ·exact .inr h
  |false=>rw[aa6,List.mem_append,List.mem_singleton,ac3,or_assoc]
theorem oY{done:List Int}(h:0<=dw n m L done):(0<=dw n m L done/\dw n m L done<n)/\fV n m L done (dw n m L done)=true:=by
 unfold dw at h⊢
 cases e:(fL n).find? (fV n m L done) with
 |none=>rw[e] at h;simp at h
 |some a=>
  have h1:=List.find?_some e
  have h2:=List.mem_of_find?_eq_some e
  exact⟨fy.1 h2,h1⟩
theorem IX{done:List Int}(h:dw n m L done<0): ∀a:Int,0<=a->a<n->fV n m L done a=false:=by
 intro a h0 h1
 unfold dw at h
 cases e:(fL n).find? (fV n m L done) with
 |none=>simpa using List.find?_eq_none.1 e a (fy.2 ⟨h0,h1⟩)
 |some b=>
  have h2:=fy.1 (List.mem_of_find?_eq_some e)
  rw[e] at h;simp at h;omega
theorem F9(hG:WG n m L){done:List Int}{a:Int}(h0:0<=a/\a<n)(ha:a∉done):0<=dw n m L done:=by
 let R:Int->Int->Bool:=fun a x=>!done.contains x&&(decide (x=a)||(ij n m L a).contains x)
 have key: ∀(k:Nat) (a:Int),0<=a/\a<n->a∉done->(fL n).countP (R a)<=k->∃b:Int,(0<=b/\b<n)/\fV n m L done b=true:=by
  intro k
  induction k with
  |zero=>
   intro a h0 ha h
   have:0<(fL n).countP (R a):=List.countP_pos_iff.2 ⟨a,fy.2 h0,by simp[R,ha]⟩
   omega
  | succ k ih=>
   intro a h0 ha h
   by_cases hf:fV n m L done a=true
   ·exact⟨a,h0,hf⟩
   ·have: ∃b,b∈ij n m L a/\b∉done/\gr n m L a b=false:=by
     simp only[fV,aa2,Bool.not_eq_true',List.all_eq_true,not_and,List.contains_eq_mem,aa3,ab6,aa1] at hf
     have h1:=hf ha
     simp only[Classical.not_forall,not_or,Bool.not_eq_true] at h1
     obtain⟨b,h2,h3⟩:=h1
     exact⟨b,h2,h3⟩
    obtain⟨b,h2,h3,h4⟩:=this
    have h5:=(ll hG h0.1).1 h2
    have hb:=h5.ke hG h0.1
    refine ih b hb h3 (Nat.le_of_lt_succ (Nat.lt_of_lt_of_le (mc (fun x _ hx=>?_) ⟨a,fy.2 h0,by simp[R,ha],?_⟩) h))
    ·simp only[R,aa2,ab6,aa1,List.contains_eq_mem,ll hG h0.1,ll hG hb.1] at hx⊢
     refine⟨hx.1, .inr ?_⟩
     rcases hx.2 with rfl|hx
     ·exact h5
     ·exact h5.trans hx
    ·have hm:=h4
     rw[Bool.eq_false_iff,Ne,qt hG h0.1 hb.1,not_or] at hm
     rw[Bool.eq_false_iff]
     simp only[R,Ne,aa2,ab6,aa1,List.contains_eq_mem,ll hG hb.1,not_and,not_or]
     exact fun _=>⟨hm.1,fun h=>hm.2 ⟨h5,h⟩⟩
 obtain⟨b,h1,h2⟩:=key _ a h0 ha (Nat.le_refl _)
 rcases Int.lt_or_le (dw n m L done) 0 with h|h
 ·rw[IX h b h1.1 h1.2] at h2;cases h2
 ·exact h
theorem qw{a b:Int}:b∈dO n m L a↔(0<=b/\b<n)/\gr n m L a b=true:=by
 unfold dO
 rw[List.mem_filter,fy]
theorem o6{done:List Int}(h:0<=dw n m L done):v8 n (rC done (dO n m L (dw n m L done)))<v8 n done:=by
 obtain⟨h1,h2⟩:=oY h
 have hn:dw n m L done∉done:=by
  simp only[fV,aa2,Bool.not_eq_true',List.contains_eq_mem,aa3] at h2
  exact h2.1
 refine mc (fun x _ hx=>?_) ⟨dw n m L done,fy.2 h1,by simpa using hn,?_⟩
 ·simp only[Bool.not_eq_true',List.contains_eq_mem,aa3,jI,not_or] at hx⊢
  exact hx.1
 ·simp only[ab3,List.contains_eq_mem,aa1,jI,qw]
  exact .inr ⟨h1,Ln _ _ _ _⟩
theorem x9: ∀(f g:Nat) (done:List Int),v8 n done<f->v8 n done<g->vX n m L f done=vX n m L g done
 |0,_,_,h,_=>by omega
 |_+1,0,_,_,h=>by omega
 | f+1,g+1,done,h1,h2=>by
  rw[vX,vX]
  cases h:decide (dw n m L done<0) with
  |true=>rfl
  |false=>
   have:=o6 (n:=n) (m:=m) (L:=L) (done:=done) (by simpa using h)
   rw[aa6,aa6,x9 f g _ (by omega) (by omega)]
def lA(n m:Nat)(L:Gr)(done:List Int):List (List Int):=vX n m L (v8 n done+1) done
theorem oz(done:List Int):lA n m L done=bif decide (dw n m L done<0) then[] else dO n m L (dw n m L done)::lA n m L (rC done (dO n m L (dw n m L done))):=by
 unfold lA
 rw[vX]
 cases h:decide (dw n m L done<0) with
 |true=>rfl
 |false=>
  have:=o6 (n:=n) (m:=m) (L:=L) (done:=done) (by simpa using h)
  rw[aa6,aa6,x9 _ _ _ (by omega) (Nat.lt_succ_self _)]
def LH(n m:Nat)(L:Gr)(done:List Int):Prop:=∀a b:Int,0<=a->0<=b->b<n->a∈done->gr n m L a b=true->b∈done
theorem Bd(hG:WG n m L){done:List Int}(h:LH n m L done)(hn:0<=dw n m L done):LH n m L (rC done (dO n m L (dw n m L done))):=by
 intro a b h0 h1 h2 ha hab
 rw[jI] at ha⊢
 rcases ha with ha|ha
 ·exact .inl (h a b h0 h1 h2 ha hab)
 ·rw[qw] at ha
  exact .inr (qw.2 ⟨⟨h1,h2⟩,oW hG hn h0 h1 ha.2 hab⟩)
end
end Go.Rl
namespace Go.Proofs.YthaiinlfnommnaaGreatDoor
open Go Go.Dn Go.Rl Go.Proofs
attribute [local irreducible] a8 vc
set_option maxRecDepth 20000
def fZ(op:Int):Bool:=decide (op=1)
def jb(op:Int):Bool:=bif decide (op=2) then true else decide (op>=7)
def dH(op:Int):Bool:=bif decide (op<3) then true else decide (op>6)
theorem yKa(κ:Kp)(op:Int)(K:AV->List Dn.Obj->Prop):(a8 (Tj κ) 12 44 [.int op] [] K)=(
 K (AV.bool (op==(1:Int))) []):=by kernel_rfl
def Xf:List AV->Option (Bool×AV)
 |[.lit (.int .i64 op)]=>some (true, .bool (fZ op))
 |_=>none
theorem pKa(κ:Kp):cU (Tj κ) 12 44 Xf:=by
 intro args x hh
 unfold Xf at hh
 split at hh
 ·rename_i op
  simp only[aa4,ab0,true_and] at hh
  subst hh
  exact⟨_,rfl,rfl,Eq.mpr (yKa κ op _) (by rw[Qi];rfl)⟩
 ·cases hh
noncomputable def SC(κ:Kp):Env:=(Tj κ).aH 44 Xf
theorem eKa(κ:Kp):aB (SC κ):=(eCs κ).aH (ZX κ) (pKa κ)
theorem Z7(κ:Kp):aj (SC κ):=(ZX κ).aH
theorem yKb(κ:Kp)(op:Int)(K:AV->List Dn.Obj->Prop):(a8 (SC κ) 12 73 [.int op] [] K)=(
 aD (op==(2:Int)) (K (AV.bool true) []) (K (AV.bool (decide (op>=(7:Int)))) [])):=by kernel_rfl
def W7:List AV->Option (Bool×AV)
 |[.lit (.int .i64 op)]=>some (true, .bool (jb op))
 |_=>none
theorem pKb(κ:Kp):cU (SC κ) 12 73 W7:=by
 intro args x hh
 unfold W7 at hh
 split at hh
 ·rename_i op
  simp only[aa4,ab0,true_and] at hh
  subst hh
  refine⟨_,rfl,rfl,Eq.mpr (yKb κ op _) ?_⟩
  simp only[Qi]
  unfold jb
  cases decide (op=2)<;>rfl
 ·cases hh
noncomputable def Uj(κ:Kp):Env:=(SC κ).aH 73 W7
theorem eKb(κ:Kp):aB (Uj κ):=(eKa κ).aH (Z7 κ) (pKb κ)
theorem ZB(κ:Kp):aj (Uj κ):=(Z7 κ).aH
theorem yKc(κ:Kp)(a:LA)(K:AV->List Dn.Obj->Prop):(a8 (Uj κ) 12 115 [a.av] [] K)=(
 aD (decide (a.op<(3:Int))) (K (AV.bool true) []) (K (AV.bool (decide (a.op>(6:Int)))) [])):=by kernel_rfl
def Xq:List AV->Option (Bool×AV)
 |[.agg [.lit (.int .i64 op), .agg [.lit (.string _), .ad 56 _], .agg [.lit (.int .i64 _), .lit (.string _), .lit (.int .i64 _), .ad 56 _], .agg [.lit (.int .i64 _), .lit (.string _), .lit (.int .i64 _), .ad 56 _]]]=>some (true, .bool (dH op))
 |_=>none
theorem pKc(κ:Kp):cU (Uj κ) 12 115 Xq:=by
 intro args x hh
 unfold Xq at hh
 split at hh
 ·rename_i op s l o1 s1 n1 l1 o2 s2 n2 l2
  simp only[aa4,ab0,true_and] at hh
  subst hh
  refine⟨_,rfl,rfl,Eq.mpr (yKc κ ⟨op,s,l,o1,s1,n1,l1,o2,s2,n2,l2⟩ _) ?_⟩
  unfold dH
  simp only
  cases decide (op<3)<;>rfl
 ·cases hh
noncomputable def N8(κ:Kp):Env:=(Uj κ).aH 115 Xq
theorem eKc(κ:Kp):aB (N8 κ):=(eKb κ).aH (ZB κ) (pKc κ)
theorem ZW(κ:Kp):aj (N8 κ):=(ZB κ).aH
theorem xKd(κ:Kp)(l:List AV)(k i:Int)(I:Nat->S->Prop)(n:Nat)(K:Exit->S->Prop):(vc (N8 κ) 12 97 none 0 (af (Pr κ).toProgram 97 2) (sp 19 [(0, .ad 3 l),(1, .int k),(7, .int l.length),(8, .int i)] []) (bK (N8 κ) 97 2 0 I n K))=(
 letI z1:=i<(↑(l.length):Int)
 aD (decide z1) (aX (decide ((0:Int)<=i)&&decide z1) (aD (k==toInt (nth l i.toNat)) (K Exit.ret (sp 19 [(4,AV.int i)] [])) (∃(e0:Nat),e0<n/\I e0
 (sp 19 [(0,AV.ad 3 l),(1,AV.int k),(7,AV.int (↑(l.length):Int)),(8,AV.int (IntKind.wrap IntKind.i64 (i+(1:Int))))] [])))) (K (Exit.exit 0) (sp 19
 [] []))):=by kernel_rfl
def gX(k:Int):List AV->Int->Int
 |[],_=> -1
 |a::l,i=>bif decide (k=toInt a) then i else gX k l (i+1)
abbrev VC(a:List AV×Int×Int):S:=sp 19 [(0, .ad 3 a.1),(1, .int a.2.1),(7, .int a.1.length),(8, .int a.2.2)] []
def Lu(a:List AV×Int×Int):Prop:=a.1.length<=aR/\0<=a.2.2/\a.2.2<=a.1.length
def Gt(a:List AV×Int×Int):Out (Exit×S):= .aD (decide (gX a.2.1 (a.1.drop a.2.2.toNat) a.2.2>=0)) (.one (.ret,sp 19 [(4, .int (gX a.2.1 (a.1.drop a.2.2.toNat) a.2.2))] [])) (.one (.exit 0,sp 19 [] []))
theorem lKd(κ:Kp):bj (N8 κ) 12 97 2 (aO 0 VC Lu Gt):=by
 refine aK (fun a=>a.1.length - a.2.2.toNat) ?_
 rintro⟨l,s,i⟩ K ⟨h1,h2,h3⟩ ho
 simp only at h1 h2 h3
 rw[show(N8 κ).P=Pr κ from rfl]
 refine Eq.mpr (xKd κ l s i _ _ K) ?_
 simp only[aR] at h1
 simp only[Gt,Out.run,ah] at ho
 simp only[ah,aq,aa1,aa3,aa2,beq_iff_eq,beq_eq_false_iff_ne]
 refine⟨fun hi=>⟨⟨h2,hi⟩,fun e=>?_,fun e=>?_⟩,fun hi=>?_⟩
 ·rw[ab2 (show i.toNat<l.length by omega),←bf l i.toNat (by omega),gX,aa7 e,aa8,aa7 (show i>=0 from h2)] at ho
  exact ho.1 rfl
 ·rw[aW (n:=i+1) (by omega) (by omega)]
  refine⟨_,?_,(l,s,i+1),rfl,⟨by simpa[aR] using h1,by simp only;omega,by simp only;omega⟩,rfl,?_⟩
  ·simp only;omega
  ·rw[ab2 (show i.toNat<l.length by omega),←bf l i.toNat (by omega),gX,aa5 e,aa6] at ho
   simp only[Gt,Out.run,ah,show(i+1).toNat=i.toNat+1 by omega]
   exact ho
 ·rw[aa9 (by omega)] at ho
  exact ho.2 rfl
noncomputable def T6(κ:Kp):Env:=(N8 κ).ak 97 2 (aO 0 VC Lu Gt)
theorem eKd(κ:Kp):aB (T6 κ):=(eKc κ).ak (ZW κ) (lKd κ)
theorem Zq(κ:Kp):aj (T6 κ):=(ZW κ).ak aG
theorem yKe(κ:Kp)(l:List AV)(k:Int)(K:AV->List Dn.Obj->Prop):(a8 (T6 κ) 12 97 [.ad 3 l, .int k] [] K)=(
 af (Pg.toProgram (Env.P (N8 κ))) 97 2=af (Pg.toProgram (Env.P (N8 κ))) 97 2/\∃(a:List AV×Int×Int),sp 19 [(0,AV.ad 3 l),(1,AV.int k),
 (7,AV.int (↑(l.length):Int)),(8,AV.int 0)] []=sp 19 [(0,AV.ad 3 a.1),(1,AV.int a.2.1),(7,AV.int (↑(a.1.length):Int)),(8,AV.int a.2.2)] []/\
 (a.1.length<=9223372036854775807/\(0:Int)<=a.2.2/\a.2.2<=(↑(a.1.length):Int))/\aD (decide (gX a.2.1 (List.drop (Int.toNat a.2.2) a.1) a.2.2>=(0
 :Int))) (K (AV.int (gX a.2.1 (List.drop (Int.toNat a.2.2) a.1) a.2.2)) []) (K (AV.int (-1)) [])):=by kernel_rfl
def X3:List AV->Option (Bool×AV)
 |[.ad 3 l, .lit (.int .i64 k)]=>some (decide (l.length<=aR), .int (gX k l 0))
 |_=>none
theorem uv(s:Int): ∀(l:List AV) (i:Int),¬ gX s l i>=0->0<=i->gX s l i= -1
 |[],_,_,_=>rfl
 |a::l,i,h,h0=>by
  simp only[gX] at h⊢
  cases e:decide (s=toInt a) with
  |true=>rw[e] at h;exact absurd h0 h
  |false=>rw[e] at h;exact uv s l (i+1) h (by omega)
theorem pKe(κ:Kp):cU (T6 κ) 12 97 X3:=by
 intro args x hh
 unfold X3 at hh
 split at hh
 ·rename_i l s
  simp only[aa4,ab0,aa1] at hh
  obtain⟨h1,rfl⟩:=hh
  refine⟨_,rfl,rfl,?_⟩
  refine Eq.mpr (yKe κ l s _) ?_
  refine⟨rfl,(l,s,0),rfl,⟨h1,by simp only;omega,by simp only;omega⟩,?_⟩
  simp only[ab8,ab1,ah,aa1,aa3]
  exact⟨fun _=>trivial,fun e=>by rw[uv s l 0 e (by omega)]⟩
 ·cases hh
noncomputable def UN(κ:Kp):Env:=(T6 κ).aH 97 X3
theorem eKe(κ:Kp):aB (UN κ):=(eKd κ).aH (Zq κ) (pKe κ)
theorem mKe(κ:Kp):aj (UN κ):=(Zq κ).aH
theorem yKf(κ:Kp)(l:List AV)(k:Int)(K:AV->List Dn.Obj->Prop):(a8 (UN κ) 12 57 [.ad 3 l, .int k] [] K)=(
 aX (decide (l.length<=9223372036854775807)) (K (AV.bool (decide (gX k l (0:Int)>=(0:Int)))) [])):=by kernel_rfl
def Sp(k:Int)(l:List AV):Bool:=decide (gX k l 0>=0)
def Xr:List AV->Option (Bool×AV)
 |[.ad 3 l, .lit (.int .i64 k)]=>some (decide (l.length<=aR), .bool (Sp k l))
 |_=>none
theorem pKf(κ:Kp):cU (UN κ) 12 57 Xr:=by
 intro args x hh
 unfold Xr at hh
 split at hh
 ·rename_i l s
  simp only[aa4,ab0,aa1] at hh
  obtain⟨h1,rfl⟩:=hh
  refine⟨_,rfl,rfl,?_⟩
  refine Eq.mpr (yKf κ l s _) ?_
  rw[aq,aa1]
  exact⟨h1,rfl⟩
 ·cases hh
noncomputable def N9(κ:Kp):Env:=(UN κ).aH 57 Xr
theorem eKf(κ:Kp):aB (N9 κ):=(eKe κ).aH (mKe κ) (pKf κ)
theorem Y3(κ:Kp):aj (N9 κ):=(mKe κ).aH
theorem xJ(k:Int): ∀(l:List Int) (i:Int),0<=i->(gX k (iA l) i>=0↔k∈l)
 |[],_,_=>by simp[iA,gX]
 | a::l,i,h0=>by
  have ih:=xJ k l (i+1) (by omega)
  simp only[iA,ac1,gX] at ih⊢
  by_cases h:k=a
  ·rw[show decide (k=toInt (AV.lit (.int .i64 a)))=true from aa7 h,aa8]
   exact⟨fun _=>by simp[h],fun _=>h0⟩
  ·rw[show decide (k=toInt (AV.lit (.int .i64 a)))=false from aa5 h,aa6,ih]
   simp[h]
theorem Ey(k:Int)(l:List Int):Sp k (iA l)=l.contains k:=by
 unfold Sp
 rw[Bool.eq_iff_iff,aa1,xJ k l 0 (by omega)]
 simp
def Eo(ds:List AV)(a:Int):List AV->List (Int×Int)
 |[]=>[]
 |l::bl=>bif dH (toInt (ae l 0)) then(a,bw (toStr (ae (ae l 1) 0)) ds)::Eo ds a bl else Eo ds a bl
def ZF(ds:List AV)(r:AV):List (Int×Int):=Eo ds (bw (toStr (ae (ae r 0) 0)) ds) (ai (ae r 1))
def wU(ds rs:List AV):List (Int×Int):=rs.flatMap (ZF ds)
def A7(E:List (Int×Int)):List AV:=E.map fun e=> .bh [.int e.1, .int e.2]
theorem OS(E F:List (Int×Int)):A7 (E++F)=A7 E++A7 F:=by simp[A7]
structure M1 where
 ds:List AV
 rs:List AV
 xs:List AV
 more:List AV
 bl:List AV
 a:Int
 i:Int
 j:Int
abbrev Lp(x:M1):S:=sp 53 [(0, .cD 0),(1, .ptr 1 0 [] 0),(5, .int x.a),(12, .ad 66 x.rs),(13, .int x.rs.length),(14, .int x.i),(28, .ad 72 x.bl),(29, .int x.bl.length),(30, .int x.j)] [.ext (some x.xs), .box 25 (gJ x.ds x.rs)]
theorem xKg(κ:Kp)(x:M1)(I:Nat->S->Prop)(n:Nat)(K:Exit->S->Prop):(vc (N9 κ) 12 114 none 2 (af (Pr κ).toProgram 114 5) (Lp x) (bK (N9 κ) 114 5 2 I n K))=(
 letI z1:=AV.agg [AV.ad 61 x.ds,AV.ad 66 x.rs]
 letI z2:=IntKind.wrap IntKind.i64 (x.j+(1:Int))
 letI z3:=x.bl.length
 aD (decide (x.j<(↑z3:Int))) (aX (decide ((0:Int)<=x.j)&&decide (x.j<(↑z3:Int))) (aD (!dH (toInt (ae (nth x.bl x.j.toNat) 0))) (∃(e0:Nat),e0<n
 /\I e0 (sp 53 [(0,AV.cD 0),(1,AV.ptr 1 0 [] 0),(5,AV.int x.a),(12,AV.ad 66 x.rs),(13,AV.int (↑(x.rs.length):Int)),(14,AV.int x.i),(28,AV.ad 72
 x.bl),(29,AV.int (↑z3:Int)),(30,AV.int z2)] [Obj.ext (some x.xs),Obj.box 25 z1])) (∃(e2:List AV×ByteArray),([AV.ad 61 x.ds,AV.str (toStr (ae (ae
 (nth x.bl x.j.toNat) 1) 0))],aI)=([AV.ad 61 e2.1,AV.str e2.2],aI)/\gK e2/\∃(e1:List AV),x.xs=AV.bh [AV.int x.a,AV.int (bw e2.2 e2.1)]::e1/\(∃
 (e0:Nat),e0<n/\I e0 (sp 53 [(0,AV.cD 0),(1,AV.ptr 1 0 [] 0),(5,AV.int x.a),(12,AV.ad 66 x.rs),(13,AV.int (↑(x.rs.length):Int)),(14,AV.int
 x.i),(28,AV.ad 72 x.bl),(29,AV.int (↑z3:Int)),(30,AV.int z2)] [Obj.ext (some e1),Obj.box 25 z1]))/\K Exit.ret (sp 53 [] [Obj.ext none,Obj.box 25
 z1])))) (K (Exit.exit 2) (sp 53 [(0,AV.cD 0),(1,AV.ptr 1 0 [] 0),(12,AV.ad 66 x.rs),(13,AV.int (↑(x.rs.length):Int)),(14,AV.int x.i)] [Obj.ext (some
 x.xs),Obj.box 25 z1]))):=by kernel_rfl
def Fb(x:M1):Prop:=x.ds.length<=aR/\x.bl.length<=aR/\0<=x.j/\x.j<=x.bl.length/\x.xs=A7 (Eo x.ds x.a (x.bl.drop x.j.toNat))++x.more
def JI(x:M1):Out (Exit×S):= .all (fun _:Bool=>True) fun b=> .aD b
 (.one (.exit 2,sp 53 [(0, .cD 0),(1, .ptr 1 0 [] 0),(12, .ad 66 x.rs),(13, .int x.rs.length),(14, .int x.i)] [.ext (some x.more), .box 25 (gJ x.ds x.rs)]))
 (.one (.ret,sp 53 [] [.ext none, .box 25 (gJ x.ds x.rs)]))
theorem Jr(ds:List AV)(a:Int)(bl:List AV)(k:Nat)(h:k<bl.length):Eo ds a (bl.drop k)=bif dH (toInt (ae (nth bl k) 0)) then(a,bw (toStr (ae (ae (nth bl k) 1) 0)) ds)::Eo ds a (bl.drop (k+1)) else Eo ds a (bl.drop (k+1)):=by
 rw[ab2 h,←bf bl k h,Eo]
theorem lKg(κ:Kp):bj (N9 κ) 12 114 5 (aO 2 Lp Fb JI):=by
 refine aK (fun x=>x.bl.length - x.j.toNat) ?_
 rintro⟨ds,rs,xs,more,bl,a,i,j⟩ K ⟨h0,h1,h2,h3,h4⟩ ho
 simp only at h0 h1 h2 h3 h4
 rw[show(N9 κ).P=Pr κ from rfl]
 refine Eq.mpr (xKg κ ⟨ds,rs,xs,more,bl,a,i,j⟩ _ _ K) ?_
 simp only[aR] at h1
 have ho1:=ho true trivial
 have ho2:=ho false trivial
 simp only[Out.run,aD] at ho1 ho2
 simp only[ah,aq,aa1,aa3,aa2]
 refine⟨fun hj=>⟨⟨h2,hj⟩,?_⟩,fun hj=>?_⟩
 ·have hd:=Jr ds a bl j.toNat (by omega)
  rw[hd] at h4
  rw[aW (n:=j+1) (by omega) (by omega)]
  have next: ∀ys,ys=A7 (Eo ds a (bl.drop (j.toNat+1)))++more->∃m,m<bl.length - j.toNat/\fq Lp Fb JI (fun x=>x.bl.length - x.j.toNat) K m (Lp ⟨ds,rs,ys,more,bl,a,i,j+1⟩):=fun ys hy=>by
   refine⟨_,?_,⟨ds,rs,ys,more,bl,a,i,j+1⟩,rfl,⟨h0,by simpa[aR] using h1,by simp only;omega,by simp only;omega,?_⟩,rfl,ho⟩
   ·simp only;omega
   ·simp only[show(j+1).toNat=j.toNat+1 by omega];exact hy
  refine⟨fun e=>?_,fun e=>?_⟩
  ·rw[show dH (toInt (ae (nth bl j.toNat) 0))=false by simpa using e] at h4
   exact next _ h4
  ·rw[show dH (toInt (ae (nth bl j.toNat) 0))=true by simpa using e] at h4
   exact⟨(ds,toStr (ae (ae (nth bl j.toNat) 1) 0)),rfl,h0,_,h4,next _ rfl,ho2⟩
 ·rw[aa9 (by omega)] at h4
  have h4:xs=more:=h4
  subst h4
  exact ho1
noncomputable def O1(κ:Kp):Env:=(N9 κ).ak 114 5 (aO 2 Lp Fb JI)
theorem eKg(κ:Kp):aB (O1 κ):=(eKf κ).ak (Y3 κ) (lKg κ)
theorem ZN(κ:Kp):aj (O1 κ):=(Y3 κ).ak aG
abbrev OD(x:M1):S:=sp 53 [(0, .cD 0),(1, .ptr 1 0 [] 0),(12, .ad 66 x.rs),(13, .int x.rs.length),(14, .int x.i)] [.ext (some x.xs), .box 25 (gJ x.ds x.rs)]
theorem xKh(κ:Kp)(x:M1)(I:Nat->S->Prop)(n:Nat)(K:Exit->S->Prop):(vc (O1 κ) 12 114 none 2 (af (Pr κ).toProgram 114 1) (OD x) (bK (O1 κ) 114 1 2 I n K))=(
 letI z1:=AV.agg [AV.ad 61 x.ds,AV.ad 66 x.rs]
 letI z2:=nth x.rs x.i.toNat
 letI z3:=x.i<(↑(x.rs.length):Int)
 letI z4:=Pg.toProgram (Env.P (N9 κ))
 aD (decide z3) (aX (decide ((0:Int)<=x.i)&&decide z3) (∃(e3:List AV×ByteArray),([AV.ad 61 x.ds,AV.str (toStr (ae (ae z2 0) 0))],aI)=([AV.ad 61
 e3.1,AV.str e3.2],aI)/\gK e3/\af z4 114 5=af z4 114 5/\∃(e2:M1),sp 53 [(0,AV.cD 0),(1,AV.ptr 1 0 [] 0),(5,AV.int (bw e3.2 e3.1)),(12,AV.ad 66
 x.rs),(13,AV.int (↑(x.rs.length):Int)),(14,AV.int x.i),(28,AV.ad 72 (ai (ae z2 1))),(29,AV.int (↑(List.length (ai (ae z2 1))):Int)),(30,AV.int 0)]
 [Obj.ext (some x.xs),Obj.box 25 z1]=sp 53 [(0,AV.cD 0),(1,AV.ptr 1 0 [] 0),(5,AV.int e2.a),(12,AV.ad 66 e2.rs),(13,AV.int (↑(e2.rs.length):Int)),
 (14,AV.int e2.i),(28,AV.ad 72 e2.bl),(29,AV.int (↑(e2.bl.length):Int)),(30,AV.int e2.j)] [Obj.ext (some e2.xs),Obj.box 25 (AV.agg [AV.ad 61 e2.ds,
 AV.ad 66 e2.rs])]/\(e2.ds.length<=9223372036854775807/\e2.bl.length<=9223372036854775807/\(0:Int)<=e2.j/\e2.j<=(↑(e2.bl.length):Int)/\e2.xs=A7
 (Eo e2.ds e2.a (List.drop e2.j.toNat e2.bl))++e2.more)/\∀(e1:Bool),True->aD e1 (∃(e0:Nat),e0<n/\I e0 (sp 53 [(0,AV.cD 0),(1,AV.ptr 1 0 [] 0),
 (12,AV.ad 66 e2.rs),(13,AV.int (↑(e2.rs.length):Int)),(14,AV.int (IntKind.wrap IntKind.i64 (e2.i+(1:Int))))] [Obj.ext (some e2.more),Obj.box 25
 (AV.agg [AV.ad 61 e2.ds,AV.ad 66 e2.rs])])) (K Exit.ret (sp 53 [] [Obj.ext none,Obj.box 25 (AV.agg [AV.ad 61 e2.ds,AV.ad 66 e2.rs])])))) (K (Exit.exit 0) (sp
 53 [] [Obj.ext (some x.xs),Obj.box 25 z1]))):=by kernel_rfl
def Kc(rs:List AV):Prop:=∀r,r∈rs->(ai (ae r 1)).length<=aR
def DQ(x:M1):Prop:=x.ds.length<=aR/\x.rs.length<=aR/\Kc x.rs/\0<=x.i/\x.i<=x.rs.length/\x.xs=A7 (wU x.ds (x.rs.drop x.i.toNat))
def Ma(x:M1):Out (Exit×S):= .all (fun _:Bool=>True) fun b=> .aD b
 (.one (.exit 0,sp 53 [] [.ext (some []), .box 25 (gJ x.ds x.rs)]))
 (.one (.ret,sp 53 [] [.ext none, .box 25 (gJ x.ds x.rs)]))
theorem lKh(κ:Kp):bj (O1 κ) 12 114 1 (aO 2 OD DQ Ma):=by
 refine aK (fun x=>x.rs.length - x.i.toNat) ?_
 rintro⟨ds,rs,xs,more,bl,a,i,j⟩ K ⟨h0,h1,h5,h2,h3,h4⟩ ho
 simp only at h0 h1 h2 h3 h4 h5
 rw[show(O1 κ).P=Pr κ from rfl]
 refine Eq.mpr (xKh κ ⟨ds,rs,xs,more,bl,a,i,j⟩ _ _ K) ?_
 simp only[aR] at h1
 have ho1:=ho true trivial
 have ho2:=ho false trivial
 simp only[Out.run,aD] at ho1 ho2
 simp only[ah,aq,aa1,aa3,aa2]
 refine⟨fun hi=>⟨⟨h2,hi⟩,(ds,toStr (ae (ae (nth rs i.toNat) 0) 0)),rfl,h0,?_⟩,fun hi=>?_⟩
 ·have hk:i.toNat<rs.length:=by omega
  rw[wU,ab2 hk,←bf rs i.toNat hk,List.flatMap_cons,OS] at h4
  refine⟨trivial,⟨ds,rs,xs,A7 (wU ds (rs.drop (i.toNat+1))),ai (ae (nth rs i.toNat) 1),bw (toStr (ae (ae (nth rs i.toNat) 0) 0)) ds,i,0⟩,rfl,⟨h0,?_,by simp only;omega,by simp only;omega,h4⟩,?_⟩
  ·exact h5 _ (by rw[bf _ _ hk];exact List.getElem_mem _)
  ·intro y _
   refine⟨fun _=>?_,fun _=>ho2⟩
   ·show∃m,m<rs.length - i.toNat/\fq OD DQ Ma (fun x=>x.rs.length - x.i.toNat) K m (sp 53 [(0, .cD 0),(1, .ptr 1 0 [] 0),(12, .ad 66 rs),(13, .int rs.length),(14, .int (IntKind.wrap IntKind.i64 (i+1)))] [.ext (some (A7 (wU ds (rs.drop (i.toNat+1))))), .box 25 (gJ ds rs)])
    rw[aW (n:=i+1) (by omega) (by omega)]
    refine⟨_,?_,⟨ds,rs,_,more,bl,a,i+1,j⟩,rfl,⟨h0,by simpa[aR] using h1,h5,by simp only;omega,by simp only;omega,?_⟩,rfl,ho⟩
    ·simp only;omega
    ·simp only[show(i+1).toNat=i.toNat+1 by omega];rfl
 ·rw[aa9 (by omega)] at h4
  have h4:xs=[]:=h4
  subst h4
  exact ho1
noncomputable def SJ(κ:Kp):Env:=(O1 κ).ak 114 1 (aO 2 OD DQ Ma)
theorem eKh(κ:Kp):aB (SJ κ):=(eKg κ).ak (ZN κ) (lKh κ)
theorem ZA(κ:Kp):aj (SJ κ):=(ZN κ).ak aG
theorem yKi(κ:Kp)(ds rs xs:List AV)(K:AV->List Dn.Obj->Prop):(a8 (SJ κ) 12 114 [.cD 0, .ptr 1 0 [] 0] [.ext (some xs), .box 25 (gJ ds rs)] K)=(
 af (Pg.toProgram (Env.P (O1 κ))) 114 1=af (Pg.toProgram (Env.P (O1 κ))) 114 1/\∃(a:M1),sp 53 [(0,AV.cD 0),(1,AV.ptr 1 0 [] 0),(12,
 AV.ad 66 rs),(13,AV.int (↑(rs.length):Int)),(14,AV.int 0)] [Obj.ext (some xs),Obj.box 25 (AV.agg [AV.ad 61 ds,AV.ad 66 rs])]=sp 53 [(0,AV.cD 0),
 (1,AV.ptr 1 0 [] 0),(12,AV.ad 66 a.rs),(13,AV.int (↑(a.rs.length):Int)),(14,AV.int a.i)] [Obj.ext (some a.xs),Obj.box 25 (AV.agg [AV.ad 61 a.ds,
 AV.ad 66 a.rs])]/\(a.ds.length<=9223372036854775807/\a.rs.length<=9223372036854775807/\(∀(r:AV),List.Mem r a.rs->List.length (ai (ae r 1))<=
 9223372036854775807)/\(0:Int)<=a.i/\a.i<=(↑(a.rs.length):Int)/\a.xs=A7 (wU a.ds (List.drop a.i.toNat a.rs)))/\∀(y:Bool),True->aD y (K
 (AV.bh []) [Obj.ext (some []),Obj.box 25 (AV.agg [AV.ad 61 a.ds,AV.ad 66 a.rs])]) (K (AV.bh []) [Obj.ext none,Obj.box 25 (AV.agg [AV.ad 61 a.ds,AV.ad
 66 a.rs])])):=by kernel_rfl
def QG(x:rT):List AV×List Dn.Obj:=([.cD 0, .ptr 1 0 [] 0],[.ext (some (A7 (wU x.1 x.2))), .box 25 (gJ x.1 x.2)])
def Fh(x:rT):Prop:=x.1.length<=aR/\x.2.length<=aR/\Kc x.2
def Lx(_:rT):Out (AV×List Dn.Obj):= .all (fun st'=>rA st') fun st'=> .one (.bh [],st')
theorem cKi(κ:Kp):bt (SJ κ) 12 114 (aL QG Fh Lx):=by
 refine aZ ?_
 rintro⟨ds,rs⟩ K ⟨h1,h2,h3⟩ ho
 refine Eq.mpr (yKi κ ds rs (A7 (wU ds rs)) K) ?_
 refine⟨rfl,⟨ds,rs,A7 (wU ds rs),[],[],0,0,0⟩,rfl,⟨h1,h2,h3,by simp only;omega,by simp only;omega,rfl⟩,fun y _=>?_⟩
 cases y
 ·exact ho _ trivial
 ·exact ho _ trivial
set_option maxRecDepth 20000 in
noncomputable def zS(κ:Kp):Env:=(SJ κ).ax 114 (aL QG Fh Lx)
theorem eKi(κ:Kp):aB (zS κ):=(eKh κ).ax (ZA κ) (cKi κ)
theorem mKi(κ:Kp):aj (zS κ):=(ZA κ).ax aJ
end Go.Proofs.YthaiinlfnommnaaGreatDoor
namespace Go.Proofs.YthaiinlfnommnaaGreatDoor
open Go Go.Dn Go.Rl Go.Proofs
theorem qC{f:AV->Int}: ∀{rs:List AV},(FO f rs).2=0↔ ∀x,x∈rs->f x=0
 |[]=>by simp[FO]
 |x::l=>by
  rw[FO]
  by_cases h:f x=0
  ·rw[aa7 h,aa8,qC];simp[h]
  ·rw[aa5 h,aa6];simp[h]
theorem zH{ds rs:List AV}:(fH ds rs).2=0↔eW ds rs=true/\(Qa ds ds 0).2=0/\(∀x,x∈rs->jJ ds x=0)/\∀x,x∈rs->jk x=0:=by
 unfold fH vn
 cases eW ds rs with
 |false=>simp
 | true=>
  simp only[aa8,true_and]
  by_cases h:(Qa ds ds 0).2=0
  ·rw[aa7 h,aa8]
   by_cases h2:(FO (jJ ds) rs).2=0
   ·rw[aa7 h2,aa8,qC]
    exact⟨fun h3=>⟨h,qC.1 h2,h3⟩,fun h3=>h3.2.2⟩
   ·rw[aa5 h2,aa6]
    exact⟨fun h3=>absurd h3 h2,fun h3=>absurd (qC.2 h3.2.1) h2⟩
  ·rw[aa5 h,aa6,aa5 h,aa6]
   exact⟨fun h3=>absurd h3 h,fun h3=>absurd h3.1 h⟩
theorem Kl{ds:List AV}{a:At}(h:known (cH ds) a=0):0<=bw a.rel ds/\bw a.rel ds<ds.length:=by
 unfold known at h
 cases e:j5 a.rel (cH ds) with
 |none=>rw[e] at h;cases h
 |some k=>obtain⟨_,h2,h3⟩:=rj e;rw[h2];omega
theorem U8{ds:List AV}{r:cm}(h:(sI (ds,r)).1=0):jT (cH ds) (aF r)=0:=by
 by_cases e:jT (cH ds) (aF r)=0
 ·exact e
 ·exfalso
  have hr: ∀n,(fO getM gu (cH ds) (aF r) (n+1) []).1=jT (cH ds) (aF r):=fun n=>by
   rw[fO,Cm _ _ _ e,aa5 e,aa6]
  unfold sI pV at h
  simp only[hr,aa5 e,aa6] at h
  exact e h
theorem wL{ds:List Dc}: ∀{b:List Lt},iV ds b=0->∀l,l∈b->Rl.dH l=true->known ds l.a=0
 |[],_,_,h,_=>nomatch h
 | x::b,hk,l,hl,ha=>by
  rw[iV] at hk
  cases e:Rl.dH x&& !decide (known ds x.a=0) with
  |true=>
   rw[e,aa8] at hk
   rw[hk] at e;simp at e
  |false=>
   rw[e,aa6] at hk
   rcases List.mem_cons.1 hl with rfl|hl
   ·rw[ha] at e;simpa using e
   ·exact wL hk l hl ha
theorem BR{ds rs:List AV}(h:(fH ds rs).2=0){r:AV}(hr:r∈rs):(0<=bw (toStr (ae (ae r 0) 0)) ds/\bw (toStr (ae (ae r 0) 0)) ds<ds.length)/\
  ∀l,l∈ai (ae r 1)->dH (toInt (ae l 0))=true->0<=bw (toStr (ae (ae l 1) 0)) ds/\bw (toStr (ae (ae l 1) 0)) ds<ds.length:=by
 obtain⟨h1,_,h2,_⟩:=zH.1 h
 have ht:=h2 r hr
 have hk:jT (cH ds) (aF (ez r))=0:=by
  refine U8 ?_
  unfold jJ at ht
  cases e:eW ds [ar (ez r)] with
  |true=>rw[e,aa8] at ht;exact ht
  |false=>rw[e,aa6] at ht;cases ht
 unfold jT at hk
 cases e:decide (known (cH ds) (aF (ez r)).head=0) with
 |false=>rw[e,aa6] at hk;simp[hk] at e
 |true=>
  rw[e,aa8] at hk
  refine⟨Kl (a:=(aF (ez r)).head) (by simpa using e),fun l hl ha=>?_⟩
  have hm:cK l∈(aF (ez r)).body:=List.mem_map_of_mem hl
  refine Kl (a:=(cK l).a) (wL hk _ hm ?_)
  have e1:(cK l).op=toInt (ae l 0):=rfl
  unfold Rl.dH
  rw[e1]
  unfold dH at ha
  cases h3:decide (toInt (ae l 0)<3) with
  |true=>rfl
  |false=>rw[h3,aa6] at ha;simpa using ha
theorem y9{ds:List AV}{a:Int}{e:Int×Int}: ∀{bl:List AV},e∈Eo ds a bl↔ ∃l,l∈bl/\dH (toInt (ae l 0))=true/\e=(a,bw (toStr (ae (ae l 1) 0)) ds)
 |[]=>by simp[Eo]
 | x::bl=>by
  rw[Eo]
  cases h:dH (toInt (ae x 0)) with
  | true=>
   rw[aa8,ac3,y9]
   constructor
   ·rintro(rfl|⟨l,h1,h2⟩)
    ·exact⟨x,by simp,h,rfl⟩
    ·exact⟨l,by simp[h1],h2⟩
   ·rintro⟨l,h1,h2,h3⟩
    rcases List.mem_cons.1 h1 with rfl|h1
    ·exact .inl h3
    ·exact .inr ⟨l,h1,h2,h3⟩
  | false=>
   rw[aa6,y9]
   constructor
   ·rintro⟨l,h1,h2⟩
    exact⟨l,by simp[h1],h2⟩
   ·rintro⟨l,h1,h2,h3⟩
    rcases List.mem_cons.1 h1 with rfl|h1
    ·rw[h] at h2;cases h2
    ·exact⟨l,h1,h2,h3⟩
theorem FX{ds rs:List AV}{e:Int×Int}:e∈wU ds rs↔ ∃r,r∈rs/\∃l,l∈ai (ae r 1)/\dH (toInt (ae l 0))=true/\e=(bw (toStr (ae (ae r 0) 0)) ds,bw (toStr (ae (ae l 1) 0)) ds):=by
 unfold wU
 rw[List.mem_flatMap]
 exact exists_congr fun r=>and_congr_right fun _=>y9
def VA(ds rs:List AV):Prop:=∀e,e∈wU ds rs->(0<=e.1/\e.1<ds.length)/\0<=e.2/\e.2<ds.length
theorem Vh{ds rs:List AV}(h:(fH ds rs).2=0):VA ds rs:=by
 intro e he
 obtain⟨r,h1,l,h2,h3,rfl⟩:=FX.1 he
 have:=BR h h1
 exact⟨this.1,this.2 l h2 h3⟩
end Go.Proofs.YthaiinlfnommnaaGreatDoor
namespace Go.Rl
open Go Go.Dn
theorem sh(D:List Int)(b:Int): ∃t td,D++[b]=t::td/\(t::td).dropLast=D/\eK (t::td)=b:=by
 cases D with
 |nil=>exact⟨b,[],rfl,rfl,rfl⟩
 | cons t D=>
  refine⟨t,D++[b],rfl,?_,?_⟩
  ·rw[←List.cons_append,List.dropLast_concat]
  ·have:=yN (t:=t) (todo:=D++[b])
   rw[←List.cons_append,List.dropLast_concat] at this
   simpa using List.append_inj_right this rfl
theorem yn{n m:Nat}{L:Gr}(hG:WG n m L){D met:List Int}{b:Int}(hs:Sd n m (D++[b]) met):
  uV n m L (D++[b]) met=bif met.contains b then uV n m L D met else uV n m L (D++L.at b) (met++[b]):=by
 obtain⟨t,td,e,e1,e2⟩:=sh D b
 rw[e] at hs⊢
 rw[Ij hG hs,e1,e2]
theorem Sd.S9{n m:Nat}{D met:List Int}{b:Int}(h:Sd n m (D++[b]) met):Sd n m D met/\ms n m D met<ms n m (D++[b]) met:=by
 obtain⟨t,td,e,e1,e2⟩:=sh D b
 rw[e] at h⊢
 have h1:=h.pop
 have h2:=AR n m t td met
 rw[e1] at h1 h2
 exact⟨h1,h2⟩
theorem Sd.Tk{n m:Nat}{L:Gr}(hG:WG n m L){D met:List Int}{b:Int}(h:Sd n m (D++[b]) met)(hn:met.contains b=false):Sd n m (D++L.at b) (met++[b])/\ms n m (D++L.at b) (met++[b])<ms n m (D++[b]) met:=by
 obtain⟨t,td,e,e1,e2⟩:=sh D b
 have hb:=h.ht b (by simp)
 rw[e] at h⊢
 rw[←e2] at hn hb
 have h1:=h.add hG hn
 have h2:=As hG t td met hb hn
 rw[e1,e2] at h1 h2
 exact⟨h1,h2⟩
end Go.Rl
namespace Go.Proofs.YthaiinlfnommnaaGreatDoor
open Go Go.Dn Go.Rl Go.Proofs
attribute [local irreducible] a8 vc
set_option maxRecDepth 20000
abbrev gq(k:Int):Value:= .int .i64 k
def dz(L:Gr):List (List Value):=L.map fun l=>l.map gq
def iC(l:List Int):List (Value×AV):=l.map fun k=>(gq k, .lit (.bool true))
abbrev Sz(l:List Int):AV:= .jE 3 4 (l.map gq) (l.map fun _=> .lit (.bool true))
theorem Hs: ∀(l:List (List Int)) (k:Nat),bW (l.map fun l=>l.map gq) k=(l.getD k []).map gq
 |[],k=>by cases k<;>rfl
 |_::_,0=>rfl
 |_::l,k+1=>by simpa[bW] using Hs l k
theorem l9(L:Gr)(a:Int):bW (dz L) a.toNat=(L.at a).map gq:=Hs L a.toNat
theorem ml(b:Int): ∀l:List Int,dp (iC l) (gq b) (.lit (.bool false))= .lit (.bool (l.contains b))
 |[]=>rfl
 |a::l=>by
  have ih:=ml b l
  simp only[iC,ac1,dp] at ih⊢
  have e:di (gq b) (gq a)=(b==a):=by simp[di]
  rw[e,ih,List.contains_cons]
  cases b==a<;>rfl
theorem qK(b:Int): ∀l:List Int,eX (iC l) (gq b) (.lit (.bool true))=iC (bif l.contains b then l else l++[b])
 |[]=>rfl
 | a::l=>by
  have ih:=qK b l
  simp only[iC,ac1,eX] at ih⊢
  have e:di (gq b) (gq a)=(b==a):=by simp[di]
  rw[e,ih,List.contains_cons]
  cases h:b==a with
  |true=>
   have:b=a:=by simpa using h
   subst this;rfl
  |false=>cases l.contains b<;>rfl
theorem uf(l:List Int):(iC l).map (·.1)=l.map gq:=by simp[iC]
theorem tZ(l:List Int):(iC l).map (·.2)=l.map fun _=> .lit (.bool true):=by simp[iC]
abbrev Mx(ls:List (List Value)):Dn.Obj:= .rows 38 3 ls none
abbrev tJ(n:Nat)(ls:List (List Value))(fs:List AV):List Dn.Obj:=[.box 122 (.agg [.an 1 0 n, .an 2 0 fs.length]),Mx ls, .row 89 fs]
abbrev xn(n:Nat)(ls:List (List Value)):List Dn.Obj:=[.box 122 (.agg [.an 1 0 n, .nil]),Mx ls]
theorem NV(D tl:List AV)(x:AV):nth (D++x::tl) (0+D.length)=x:=by
 rw[Nat.zero_add]
 induction D with
 |nil=>rfl
 |cons a D ih=>exact ih
theorem Gx(D:List Int)(b:Int)(tl:List AV):((D++[b]).length:Int) - 1=D.length/\iA (D++[b])++tl=iA D++AV.int b::tl/\nth (iA D++AV.int b::tl) (0+D.length)=AV.int b/\(iA D++AV.int b::tl).take D.length=iA D/\toInt (AV.int b)=b:=by
 have e2:=NV (iA D) tl (AV.int b)
 rw[fo] at e2
 exact⟨by simp,by simp[iA],e2,List.take_left' (fo D),rfl⟩
theorem BL(L:Gr)(a:Int):(bW (dz L) a.toNat).length=(L.at a).length:=by rw[l9,List.length_map]
theorem DD(L:Gr)(a:Int):List.map AV.lit (List.take (bW (dz L) a.toNat).length (bW (dz L) a.toNat))=iA (L.at a):=by
 rw[List.take_length,l9,List.map_map];rfl
structure M0 where
 n:Nat
 m:Nat
 L:Gr
 fs:List AV
 todo:List Int
 met:List Int
 tl:List AV
def AI(x:M0):Prop:=WG x.n x.m x.L/\Sd x.n x.m x.todo x.met/\(x.n+1)*x.m<=1000000000
def j8(x:M0):List Int:=uV x.n x.m x.L x.todo x.met
theorem xRe(κ:Kp)(N:Nat)(ls:List (List Value))(fs:List AV)(es:List (Value×AV))(ws:List AV)(k:Nat)(I:Nat->S->Prop)(n:Nat)(K:Exit->S->Prop):(vc (zS κ) 12 72 none 3 (af (Pr κ).toProgram 72 3) (sp 48 [(0, .ptr 0 0 [] 0),(5, .mp 3),(6, .an 4 0 k)] (tJ N ls fs++[.map 3 4 es, .row 3 ws])) (bK (zS κ) 72 3 3 I n K))=(
 letI z2:=(↑k:Int) - (1:Int)
 letI z4:=IntKind.wrap IntKind.i64 z2
 letI z1:=nth ws (0+Int.toNat z4)
 letI z5:=AV.agg [AV.an 1 0 N,AV.an 2 0 fs.length]
 letI z6:=(0:Int)<=IntKind.wrap IntKind.i64 z2
 letI z7:=Value.int IntKind.i64 (toInt z1)
 letI z8:=bW ls (Int.toNat (toInt z1))
 letI z3:=List.take (List.length z8) z8
 aD (decide ((↑k:Int)>(0:Int))) (aX (decide z6&&decide (IntKind.wrap IntKind.i64 z2<(↑k:Int))) (aX (decide z6&&decide (IntKind.wrap IntKind.i64 z2
 <=IntKind.wrap IntKind.i64 z2)&&decide (IntKind.wrap IntKind.i64 z2<=(↑k:Int))) (aD (!Dn.toBool (dp es z7 (AV.bool false))) (aX (decide ((0:Int)<=toInt
 z1)&&decide (toInt z1<(↑N:Int))) (aX (decide ((Int.toNat z4+List.length (List.map AV.lit z3)+1)*9<=70368744177664)) (∃(e0:Nat),e0<n/\I e0
 (sp 48 [(0,AV.ptr 0 0 [] 0),(5,AV.mp 3),(6,AV.an 4 0 (Int.toNat z4+List.length (List.map AV.lit z3)))] [Obj.box 122 z5,Obj.rows 38 3 ls none,Obj.row 89
 fs,Dn.Obj.map 3 4 (eX es z7 (AV.bool true)),Obj.row 3 (List.take (Int.toNat z4) ws++List.map AV.lit z3)])))) (∃(e0:Nat),e0<n/\I e0 (sp 48 [(0,AV.ptr
 0 0 [] 0),(5,AV.mp 3),(6,AV.an 4 0 (Int.toNat z4))] [Obj.box 122 z5,Obj.rows 38 3 ls none,Obj.row 89 fs,Dn.Obj.map 3 4 es,Obj.row 3 ws]))))) (K
 (Exit.exit 0) (sp 48 [(5,AV.mp 3)] [Obj.box 122 z5,Obj.rows 38 3 ls none,Obj.row 89 fs,Dn.Obj.map 3 4 es]))):=by kernel_rfl
abbrev QR(x:M0):S:=sp 48 [(0, .ptr 0 0 [] 0),(5, .mp 3),(6, .an 4 0 x.todo.length)] (tJ x.n (dz x.L) x.fs++[.map 3 4 (iC x.met), .row 3 (iA x.todo++x.tl)])
def CF(x:M0):Out (Exit×S):= .one (.exit 0,sp 48 [(5, .mp 3)] (tJ x.n (dz x.L) x.fs++[.map 3 4 (iC (j8 x))]))
theorem lRe(κ:Kp):bj (zS κ) 12 72 3 (aO 3 QR AI CF):=by
 refine aK (fun x=>ms x.n x.m x.todo x.met) ?_
 rintro⟨n,m,L,fs,todo,met,tl⟩ K ⟨hG,hS,hb⟩ ho
 simp only at hG hS hb
 rw[show(zS κ).P=Pr κ from rfl]
 refine Eq.mpr (xRe κ n (dz L) fs (iC met) (iA todo++tl) todo.length _ _ K) ?_
 simp only[CF,j8,Out.run] at ho
 rw[ah,aa1,aa3]
 refine⟨fun h=>?_,fun h=>?_⟩
 ·obtain⟨D,b,rfl⟩: ∃D b,todo=D++[b]:=⟨_,_,(List.dropLast_concat_getLast (by intro e;subst e;simp at h)).symm⟩
  have hle:=hS.le
  have hbr:=hS.ht b (by simp)
  have hlm:=hG.le b
  have hlen:=hG.len
  have hmn:m<=(n+1)*m:=Nat.le_mul_of_pos_left m (Nat.succ_pos n)
  obtain⟨e0,e1,e2,e3,e4⟩:=Gx D b tl
  simp only[ab9,List.length_singleton] at hle
  rw[e0,aW (n:=(D.length:Int)) (by omega) (by omega),e1,Int.toNat_natCast,e2,e3,e4,ml,qK,l9,List.take_length,List.map_map]
  rw[yn hG hS] at ho
  simp only[aq,ah,aa1,aa2,List.length_map,ab9,List.length_singleton,show Dn.toBool (AV.lit (.bool (met.contains b)))=met.contains b from rfl]
  refine⟨⟨by omega,by omega⟩,⟨⟨by omega,by omega⟩,by omega⟩,fun e=>?_,fun e=>?_⟩
  ·have e:met.contains b=false:=by simpa using e
   obtain⟨h1,h2⟩:=hS.Tk hG e
   rw[e,aa6] at ho
   refine⟨⟨by omega,by omega⟩,by omega,_,h2,⟨n,m,L,fs,D++L.at b,met++[b],[]⟩,?_,⟨hG,h1,hb⟩,rfl,?_⟩
   ·rw[e,aa6]
    simp only[QR,List.append_nil,ab9,se]
    rfl
   ·simp only[CF,j8,Out.run]
    exact ho
  ·have e:met.contains b=true:=by simpa using e
   obtain⟨h1,h2⟩:=hS.S9
   rw[e,aa8] at ho
   refine⟨_,h2,⟨n,m,L,fs,D,met,AV.int b::tl⟩,rfl,⟨hG,h1,hb⟩,rfl,?_⟩
   simp only[CF,j8,Out.run]
   exact ho
 ·obtain rfl:todo=[]:=List.eq_nil_of_length_eq_zero (by omega)
  rw[C9] at ho
  exact ho
theorem xRz(κ:Kp)(N:Nat)(ls:List (List Value))(es:List (Value×AV))(ws:List AV)(k:Nat)(I:Nat->S->Prop)(n:Nat)(K:Exit->S->Prop):(vc (zS κ) 12 72 none 2 (af (Pr κ).toProgram 72 3) (sp 48 [(0, .ptr 0 0 [] 0),(5, .mp 2),(6, .an 3 0 k)] (xn N ls++[.map 3 4 es, .row 3 ws])) (bK (zS κ) 72 3 2 I n K))=(
 letI z2:=(↑k:Int) - (1:Int)
 letI z4:=IntKind.wrap IntKind.i64 z2
 letI z1:=nth ws (0+Int.toNat z4)
 letI z5:=AV.agg [AV.an 1 0 N,AV.nil]
 letI z6:=(0:Int)<=IntKind.wrap IntKind.i64 z2
 letI z7:=Value.int IntKind.i64 (toInt z1)
 letI z8:=bW ls (Int.toNat (toInt z1))
 letI z3:=List.take (List.length z8) z8
 aD (decide ((↑k:Int)>(0:Int))) (aX (decide z6&&decide (IntKind.wrap IntKind.i64 z2<(↑k:Int))) (aX (decide z6&&decide (IntKind.wrap IntKind.i64 z2
 <=IntKind.wrap IntKind.i64 z2)&&decide (IntKind.wrap IntKind.i64 z2<=(↑k:Int))) (aD (!Dn.toBool (dp es z7 (AV.bool false))) (aX (decide ((0:Int)<=toInt
 z1)&&decide (toInt z1<(↑N:Int))) (aX (decide ((Int.toNat z4+List.length (List.map AV.lit z3)+1)*9<=70368744177664)) (∃(e0:Nat),e0<n/\I e0
 (sp 48 [(0,AV.ptr 0 0 [] 0),(5,AV.mp 2),(6,AV.an 3 0 (Int.toNat z4+List.length (List.map AV.lit z3)))] [Obj.box 122 z5,Obj.rows 38 3 ls none,Dn.Obj.map
 3 4 (eX es z7 (AV.bool true)),Obj.row 3 (List.take (Int.toNat z4) ws++List.map AV.lit z3)])))) (∃(e0:Nat),e0<n/\I e0 (sp 48 [(0,AV.ptr 0 0 [] 0),(5,
 AV.mp 2),(6,AV.an 3 0 (Int.toNat z4))] [Obj.box 122 z5,Obj.rows 38 3 ls none,Dn.Obj.map 3 4 es,Obj.row 3 ws]))))) (K (Exit.exit 0) (sp 48 [(5,AV.mp 2)]
 [Obj.box 122 z5,Obj.rows 38 3 ls none,Dn.Obj.map 3 4 es]))):=by kernel_rfl
abbrev RV(x:M0):S:=sp 48 [(0, .ptr 0 0 [] 0),(5, .mp 2),(6, .an 3 0 x.todo.length)] (xn x.n (dz x.L)++[.map 3 4 (iC x.met), .row 3 (iA x.todo++x.tl)])
def Cr(x:M0):Out (Exit×S):= .one (.exit 0,sp 48 [(5, .mp 2)] (xn x.n (dz x.L)++[.map 3 4 (iC (j8 x))]))
theorem lRz(κ:Kp):bj (zS κ) 12 72 3 (aO 2 RV AI Cr):=by
 refine aK (fun x=>ms x.n x.m x.todo x.met) ?_
 rintro⟨n,m,L,fs,todo,met,tl⟩ K ⟨hG,hS,hb⟩ ho
 simp only at hG hS hb
 rw[show(zS κ).P=Pr κ from rfl]
 refine Eq.mpr (xRz κ n (dz L) (iC met) (iA todo++tl) todo.length _ _ K) ?_
 simp only[Cr,j8,Out.run] at ho
 rw[ah,aa1,aa3]
 refine⟨fun h=>?_,fun h=>?_⟩
 ·obtain⟨D,b,rfl⟩: ∃D b,todo=D++[b]:=⟨_,_,(List.dropLast_concat_getLast (by intro e;subst e;simp at h)).symm⟩
  have hle:=hS.le
  have hbr:=hS.ht b (by simp)
  have hlm:=hG.le b
  have hlen:=hG.len
  have hmn:m<=(n+1)*m:=Nat.le_mul_of_pos_left m (Nat.succ_pos n)
  obtain⟨e0,e1,e2,e3,e4⟩:=Gx D b tl
  simp only[ab9,List.length_singleton] at hle
  rw[e0,aW (n:=(D.length:Int)) (by omega) (by omega),e1,Int.toNat_natCast,e2,e3,e4,ml,qK,l9,List.take_length,List.map_map]
  rw[yn hG hS] at ho
  simp only[aq,ah,aa1,aa2,List.length_map,ab9,List.length_singleton,show Dn.toBool (AV.lit (.bool (met.contains b)))=met.contains b from rfl]
  refine⟨⟨by omega,by omega⟩,⟨⟨by omega,by omega⟩,by omega⟩,fun e=>?_,fun e=>?_⟩
  ·have e:met.contains b=false:=by simpa using e
   obtain⟨h1,h2⟩:=hS.Tk hG e
   rw[e,aa6] at ho
   refine⟨⟨by omega,by omega⟩,by omega,_,h2,⟨n,m,L,fs,D++L.at b,met++[b],[]⟩,?_,⟨hG,h1,hb⟩,rfl,?_⟩
   ·rw[e,aa6]
    simp only[RV,List.append_nil,ab9,se]
    rfl
   ·simp only[Cr,j8,Out.run]
    exact ho
  ·have e:met.contains b=true:=by simpa using e
   obtain⟨h1,h2⟩:=hS.S9
   rw[e,aa8] at ho
   refine⟨_,h2,⟨n,m,L,fs,D,met,AV.int b::tl⟩,rfl,⟨hG,h1,hb⟩,rfl,?_⟩
   simp only[Cr,j8,Out.run]
   exact ho
 ·obtain rfl:todo=[]:=List.eq_nil_of_length_eq_zero (by omega)
  rw[C9] at ho
  exact ho
def UD(s:S):Bool:=Nat.beq s.st.length 5
noncomputable def RE(κ:Kp):Env:=(zS κ).ak 72 3 (qu UD (aO 3 QR AI CF) (aO 2 RV AI Cr))
theorem eRl(κ:Kp):aB (RE κ):=(eKi κ).ak (mKi κ) (nz (lRe κ) (lRz κ))
theorem ZC(κ:Kp):aj (RE κ):=(mKi κ).ak (kU aG aG)
structure Qv where
 n:Nat
 m:Nat
 L:Gr
 fs:List AV
 a:Int
def Gw(x:Qv):Prop:=WG x.n x.m x.L/\(x.n+1)*x.m<=1000000000/\0<=x.a/\x.a<x.n
theorem yRe(κ:Kp)(N:Nat)(ls:List (List Value))(fs:List AV)(a:Int)(K:AV->List Dn.Obj->Prop):(a8 (RE κ) 12 72 [.ptr 0 0 [] 0, .int a] (tJ N ls fs) K)=(
 letI z2:=Pg.toProgram (Env.P (zS κ))
 letI z3:=List.length (bW ls a.toNat)
 letI z1:=List.take z3 (bW ls a.toNat)
 aX (decide ((0:Int)<=a)&&decide (a<(↑N:Int))) ((Nat.beq z3 0=true->af z2 72 3=af z2 72 3/\∃(e1:M0),sp 48 [(0,AV.ptr 0 0 [] 0),(5,AV.mp 3),
 (6,AV.an 4 0 0)] [Obj.box 122 (AV.agg [AV.an 1 0 N,AV.an 2 0 fs.length]),Obj.rows 38 3 ls none,Obj.row 89 fs,Dn.Obj.map 3 4 [],Obj.row 3 []]=sp 48 [(0,
 AV.ptr 0 0 [] 0),(5,AV.mp 3),(6,AV.an 4 0 e1.todo.length)] [Obj.box 122 (AV.agg [AV.an 1 0 e1.n,AV.an 2 0 e1.fs.length]),Obj.rows 38 3 (dz e1.L) none,
 Obj.row 89 e1.fs,Dn.Obj.map 3 4 (iC e1.met),Obj.row 3 (iA e1.todo++e1.tl)]/\(WG e1.n e1.m e1.L/\Sd e1.n e1.m e1.todo e1.met/\(e1.n+1)*e1.m<=
 1000000000)/\K (AV.jE 3 4 (List.map (fun(e0:Value×AV)=>e0.1) (iC (j8 e1))) (List.map (fun(e0:Value×AV)=>e0.2) (iC (j8 e1)))) [Obj.box 122 (AV.agg
 [AV.an 1 0 e1.n,AV.an 2 0 e1.fs.length]),Obj.rows 38 3 (dz e1.L) none,Obj.row 89 e1.fs])/\aX (decide ((0+List.length (List.map AV.lit z1)+1)*9<=
 70368744177664)) (af z2 72 3=af z2 72 3/\∃(e1:M0),sp 48 [(0,AV.ptr 0 0 [] 0),(5,AV.mp 3),(6,AV.an 4 0 (0+List.length (List.map AV.lit z1)))]
 [Obj.box 122 (AV.agg [AV.an 1 0 N,AV.an 2 0 fs.length]),Obj.rows 38 3 ls none,Obj.row 89 fs,Dn.Obj.map 3 4 [],Obj.row 3 ([]++List.map AV.lit z1)]=sp 48
 [(0,AV.ptr 0 0 [] 0),(5,AV.mp 3),(6,AV.an 4 0 e1.todo.length)] [Obj.box 122 (AV.agg [AV.an 1 0 e1.n,AV.an 2 0 e1.fs.length]),Obj.rows 38 3 (dz e1.L)
 none,Obj.row 89 e1.fs,Dn.Obj.map 3 4 (iC e1.met),Obj.row 3 (iA e1.todo++e1.tl)]/\(WG e1.n e1.m e1.L/\Sd e1.n e1.m e1.todo e1.met/\(e1.n+1)*e1.m<=
 1000000000)/\K (AV.jE 3 4 (List.map (fun(e0:Value×AV)=>e0.1) (iC (j8 e1))) (List.map (fun(e0:Value×AV)=>e0.2) (iC (j8 e1)))) [Obj.box 122 (AV.agg
 [AV.an 1 0 e1.n,AV.an 2 0 e1.fs.length]),Obj.rows 38 3 (dz e1.L) none,Obj.row 89 e1.fs]))):=by kernel_rfl
def Qh(x:Qv):List AV×List Dn.Obj:=([.ptr 0 0 [] 0, .int x.a],tJ x.n (dz x.L) x.fs)
def Fo(x:Qv):Out (AV×List Dn.Obj):= .one (Sz (ij x.n x.m x.L x.a),tJ x.n (dz x.L) x.fs)
theorem cRe(κ:Kp):bt (RE κ) 12 72 (aL Qh Gw Fo):=by
 refine aZ ?_
 rintro⟨n,m,L,fs,a⟩ K ⟨hG,hb,h0,h1⟩ ho
 simp only at hG hb h0 h1
 refine Eq.mpr (yRe κ n (dz L) fs a K) ?_
 simp only[Fo,Out.run,ij] at ho
 have hS:=Sd.start hG h0
 have hle:=hG.le a
 have hmn:m<=(n+1)*m:=Nat.le_mul_of_pos_left m (Nat.succ_pos n)
 rw[DD,fo,BL,aq,aq,aa2,aa1,aa1,aa1]
 refine⟨⟨h0,h1⟩,fun e=>⟨rfl,⟨n,m,L,fs,[],[],[]⟩,rfl,⟨hG,?_,hb⟩,?_⟩,by omega,rfl,⟨n,m,L,fs,L.at a,[],[]⟩,?_,⟨hG,hS,hb⟩,?_⟩
 ·have e:L.at a=[]:=List.eq_nil_of_length_eq_zero (Nat.eq_of_beq_eq_true e)
  have h2:=hS
  rw[e] at h2;exact h2
 ·have e:L.at a=[]:=List.eq_nil_of_length_eq_zero (Nat.eq_of_beq_eq_true e)
  rw[e] at ho
  simp only[uf,tZ]
  exact ho
 ·simp only[List.append_nil,Nat.zero_add]
  rfl
 ·simp only[uf,tZ]
  exact ho
theorem yRz(κ:Kp)(N:Nat)(ls:List (List Value))(a:Int)(K:AV->List Dn.Obj->Prop):(a8 (RE κ) 12 72 [.ptr 0 0 [] 0, .int a] (xn N ls) K)=(
 letI z2:=Pg.toProgram (Env.P (zS κ))
 letI z3:=List.length (bW ls a.toNat)
 letI z1:=List.take z3 (bW ls a.toNat)
 aX (decide ((0:Int)<=a)&&decide (a<(↑N:Int))) ((Nat.beq z3 0=true->af z2 72 3=af z2 72 3/\∃(e1:M0),sp 48 [(0,AV.ptr 0 0 [] 0),(5,AV.mp 2),
 (6,AV.an 3 0 0)] [Obj.box 122 (AV.agg [AV.an 1 0 N,AV.nil]),Obj.rows 38 3 ls none,Dn.Obj.map 3 4 [],Obj.row 3 []]=sp 48 [(0,AV.ptr 0 0 [] 0),(5,AV.mp
 2),(6,AV.an 3 0 e1.todo.length)] [Obj.box 122 (AV.agg [AV.an 1 0 e1.n,AV.nil]),Obj.rows 38 3 (dz e1.L) none,Dn.Obj.map 3 4 (iC e1.met),Obj.row 3 (iA
 e1.todo++e1.tl)]/\(WG e1.n e1.m e1.L/\Sd e1.n e1.m e1.todo e1.met/\(e1.n+1)*e1.m<=1000000000)/\K (AV.jE 3 4 (List.map (fun(e0:Value×AV)=>e0.1)
 (iC (j8 e1))) (List.map (fun(e0:Value×AV)=>e0.2) (iC (j8 e1)))) [Obj.box 122 (AV.agg [AV.an 1 0 e1.n,AV.nil]),Obj.rows 38 3 (dz e1.L) none])/\aX
 (decide ((0+List.length (List.map AV.lit z1)+1)*9<=70368744177664)) (af z2 72 3=af z2 72 3/\∃(e1:M0),sp 48 [(0,AV.ptr 0 0 [] 0),(5,AV.mp 2),
 (6,AV.an 3 0 (0+List.length (List.map AV.lit z1)))] [Obj.box 122 (AV.agg [AV.an 1 0 N,AV.nil]),Obj.rows 38 3 ls none,Dn.Obj.map 3 4 [],Obj.row 3 ([]++
 List.map AV.lit z1)]=sp 48 [(0,AV.ptr 0 0 [] 0),(5,AV.mp 2),(6,AV.an 3 0 e1.todo.length)] [Obj.box 122 (AV.agg [AV.an 1 0 e1.n,AV.nil]),Obj.rows 38 3
 (dz e1.L) none,Dn.Obj.map 3 4 (iC e1.met),Obj.row 3 (iA e1.todo++e1.tl)]/\(WG e1.n e1.m e1.L/\Sd e1.n e1.m e1.todo e1.met/\(e1.n+1)*e1.m<=
 1000000000)/\K (AV.jE 3 4 (List.map (fun(e0:Value×AV)=>e0.1) (iC (j8 e1))) (List.map (fun(e0:Value×AV)=>e0.2) (iC (j8 e1)))) [Obj.box 122 (AV.agg
 [AV.an 1 0 e1.n,AV.nil]),Obj.rows 38 3 (dz e1.L) none]))):=by kernel_rfl
def P3(x:Qv):List AV×List Dn.Obj:=([.ptr 0 0 [] 0, .int x.a],xn x.n (dz x.L))
def D9(x:Qv):Out (AV×List Dn.Obj):= .one (Sz (ij x.n x.m x.L x.a),xn x.n (dz x.L))
theorem cRz(κ:Kp):bt (RE κ) 12 72 (aL P3 Gw D9):=by
 refine aZ ?_
 rintro⟨n,m,L,fs,a⟩ K ⟨hG,hb,h0,h1⟩ ho
 simp only at hG hb h0 h1
 refine Eq.mpr (yRz κ n (dz L) a K) ?_
 simp only[D9,Out.run,ij] at ho
 have hS:=Sd.start hG h0
 have hle:=hG.le a
 have hmn:m<=(n+1)*m:=Nat.le_mul_of_pos_left m (Nat.succ_pos n)
 rw[DD,fo,BL,aq,aq,aa2,aa1,aa1,aa1]
 refine⟨⟨h0,h1⟩,fun e=>⟨rfl,⟨n,m,L,fs,[],[],[]⟩,rfl,⟨hG,?_,hb⟩,?_⟩,by omega,rfl,⟨n,m,L,fs,L.at a,[],[]⟩,?_,⟨hG,hS,hb⟩,?_⟩
 ·have e:L.at a=[]:=List.eq_nil_of_length_eq_zero (Nat.eq_of_beq_eq_true e)
  have h2:=hS
  rw[e] at h2;exact h2
 ·have e:L.at a=[]:=List.eq_nil_of_length_eq_zero (Nat.eq_of_beq_eq_true e)
  rw[e] at ho
  simp only[uf,tZ]
  exact ho
 ·simp only[List.append_nil,Nat.zero_add]
  rfl
 ·simp only[uf,tZ]
  exact ho
def EX(sel:List Dn.Obj->Bool)(a b:dr):dr:=fun args st K=>bif sel st then a args st K else b args st K
theorem rW{sel:List Dn.Obj->Bool}{a b:dr}(ha:a.ji)(hb:b.ji):(EX sel a b).ji:=fun args st K K' hK h=>by
 unfold EX at h⊢
 cases hs:sel st<;>simp only[hs] at h⊢
 ·exact hb _ _ _ _ hK h
 ·exact ha _ _ _ _ hK h
theorem A5{E:Env}{N f:Nat}{sel:List Dn.Obj->Bool}{a b:dr}(ha:bt E N f a)(hb:bt E N f b):bt E N f (EX sel a b):=fun args st K h=>by
 unfold EX at h
 cases hs:sel st<;>rw[hs] at h
 ·exact hb _ _ _ h
 ·exact ha _ _ _ h
def Ug(st:List Dn.Obj):Bool:=Nat.beq st.length 3
noncomputable def P9(κ:Kp):Env:=(RE κ).ax 72 (EX Ug (aL Qh Gw Fo) (aL P3 Gw D9))
theorem eRe(κ:Kp):aB (P9 κ):=(eRl κ).ax (ZC κ) (A5 (cRe κ) (cRz κ))
theorem Y9(κ:Kp):aj (P9 κ):=(ZC κ).ax (rW aJ aJ)
def Sc:List Nat:=114::Ni
noncomputable abbrev SV(κ:Kp)(ds rs:List AV):Dn.Obj:=
 .loop (gl (Pr κ).toProgram 37 3 .ready none (fW (bG 63) [(0,gJ ds rs),(1, .ptr 0 0 [] 0),(2, .lit (.pointer none)),(3, .ptr 3 0 [] 0),(7, .ptr 0 0 [0] 0),(8, .ad 61 ds),(9, .int ds.length),(10, .an 1 0 ds.length),(11, .agg [.an 1 0 ds.length, .nil]),(12, .ptr 2 0 [] 0),(13,gJ ds rs),(14, .bL 114 [.ptr 4 0 [] 0])]))
noncomputable abbrev pD(κ:Kp)(ds rs:List AV):List Dn.Obj:=[.box 25 (gJ ds rs),Mx (List.replicate ds.length []), .box 122 (.agg [.an 1 0 ds.length, .nil]), .box 87 (.ptr 2 0 [] 0), .box 25 (gJ ds rs),SV κ ds rs]
noncomputable abbrev Cj(κ:Kp)(ds rs:List AV)(ls:List (List Value)):List Dn.Obj:=[.box 25 (gJ ds rs),Mx ls, .box 122 (.agg [.an 1 0 ds.length, .nil]), .box 87 (.ptr 2 0 [] 0), .dead,SV κ ds rs]
theorem sGf(κ:Kp)(ds rs:List AV)(Q:List Dn.Obj->Prop):(tidy (Pr κ).toProgram 6 (dV (pD κ ds rs) (cz (pD κ ds rs) [.ptr 4 0 [] 0])) Q)=(
 Q [Obj.box 25 (AV.agg [AV.ad 61 ds,AV.ad 66 rs]),Obj.rows 38 3 (List.replicate ds.length []) none,Obj.box 122 (AV.agg [AV.an 1 0 ds.length,AV.nil]),Obj.box
 87 (AV.ptr 2 0 [] 0),Obj.dead,Dn.Obj.loop (gl Tryz.prog 37 3 LoopState.ready none (fW (bG 63) [(0,AV.agg [AV.ad 61 ds,AV.ad 66 rs]),(1,AV.ptr 0 0 [] 0),
 (2,AV.lit (Value.pointer none)),(3,AV.ptr 3 0 [] 0),(7,AV.ptr 0 0 [0] 0),(8,AV.ad 61 ds),(9,AV.int (↑(ds.length):Int)),(10,AV.an 1 0 ds.length),
 (11,AV.agg [AV.an 1 0 ds.length,AV.nil]),(12,AV.ptr 2 0 [] 0),(13,AV.agg [AV.ad 61 ds,AV.ad 66 rs]),(14,AV.bL 114 [AV.ptr 4 0 [] 0])]))]):=by kernel_rfl
theorem rGf(κ:Kp)(ds rs:List AV)(ls:List (List Value))(a b:Int)(Q:List Dn.Obj->Prop)(K2:List Dn.Obj->Prop):(gW (vc (P9 κ) 12) 5 [.int a, .int b] (Cj κ ds rs ls) (fun r st''=>match r with| .lit (.bool true)=>tidy (Pr κ).toProgram 6 st'' Q| .lit (.bool false)=>K2 st''|_=>False))=(
 letI z2:=gl Tryz.prog 37 3 LoopState.ready none (fW (bG 63) [(0,AV.agg [AV.ad 61 ds,AV.ad 66 rs]),(1,AV.ptr 0 0 [] 0),(2,AV.lit (Value.pointer none)),
  (3,AV.ptr 3 0 [] 0),(7,AV.ptr 0 0 [0] 0),(8,AV.ad 61 ds),(9,AV.int (↑(ds.length):Int)),(10,AV.an 1 0 ds.length),(11,AV.agg [AV.an 1 0 ds.length,
  AV.nil]),(12,AV.ptr 2 0 [] 0),(13,AV.agg [AV.ad 61 ds,AV.ad 66 rs]),(14,AV.bL 114 [AV.ptr 4 0 [] 0])])
 letI z4:=decide ((0:Int)<=a)&&decide (a<(↑(ds.length):Int))
 letI z5:=bW ls a.toNat
 letI z3:=decide (List.length z5=List.length z5)&&decide ((List.length z5+1+1)*9<=70368744177664)
 letI z6:=Dn.jH ls a.toNat (bW ls a.toNat++[Value.int IntKind.i64 b])
 letI z7:=List.map AV.lit (List.take (List.length z5) z5)
 letI z8:=AV.agg [AV.an 1 0 ds.length,AV.nil]
 letI z9:=AV.agg [AV.ad 61 ds,AV.ad 66 rs]
 letI z1:=aX z4 (aX (decide (a.toNat=a.toNat)&&decide (a.toNat=a.toNat)&&decide (List.length z5+1=List.length (bW z6 a.toNat))) (Q [Obj.box 25 z9,
  Obj.rows 38 3 z6 none,Obj.box 122 z8,Obj.box 87 (AV.ptr 2 0 [] 0),Obj.dead,Dn.Obj.loop z2]))
 aX z4 (aX (decide (List.length z7<=9223372036854775807)) (aD (!Sp b z7) (aX z4 (aX z3 z1/\aX z3 z1)) (Q [Obj.box 25 z9,Obj.rows 38 3 ls none,Obj.box 122 z8,
 Obj.box 87 (AV.ptr 2 0 [] 0),Obj.dead,Dn.Obj.loop z2])))):=by kernel_rfl
theorem kGf(κ:Kp)(ds rs xs:List AV):(AV.cD 0::fU (jG (cz (pD κ ds rs) [.ptr 4 0 [] 0])) [.ptr 4 0 [] 0],Obj.ext (some xs)::gA (jG (cz (pD κ ds rs) [.ptr 4 0 [] 0])) (gT (pD κ ds rs) (cz (pD κ ds rs) [.ptr 4 0 [] 0])))=([.cD 0, .ptr 1 0 [] 0],[.ext (some xs), .box 25 (gJ ds rs)]):=by kernel_rfl
theorem oGf(κ:Kp)(ds rs:List AV):oi (pD κ ds rs) [.ptr 4 0 [] 0]=true:=by kernel_rfl
theorem Dd: ∀(L:Gr) (k:Nat) (x:List Int),Dn.jH (dz L) k (x.map gq)=dz (L.set k x)
 |[],k,x=>by cases k<;>rfl
 |_::_,0,x=>rfl
 |a::L,k+1,x=>by
  have ih:=Dd L k x
  simp only[dz,ac1,Dn.jH,List.set_cons_succ] at ih⊢
  rw[ih]
theorem Od(n:Nat):dz (List.replicate n [])=List.replicate n []:=by simp[dz]
structure pN(ds rs:List AV):Prop where
 hd:ds.length<=60
 hr:rs.length<=200
 bs: ∀r,r∈rs->(ai (ae r 1)).length<=20
 ed:VA ds rs
theorem G3(ds:List AV)(a:Int): ∀bl:List AV,(Eo ds a bl).length<=bl.length
 |[]=>Nat.le_refl _
 |l::bl=>by
  have ih:=G3 ds a bl
  rw[Eo]
  cases dH (toInt (ae l 0)) with
  |true=>rw[aa8];simp only[List.length_cons];omega
  |false=>rw[aa6];simp only[List.length_cons];omega
theorem za(ds:List AV): ∀rs:List AV,(∀r,r∈rs->(ai (ae r 1)).length<=20)->(wU ds rs).length<=rs.length*20
 |[],_=>Nat.le_refl _
 |r::rs,h=>by
  have ih:=za ds rs fun x hx=>h x (by simp[hx])
  have h1:=G3 ds (bw (toStr (ae (ae r 0) 0)) ds) (ai (ae r 1))
  have h2:=h r (by simp)
  simp only[wU,List.flatMap_cons,ab9,List.length_cons,ZF] at ih h1⊢
  omega
noncomputable def RT(κ:Kp):dC:=fun caps st K=>∃x:rT,(caps,st)=([AV.ptr 4 0 [] 0],pD κ x.1 x.2)/\pN x.1 x.2/\K (Cj κ x.1 x.2 (dz (r8 x.1.length (wU x.1 x.2))))
theorem IK(κ:Kp):(RT κ).ji:=by
 rintro caps st K K' hK ⟨a,h1,h2,h3⟩
 exact⟨a,h1,h2,hK _ h3⟩
theorem R0(κ:Kp)(args:List AV)(st:List Dn.Obj)(K:AV->List Dn.Obj->Prop)(h:aL QG Fh Lx args st K):(P9 κ).call 114 args st K:=h
theorem gfr(κ:Kp):lq (P9 κ) 12 114 (RT κ):=by
 rintro caps st K ⟨⟨ds,rs⟩,h1,hf,h5⟩
 obtain⟨rfl,rfl⟩:=Prod.mk.inj h1
 simp only at hf h5
 have hd:=hf.hd
 have hr:=hf.hr
 have hl:=za ds rs hf.bs
 refine⟨A7 (wU ds rs),fun items st'=>∃E1 E2,items=A7 E2/\st'=Cj κ ds rs (dz (r8 ds.length E1))/\E1++E2=wU ds rs,⟨oGf κ ds rs,?_,?_,?_,?_⟩⟩
 ·refine R0 κ _ _ _ ⟨(ds,rs),?_,⟨by simp only[aR];omega,by simp only[aR];omega,fun r hr=>?_⟩,fun st' h=>h⟩
  ·rw[kGf];rfl
  ·have:=hf.bs r hr;simp only[aR];omega
 ·rw[show(P9 κ).P=Pr κ from rfl,show(pD κ ds rs).length=6 from rfl,sGf]
  refine⟨[],wU ds rs,rfl,?_,rfl⟩
  rw[r8,List.foldl_nil,Od]
 ·rintro us rest st' ⟨E1,E2,e1,rfl,e3⟩
  cases E2 with
  |nil=>cases e1
  | cons e E2=>
   obtain⟨a,b⟩:=e
   obtain⟨hu,rfl⟩:=List.cons.inj e1
   obtain rfl:=AV.bh.inj hu
   rw[show(P9 κ).P=Pr κ from rfl,show(pD κ ds rs).length=6 from rfl]
   refine Eq.mpr (rGf κ ds rs _ a b _ _) ?_
   have hab:=hf.ed (a,b) (by rw[←e3];simp)
   simp only at hab
   have hg:r8 ds.length (E1++[(a,b)])=nS (r8 ds.length E1) (a,b):=by simp[r8,List.foldl_append]
   have hlen:(r8 ds.length E1).length=ds.length:=by unfold r8;rw[sb];simp
   have hle:((r8 ds.length E1).at a).length<=E1.length:=by
    have:=Jw E1 (List.replicate ds.length []) a
    rw[EI] at this
    simpa[r8] using this
   have hE:E1.length<=(wU ds rs).length:=by rw[←e3];simp
   have next: ∀st',st'=Cj κ ds rs (dz (nS (r8 ds.length E1) (a,b)))->∃F1 F2,A7 E2=A7 F2/\st'=Cj κ ds rs (dz (r8 ds.length F1))/\F1++F2=wU ds rs:=fun st' h=>⟨E1++[(a,b)],E2,rfl,by rw[hg,h],by rw[←e3];simp⟩
   rw[DD,Ey,l9,show[Value.int IntKind.i64 b]=[b].map gq from rfl,←List.map_append,Dd]
   have e4:(bW (dz ((r8 ds.length E1).set a.toNat ((r8 ds.length E1).at a++[b]))) a.toNat).length=((r8 ds.length E1).at a).length+1:=by
    rw[l9,Ep _ _ _ _ (by omega),if_pos rfl];simp
   rw[e4]
   simp only[aq,ah,aa2,aa1,List.length_map,fo]
   refine⟨⟨by omega,by omega⟩,by omega,fun e=>⟨⟨by omega,by omega⟩,?_⟩,fun e=>next _ ?_⟩
   ·have e:((r8 ds.length E1).at a).contains b=false:=by simpa using e
    have e5:nS (r8 ds.length E1) (a,b)=(r8 ds.length E1).set a.toNat ((r8 ds.length E1).at a++[b]):=by
     unfold nS;rw[e,aa6]
    rw[e5] at next
    exact⟨⟨⟨trivial,by omega⟩,⟨by omega,by omega⟩,⟨⟨trivial,trivial⟩,trivial⟩,next _ rfl⟩,⟨trivial,by omega⟩,⟨by omega,by omega⟩,⟨⟨trivial,trivial⟩,trivial⟩,next _ rfl⟩
   ·have e:((r8 ds.length E1).at a).contains b=true:=by simpa using e
    unfold nS;rw[e,aa8]
 ·rintro st' ⟨E1,E2,e1,rfl,e3⟩
  obtain rfl:E2=[]:=by cases E2 with|nil=>rfl|cons _ _=>cases e1
  rw[List.append_nil] at e3
  rw[e3];exact h5
noncomputable def Ls(κ:Kp):Env:=((P9 κ).addRange 37 3 114 (RT κ)).dv (fun f=>jm f Sc)
theorem eOr(κ:Kp):aB (Ls κ):=((eRe κ).addRange (Y9 κ) (gfr κ)).dv _
theorem Zt(κ:Kp):aj (Ls κ):=((Y9 κ).addRange (IK κ)).dv _
theorem xOa(κ:Kp)(N i:Nat)(ls:List (List Value))(fs:List AV)(I:Nat->S->Prop)(n:Nat)(K:Exit->S->Prop):(vc (Ls κ) 12 37 none 0 (af (Pr κ).toProgram 37 8) (sp 63 [(3, .ptr 0 0 [] 0),(45, .int N),(46, .int i)] [.box 87 (.ptr 1 0 [] 0), .box 122 (.agg [.an 2 0 N, .an 3 0 fs.length]),Mx ls, .row 89 fs]) (bK (Ls κ) 37 8 0 I n K))=(
 letI z1:=AV.ptr 1 0 [] 0
 letI z2:=AV.agg [AV.an 2 0 N,AV.an 3 0 fs.length]
 aD (decide ((↑i:Int)<(↑N:Int))) (∃(e2:Qv),([AV.ptr 0 0 [] 0,AV.int (↑i:Int)],[Obj.box 122 (AV.agg [AV.an 1 0 N,AV.an 2 0 fs.length]),Obj.rows 38
 3 ls none,Obj.row 89 fs])=([AV.ptr 0 0 [] 0,AV.int e2.a],[Obj.box 122 (AV.agg [AV.an 1 0 e2.n,AV.an 2 0 e2.fs.length]),Obj.rows 38 3 (dz e2.L) none,
 Obj.row 89 e2.fs])/\(WG e2.n e2.m e2.L/\(e2.n+1)*e2.m<=1000000000/\(0:Int)<=e2.a/\e2.a<(↑(e2.n):Int))/\(Obj.box 87 z1=Obj.box 87 z1/\Obj.box
 122 (AV.agg [AV.an 2 0 e2.n,AV.an 3 0 e2.fs.length])=Obj.box 122 z2/\Obj.rows 38 3 (dz e2.L) none=Obj.rows 38 3 ls none/\True)/\aX (decide ((fs.length+
 1+1)*9<=70368744177664)) (∃(e1:Nat),e1<n/\I e1 (sp 63 [(3,AV.ptr 0 0 [] 0),(45,AV.int (↑N:Int)),(46,AV.int (IntKind.wrap IntKind.i64 ((↑i:
 Int)+(1:Int))))] [Obj.box 87 z1,Obj.box 122 (AV.agg [AV.an 2 0 e2.n,AV.an 3 0 (fs.length+1)]),Obj.rows 38 3 (dz e2.L) none,Obj.row 89 (List.take
 fs.length e2.fs++[AV.jE 3 4 (List.map gq (ij e2.n e2.m e2.L e2.a)) (List.map (fun(e0:Int)=>AV.bool true) (ij e2.n e2.m e2.L e2.a))])]))) (K (Exit.exit 2)
 (sp 63 [(3,AV.ptr 0 0 [] 0)] [Obj.box 87 z1,Obj.box 122 z2,Obj.rows 38 3 ls none,Obj.row 89 fs]))):=by kernel_rfl
theorem xOb(κ:Kp)(N:Nat)(ls:List (List Value))(I:Nat->S->Prop)(n:Nat)(K:Exit->S->Prop):(vc (Ls κ) 12 37 none 0 (af (Pr κ).toProgram 37 8) (sp 63 [(3, .ptr 0 0 [] 0),(45, .int N),(46, .int 0)] [.box 87 (.ptr 1 0 [] 0), .box 122 (.agg [.an 2 0 N, .nil]),Mx ls]) (bK (Ls κ) 37 8 0 I n K))=(
 letI z1:=AV.ptr 1 0 [] 0
 letI z2:=AV.agg [AV.an 2 0 N,AV.nil]
 aD (decide ((0:Int)<(↑N:Int))) (∃(e2:Qv),([AV.ptr 0 0 [] 0,AV.int 0],[Obj.box 122 (AV.agg [AV.an 1 0 N,AV.nil]),Obj.rows 38 3 ls none])=([AV.ptr
 0 0 [] 0,AV.int e2.a],[Obj.box 122 (AV.agg [AV.an 1 0 e2.n,AV.nil]),Obj.rows 38 3 (dz e2.L) none])/\(WG e2.n e2.m e2.L/\(e2.n+1)*e2.m<=1000000000/\
 (0:Int)<=e2.a/\e2.a<(↑(e2.n):Int))/\(Obj.box 87 z1=Obj.box 87 z1/\Obj.box 122 (AV.agg [AV.an 2 0 e2.n,AV.nil])=Obj.box 122 z2/\Obj.rows 38 3 (dz
 e2.L) none=Obj.rows 38 3 ls none/\True)/\∃(e1:Nat),e1<n/\I e1 (sp 63 [(3,AV.ptr 0 0 [] 0),(45,AV.int (↑N:Int)),(46,AV.int 1)] [Obj.box 87 z1,
 Obj.box 122 (AV.agg [AV.an 2 0 e2.n,AV.an 3 0 1]),Obj.rows 38 3 (dz e2.L) none,Obj.row 89 [AV.jE 3 4 (List.map gq (ij e2.n e2.m e2.L e2.a)) (List.map (fun
 (e0:Int)=>AV.bool true) (ij e2.n e2.m e2.L e2.a))]])) (K (Exit.exit 2) (sp 63 [(3,AV.ptr 0 0 [] 0)] [Obj.box 87 z1,Obj.box 122 z2,Obj.rows 38 3 ls
 none]))):=by kernel_rfl
def br(n m:Nat)(L:Gr)(k:Nat):List AV:=(List.range k).map fun(a:Nat)=>Sz (ij n m L a)
theorem kF(n m:Nat)(L:Gr)(k:Nat):(br n m L k).length=k:=by simp[br]
theorem Ia(n m:Nat)(L:Gr)(k:Nat):br n m L (k+1)=br n m L k++[Sz (ij n m L k)]:=by
 simp[br,List.range_succ]
structure VW where
 n:Nat
 m:Nat
 L:Gr
 i:Nat
abbrev Rp(n m:Nat)(L:Gr):Nat->List Dn.Obj
 |0=>[.box 87 (.ptr 1 0 [] 0), .box 122 (.agg [.an 2 0 n, .nil]),Mx (dz L)]
 |k+1=>[.box 87 (.ptr 1 0 [] 0), .box 122 (.agg [.an 2 0 n, .an 3 0 (br n m L (k+1)).length]),Mx (dz L), .row 89 (br n m L (k+1))]
abbrev M7(x:VW):S:=sp 63 [(3, .ptr 0 0 [] 0),(45, .int x.n),(46, .int x.i)] (Rp x.n x.m x.L x.i)
def LQ(x:VW):Prop:=WG x.n x.m x.L/\(x.n+1)*x.m<=1000000000/\x.i<=x.n/\x.n<=60
def Pz(x:VW):Out (Exit×S):= .aD (Nat.beq x.n 0)
 (.one (.exit 2,sp 63 [(3, .ptr 0 0 [] 0)] [.box 87 (.ptr 1 0 [] 0), .box 122 (.agg [.an 2 0 x.n, .nil]),Mx (dz x.L)]))
 (.one (.exit 2,sp 63 [(3, .ptr 0 0 [] 0)] [.box 87 (.ptr 1 0 [] 0), .box 122 (.agg [.an 2 0 x.n, .an 3 0 (br x.n x.m x.L x.n).length]),Mx (dz x.L), .row 89 (br x.n x.m x.L x.n)]))
theorem lOa(κ:Kp):bj (Ls κ) 12 37 8 (aO 0 M7 LQ Pz):=by
 refine aK (fun x=>x.n - x.i) ?_
 rintro⟨n,m,L,i⟩ K ⟨hG,hb,hi,hn⟩ ho
 simp only at hG hb hi hn
 rw[show(Ls κ).P=Pr κ from rfl]
 cases i with
 | zero=>
  refine Eq.mpr (xOb κ n (dz L) _ _ K) ?_
  rw[ah,aa1,aa3]
  refine⟨fun h=>⟨⟨n,m,L,[],0⟩,rfl,⟨hG,hb,by simp only;omega,h⟩,⟨rfl,rfl,rfl,trivial⟩,_,?_,⟨n,m,L,1⟩,rfl,⟨hG,hb,?_,hn⟩,rfl,ho⟩,fun h=>?_⟩
  ·simp only;omega
  ·simp only;omega
  ·obtain rfl:n=0:=by omega
   exact ho
 | succ k=>
  refine Eq.mpr (xOa κ n (k+1) (dz L) (br n m L (k+1)) _ _ K) ?_
  rw[ah,aa1,aa3]
  refine⟨fun h=>⟨⟨n,m,L,br n m L (k+1),((k+1:Nat):Int)⟩,rfl,⟨hG,hb,by simp only;omega,h⟩,⟨rfl,rfl,rfl,trivial⟩,?_⟩,fun h=>?_⟩
  ·have e:sp 63 [(3, .ptr 0 0 [] 0),(45, .int n),(46, .int (((k+1:Nat):Int)+1))] [.box 87 (.ptr 1 0 [] 0), .box 122 (.agg [.an 2 0 n, .an 3 0 ((br n m L (k+1)).length+1)]),Mx (dz L), .row 89 (List.take (br n m L (k+1)).length (br n m L (k+1))++[Sz (ij n m L ((k+1:Nat):Int))])]=M7 ⟨n,m,L,k+2⟩:=by
    rw[List.take_length,←Ia]
    simp only[M7,Rp,kF]
    rfl
   rw[aq,aa1,aW (n:=((k+1:Nat):Int)+1) (by omega) (by omega)]
   refine⟨by rw[kF];omega,_,?_,⟨n,m,L,k+2⟩,e,⟨hG,hb,?_,hn⟩,rfl,ho⟩
   ·simp only;omega
   ·simp only;omega
  ·obtain rfl:n=k+1:=by omega
   exact ho
noncomputable def U3(κ:Kp):Env:=(Ls κ).ak 37 8 (aO 0 M7 LQ Pz)
theorem eOa(κ:Kp):aB (U3 κ):=(eOr κ).ak (Zt κ) (lOa κ)
theorem YQ(κ:Kp):aj (U3 κ):=(Zt κ).ak aG
theorem yOg(κ:Kp)(ds rs:List AV)(K:AV->List Dn.Obj->Prop):(a8 (U3 κ) 12 37 [gJ ds rs] [] K)=(
 letI z1:=Int.toNat (↑(ds.length):Int)
 letI z2:=AV.agg [AV.ad 61 ds,AV.ad 66 rs]
 letI z3:=Pg.toProgram (Env.P (Ls κ))
 aX (true&&decide ((↑(ds.length):Int)<=(↑(ds.length):Int))&&decide ((Int.toNat (↑(ds.length):Int)+1)*25<=70368744177664)&&true) (∃(e1:rT),
 ([AV.ptr 4 0 [] 0],[Obj.box 25 z2,Obj.rows 38 3 (List.replicate z1 []) none,Obj.box 122 (AV.agg [AV.an 1 0 z1,AV.nil]),Obj.box 87 (AV.ptr 2 0 [] 0),
 Obj.box 25 z2,Dn.Obj.loop (gl Tryz.prog 37 3 LoopState.ready none (fW (bG 63) [(0,AV.agg [AV.ad 61 ds,AV.ad 66 rs]),(1,AV.ptr 0 0 [] 0),(2,AV.lit
 (Value.pointer none)),(3,AV.ptr 3 0 [] 0),(7,AV.ptr 0 0 [0] 0),(8,AV.ad 61 ds),(9,AV.int (↑(ds.length):Int)),(10,AV.an 1 0 z1),(11,AV.agg [AV.an 1
 0 z1,AV.nil]),(12,AV.ptr 2 0 [] 0),(13,AV.agg [AV.ad 61 ds,AV.ad 66 rs]),(14,AV.bL 114 [AV.ptr 4 0 [] 0])]))])=([AV.ptr 4 0 [] 0],[Obj.box 25 (AV.agg
 [AV.ad 61 e1.1,AV.ad 66 e1.2]),Obj.rows 38 3 (List.replicate e1.1.length []) none,Obj.box 122 (AV.agg [AV.an 1 0 e1.1.length,AV.nil]),Obj.box 87 (AV.ptr 2
 0 [] 0),Obj.box 25 (AV.agg [AV.ad 61 e1.1,AV.ad 66 e1.2]),Dn.Obj.loop (gl Tryz.prog 37 3 LoopState.ready none (fW (bG 63) [(0,AV.agg [AV.ad 61 e1.1,AV.ad
 66 e1.2]),(1,AV.ptr 0 0 [] 0),(2,AV.lit (Value.pointer none)),(3,AV.ptr 3 0 [] 0),(7,AV.ptr 0 0 [0] 0),(8,AV.ad 61 e1.1),(9,AV.int (↑(e1.1.length):
 Int)),(10,AV.an 1 0 e1.1.length),(11,AV.agg [AV.an 1 0 e1.1.length,AV.nil]),(12,AV.ptr 2 0 [] 0),(13,AV.agg [AV.ad 61 e1.1,AV.ad 66 e1.2]),(14,AV.bL
 114 [AV.ptr 4 0 [] 0])]))])/\pN e1.1 e1.2/\af z3 37 8=af z3 37 8/\∃(e0:VW),sp 63 [(3,AV.ptr 0 0 [] 0),(45,AV.int (↑(e1.1.length):Int)),(46,
 AV.int 0)] [Obj.box 87 (AV.ptr 1 0 [] 0),Obj.box 122 (AV.agg [AV.an 2 0 e1.1.length,AV.nil]),Obj.rows 38 3 (dz (r8 e1.1.length (wU e1.1 e1.2))) none]=sp 63
 [(3,AV.ptr 0 0 [] 0),(45,AV.int (↑(e0.n):Int)),(46,AV.int (↑(e0.i):Int))] (Rp e0.n e0.m e0.L e0.i)/\(WG e0.n e0.m e0.L/\(e0.n+1)*e0.m<=
 1000000000/\e0.i<=e0.n/\e0.n<=60)/\aD (Nat.beq e0.n 0) (K (AV.ptr 0 0 [] 0) [Obj.box 122 (AV.agg [AV.an 1 0 e0.n,AV.nil]),Obj.rows 38 3 (dz e0.L) none])
 (K (AV.ptr 0 0 [] 0) [Obj.box 122 (AV.agg [AV.an 1 0 e0.n,AV.an 2 0 (List.length (br e0.n e0.m e0.L e0.n))]),Obj.rows 38 3 (dz e0.L) none,Obj.row 89 (br e0.n
 e0.m e0.L e0.n)]))):=by kernel_rfl
def ph(ds rs:List AV):Gr:=r8 ds.length (wU ds rs)
def jK(ds rs:List AV):Nat:=(wU ds rs).length
def M8(x:rT):List AV×List Dn.Obj:=([gJ x.1 x.2],[])
def MS(x:rT):Out (AV×List Dn.Obj):= .aD (Nat.beq x.1.length 0)
 (.one (.ptr 0 0 [] 0,xn x.1.length (dz (ph x.1 x.2))))
 (.one (.ptr 0 0 [] 0,tJ x.1.length (dz (ph x.1 x.2)) (br x.1.length (jK x.1 x.2) (ph x.1 x.2) x.1.length)))
theorem pN.le{ds rs:List AV}(h:pN ds rs):(ds.length+1)*jK ds rs<=1000000000:=by
 have h1:=h.hd
 have h2:=h.hr
 have h3:=za ds rs h.bs
 refine Nat.le_trans (Nat.mul_le_mul (show ds.length+1<=61 by omega) (show jK ds rs<=4000 by unfold jK;omega)) (by omega)
theorem pN.wg{ds rs:List AV}(h:pN ds rs):WG ds.length (jK ds rs) (ph ds rs):=RA h.ed
theorem cOg(κ:Kp):bt (U3 κ) 12 37 (aL M8 (fun x=>pN x.1 x.2) MS):=by
 refine aZ ?_
 rintro⟨ds,rs⟩ K hf ho
 simp only at hf
 refine Eq.mpr (yOg κ ds rs K) ?_
 have hd:=hf.hd
 simp only[MS,Out.run] at ho
 simp only[aq,aa2,aa1,Int.toNat_natCast]
 exact⟨⟨⟨⟨trivial,by omega⟩,by omega⟩,trivial⟩,(ds,rs),rfl,hf,trivial,⟨ds.length,jK ds rs,ph ds rs,0⟩,rfl,⟨hf.wg,hf.le,Nat.zero_le _,hd⟩,ho⟩
noncomputable def UE(κ:Kp):Env:=(U3 κ).ax 37 (aL M8 (fun x=>pN x.1 x.2) MS)
theorem eOf(κ:Kp):aB (UE κ):=(eOa κ).ax (YQ κ) (cOg κ)
theorem ZM(κ:Kp):aj (UE κ):=(YQ κ).ax aJ
end Go.Proofs.YthaiinlfnommnaaGreatDoor
