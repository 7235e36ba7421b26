import Derived.Test.YthaiinlfnommnaaGreatDoorDbM1
import Derived.Test.YthaiinlfnommnaaGreatDoorDbM7
namespace Go.Rl
open Go Go.Dn
abbrev Gr:=List (List Int)
def Gr.at(L:Gr)(a:Int):List Int:=L.getD a.toNat []
def om(L:Gr)(e:Int×Int):Gr:=bif (L.at e.1).contains e.2 then L else L.set e.1.toNat (L.at e.1++[e.2])
def rO(n:Nat)(E:List (Int×Int)):Gr:=E.foldl om (List.replicate n [])
theorem BX(L:Gr)(e:Int×Int):(om L e).length=L.length:=by
 unfold om;cases(L.at e.1).contains e.2<;>simp
theorem rZ: ∀(E:List (Int×Int)) (L:Gr),(E.foldl om L).length=L.length
 |[],_=>rfl
 |e::E,L=>by rw[List.foldl_cons,rZ E,BX]
theorem E6(L:Gr)(a b:Int)(x:List Int)(ha:a.toNat<L.length):Gr.at (L.set a.toNat x) b=if a.toNat=b.toNat then x else L.at b:=by
 unfold Gr.at
 rw[List.getD_eq_getElem?_getD,List.getElem?_set]
 by_cases h:a.toNat=b.toNat
 ·rw[if_pos h,if_pos h,if_pos ha];rfl
 ·rw[if_neg h,if_neg h];rfl
theorem LW(L:Gr)(e:Int×Int)(he:0<=e.1/\e.1.toNat<L.length)(a b:Int)(h0:0<=a):b∈(om L e).at a↔b∈L.at a\/(a,b)=e:=by
 obtain⟨c,d⟩:=e
 simp only at he
 unfold om
 cases h:(L.at c).contains d with
 |true=>
  rw[aa9]
  refine⟨.inl,?_⟩
  rintro(h1|h1)
  ·exact h1
  ·cases h1;simpa using h
 | false=>
  rw[aa7,E6 L c a _ he.2]
  by_cases hc:c.toNat=a.toNat
  ·have:c=a:=by omega
   subst this
   simp
  ·rw[if_neg hc]
   refine⟨.inl,?_⟩
   rintro(h1|h1)
   ·exact h1
   ·cases h1;exact absurd rfl hc
theorem xR: ∀(E:List (Int×Int)) (L:Gr),(∀e,e∈E->0<=e.1/\e.1.toNat<L.length)->∀a b:Int,0<=a->(b∈Gr.at (E.foldl om L) a↔b∈L.at a\/(a,b)∈E)
 |[],L,_,a,b,_=>by simp
 |e::E,L,h,a,b,h0=>by
  rw[List.foldl_cons,xR E (om L e) (fun x hx=>by rw[BX];exact h x (by simp[hx])) a b h0,LW L e (h e (by simp)) a b h0,ac4,or_assoc]
theorem LV: ∀(E:List (Int×Int)) (L:Gr) (a:Int),(Gr.at (E.foldl om L) a).length<=(L.at a).length+E.length
 |[],L,a=>by simp
 | e ::E,L,a=>by
  rw[List.foldl_cons]
  refine Nat.le_trans (LV E (om L e) a) ?_
  have:((om L e).at a).length<=(L.at a).length+1:=by
   unfold om
   cases(L.at e.1).contains e.2 with
   |true=>rw[aa9];omega
   | false=>
    rw[aa7]
    by_cases hl:e.1.toNat<L.length
    ·rw[E6 L e.1 a _ hl]
     by_cases hc:e.1.toNat=a.toNat
     ·rw[if_pos hc,ac0,List.length_singleton]
      have:L.at e.1=L.at a:=by unfold Gr.at;rw[hc]
      rw[this];omega
     ·rw[if_neg hc];omega
    ·rw[List.set_eq_of_length_le (by omega)];omega
  simp only[List.length_cons];omega
theorem EW(n:Nat)(a:Int):Gr.at (List.replicate n []) a=[]:=by
 unfold Gr.at
 rw[List.getD_eq_getElem?_getD]
 by_cases h:a.toNat<n<;>simp[h]
structure WG(n m:Nat)(L:Gr):Prop where
 len:L.length=n
 le: ∀a,(L.at a).length<=m
 lk: ∀a,0<=a->∀b,b∈L.at a->0<=b/\b<n
theorem Od{n:Nat}{E:List (Int×Int)}(h: ∀e,e∈E->(0<=e.1/\e.1<n)/\0<=e.2/\e.2<n){a b:Int}(h0:0<=a):b∈(rO n E).at a↔(a,b)∈E:=by
 unfold rO
 rw[xR E _ (fun e he=>⟨(h e he).1.1,by have:=(h e he).1;simp;omega⟩) a b h0,EW]
 simp
theorem RU{n:Nat}{E:List (Int×Int)}(h: ∀e,e∈E->(0<=e.1/\e.1<n)/\0<=e.2/\e.2<n):WG n E.length (rO n E):=by
 refine⟨by unfold rO;rw[rZ];simp,fun a=>?_,fun a h0 b hb=>?_⟩
 ·have:=LV E (List.replicate n []) a
  rw[EW] at this
  simpa[rO] using this
 ·exact(h _ ((Od h h0).1 hb)).2
inductive xn (L:Gr):Int->Int->Prop
 |refl (a:Int):xn L a a
 |step {a b c:Int} (h:b∈L.at a) (k:xn L b c):xn L a c
def Rc(L:Gr)(a b:Int):Prop:=∃c,c∈L.at a/\xn L c b
theorem xn.trans{L:Gr}{a b c:Int}(h:xn L a b)(k:xn L b c):xn L a c:=by
 induction h with
 |refl=>exact k
 |step h _ ih=>exact .step h (ih k)
theorem Rc.trans{L:Gr}{a b c:Int}(h:Rc L a b)(k:Rc L b c):Rc L a c:=by
 obtain⟨d,h1,h2⟩:=h
 obtain⟨e,k1,k2⟩:=k
 exact⟨d,h1,h2.trans (.step k1 k2)⟩
theorem Rc.step{L:Gr}{a b c:Int}(h:Rc L a b)(k:c∈L.at b):Rc L a c:=h.trans ⟨c,k, .refl c⟩
theorem Rc.mono{L M:Gr}(h: ∀a b,0<=a->b∈L.at a->b∈M.at a/\0<=b){a b:Int}(h0:0<=a)(k:Rc L a b):Rc M a b:=by
 obtain⟨c,h1,h2⟩:=k
 have st: ∀{x y:Int},xn L x y->0<=x->xn M x y:=fun{x y} k=>by
  induction k with
  |refl=>intro _;exact .refl _
  |step h' _ ih=>intro hx;exact .step (h _ _ hx h').1 (ih (h _ _ hx h').2)
 exact⟨c,(h a c h0 h1).1,st h2 (h a c h0 h1).2⟩
theorem Rc.lk{n m:Nat}{L:Gr}(hG:WG n m L){a b:Int}(h0:0<=a)(h:Rc L a b):0<=b/\b<n:=by
 obtain⟨c,h1,h2⟩:=h
 have:=hG.lk a h0 c h1
 clear h1
 induction h2 with
 |refl=>exact this
 |step h _ ih=>exact ih (hG.lk _ this.1 _ h)
def eS(l:List Int):Int:=l.getLastD 0
def Iz(L:Gr):Nat->List Int->List Int->List Int
 |0,_,met=>met
 |_+1,[],met=>met
 |f+1,t::todo,met=>bif met.contains (eS (t::todo)) then Iz L f (t::todo).dropLast met else Iz L f ((t::todo).dropLast++L.at (eS (t::todo))) (met++[eS (t::todo)])
def gl(n:Nat):List Int:=(List.range n).map fun(k:Nat)=>(k:Int)
theorem iq{n:Nat}{a:Int}:a∈gl n↔0<=a/\a<n:=by
 simp only[gl,List.mem_map,List.mem_range]
 refine⟨?_,fun h=>⟨a.toNat,by omega,by omega⟩⟩
 rintro⟨k,h,rfl⟩
 omega
theorem l4{α:Type}{p q:α->Bool}: ∀{l:List α},(∀x,x∈l->p x=true->q x=true)->(∃x,x∈l/\q x=true/\p x=false)->l.countP p<l.countP q
 |[],_,h=>by obtain⟨x,hx,_⟩:=h;cases hx
 | a::l,h,⟨x,hx,h1,h2⟩=>by
  have hm:=List.countP_mono_left (l:=l) (p:=p) (q:=q) fun y hy=>h y (by simp[hy])
  simp only[List.countP_cons]
  rcases List.mem_cons.1 hx with rfl|hx
  ·rw[h1,h2];simp;omega
  ·have ih:=l4 (l:=l) (fun y hy=>h y (by simp[hy])) ⟨x,hx,h1,h2⟩
   cases hp:p a with
   |true=>rw[h a (by simp) hp];simp;omega
   |false=>cases q a<;>simp<;>omega
def xz(n:Nat)(met:List Int):Nat:=(gl n).countP fun x=>!met.contains x
theorem D2(n:Nat)(met:List Int):xz n met<=n:=by
 have:=List.countP_le_length (l:=gl n) (p:=fun x=>!met.contains x)
 simpa[xz,gl] using this
theorem Gw{n:Nat}{met:List Int}{b:Int}(hb:0<=b/\b<n)(hn:met.contains b=false)(l:List Int)(hl:b∈l):xz n (met++l)<xz n met:=by
 refine l4 (fun x _ h=>?_) ⟨b,iq.2 hb,by simpa using hn,by simp[hl]⟩
 simp only[Bool.not_eq_true',List.contains_eq_mem,aa4,List.mem_append,not_or] at h⊢
 exact h.1
def ms(n m:Nat)(todo met:List Int):Nat:=xz n met*(m+1)+todo.length
theorem oG{t:Int}{todo:List Int}:eS (t::todo)∈t::todo:=by
 unfold eS
 rw[List.getLastD_cons]
 cases todo with
 |nil=>simp
 |cons a l=>rw[List.getLastD_eq_getLast?,List.getLast?_eq_some_getLast (by simp)];simp
theorem xO{t:Int}{todo:List Int}:(t::todo).dropLast++[eS (t::todo)]=t::todo:=by
 have:eS (t::todo)=(t::todo).getLast (by simp):=by
  unfold eS
  rw[List.getLastD_eq_getLast?,List.getLast?_eq_some_getLast (by simp)];rfl
 rw[this];exact List.dropLast_concat_getLast (by simp)
theorem zV(n m:Nat)(t:Int)(todo met:List Int):ms n m (t::todo).dropLast met<ms n m (t::todo) met:=by
 unfold ms
 simp
theorem Aj{n m:Nat}{L:Gr}(hG:WG n m L)(t:Int)(todo met:List Int)(hb:0<=eS (t::todo)/\eS (t::todo)<n)(hn:met.contains (eS (t::todo))=false):
  ms n m ((t::todo).dropLast++L.at (eS (t::todo))) (met++[eS (t::todo)])<ms n m (t::todo) met:=by
 unfold ms
 have h1:=Gw hb hn [eS (t::todo)] (by simp)
 have h2:=hG.le (eS (t::todo))
 have h3:=Nat.mul_le_mul_right (m+1) (show xz n (met++[eS (t::todo)])+1<=xz n met from h1)
 rw[Nat.add_mul] at h3
 simp only[ac0,List.length_dropLast,List.length_cons]
 omega
structure Sd(n m:Nat)(todo met:List Int):Prop where
 ht: ∀x,x∈todo->0<=x/\x<n
 hm: ∀x,x∈met->0<=x/\x<n
 le:todo.length+xz n met*m<=(n+1)*m
theorem Sd.pop{n m:Nat}{t:Int}{todo met:List Int}(h:Sd n m (t::todo) met):Sd n m (t::todo).dropLast met:=
 ⟨fun x hx=>h.ht x (List.dropLast_subset _ hx),h.hm,by have:=h.le;simp only[List.length_dropLast,List.length_cons] at this⊢;omega⟩
theorem Sd.add{n m:Nat}{L:Gr}(hG:WG n m L){t:Int}{todo met:List Int}(h:Sd n m (t::todo) met)(hn:met.contains (eS (t::todo))=false):Sd n m ((t::todo).dropLast++L.at (eS (t::todo))) (met++[eS (t::todo)]):=by
 have hb:=h.ht _ oG
 refine⟨fun x hx=>?_,fun x hx=>?_,?_⟩
 ·rcases List.mem_append.1 hx with hx|hx
  ·exact h.ht x (List.dropLast_subset _ hx)
  ·exact hG.lk _ hb.1 x hx
 ·rcases List.mem_append.1 hx with hx|hx
  ·exact h.hm x hx
  ·rw[List.mem_singleton] at hx;rw[hx];exact hb
 ·have h1:=Gw hb hn [eS (t::todo)] (by simp)
  have h2:=hG.le (eS (t::todo))
  have h3:=Nat.mul_le_mul_right m (show xz n (met++[eS (t::todo)])+1<=xz n met from h1)
  rw[Nat.add_mul] at h3
  have h4:=h.le
  simp only[ac0,List.length_dropLast,List.length_cons] at h4⊢
  omega
theorem Sd.start{n m:Nat}{L:Gr}(hG:WG n m L){a:Int}(h0:0<=a):Sd n m (L.at a) []:=
 ⟨fun x hx=>hG.lk a h0 x hx,fun x hx=>(nomatch hx),by
  have h1:=hG.le a
  have h2:=Nat.mul_le_mul_right m (D2 n [])
  rw[Nat.add_mul];omega⟩
theorem qu{n m:Nat}{L:Gr}(hG:WG n m L): ∀(f g:Nat) (todo met:List Int),Sd n m todo met->ms n m todo met<=f->ms n m todo met<=g->Iz L f todo met=Iz L g todo met
 |0,g,todo,met,_,h,_=>by
  have:todo=[]:=by unfold ms at h;exact List.eq_nil_of_length_eq_zero (by omega)
  subst this
  cases g<;>rfl
 |f+1,0,todo,met,_,_,h=>by
  have:todo=[]:=by unfold ms at h;exact List.eq_nil_of_length_eq_zero (by omega)
  subst this;rfl
 |f+1,g+1,[],met,_,_,_=>rfl
 | f+1,g+1,t::todo,met,hs,h1,h2=>by
  rw[Iz,Iz]
  cases hc:met.contains (eS (t::todo)) with
  |true=>
   have:=zV n m t todo met
   rw[aa9,aa9]
   exact qu hG f g _ _ hs.pop (by omega) (by omega)
  |false=>
   have:=Aj hG t todo met (hs.ht _ oG) hc
   rw[aa7,aa7]
   exact qu hG f g _ _ (hs.add hG hc) (by omega) (by omega)
def wC(n m:Nat)(L:Gr)(todo met:List Int):List Int:=Iz L (ms n m todo met) todo met
theorem BJ(n m:Nat)(L:Gr)(met:List Int):wC n m L [] met=met:=by
 unfold wC;cases ms n m [] met<;>rfl
theorem Iu{n m:Nat}{L:Gr}(hG:WG n m L){t:Int}{todo met:List Int}(hs:Sd n m (t::todo) met):
  wC n m L (t::todo) met=bif met.contains (eS (t::todo)) then wC n m L (t::todo).dropLast met else wC n m L ((t::todo).dropLast++L.at (eS (t::todo))) (met++[eS (t::todo)]):=by
 have e:ms n m (t::todo) met=(ms n m (t::todo) met - 1)+1:=by unfold ms;simp only[List.length_cons];omega
 unfold wC
 rw[e,Iz]
 cases hc:met.contains (eS (t::todo)) with
 |true=>
  have:=zV n m t todo met
  rw[aa9,aa9]
  exact qu hG _ _ _ _ hs.pop (by omega) (Nat.le_refl _)
 |false=>
  have:=Aj hG t todo met (hs.ht _ oG) hc
  rw[aa7,aa7]
  exact qu hG _ _ _ _ (hs.add hG hc) (by omega) (Nat.le_refl _)
theorem zb{n m:Nat}{L:Gr}(hG:WG n m L)(P:Int->Prop)(hP: ∀x y,P x->y∈L.at x->P y): ∀(f:Nat) (todo met:List Int),Sd n m todo met->ms n m todo met<=f->(∀x,x∈todo\/x∈met->P x)->(∀x,x∈met->∀y,y∈L.at x->y∈met\/y∈todo)->
  (∀x,x∈Iz L f todo met->P x)/\(∀x,x∈todo\/x∈met->x∈Iz L f todo met)/\(∀x,x∈Iz L f todo met->∀y,y∈L.at x->y∈Iz L f todo met)
 |0,todo,met,_,h,h1,h2=>by
  have:todo=[]:=by unfold ms at h;exact List.eq_nil_of_length_eq_zero (by omega)
  subst this
  exact⟨fun x hx=>h1 x (.inr hx),fun x hx=>hx.resolve_left (by simp),fun x hx y hy=>(h2 x hx y hy).resolve_right (by simp)⟩
 |f+1,[],met,_,_,h1,h2=>⟨fun x hx=>h1 x (.inr hx),fun x hx=>hx.resolve_left (by simp),fun x hx y hy=>(h2 x hx y hy).resolve_right (by simp)⟩
 | f +1,t::todo,met,hs,h,h1,h2=>by
  have hd: ∀x,x∈t::todo->x∈(t::todo).dropLast\/x=eS (t::todo):=fun x hx=>by
   rw[←xO (t:=t) (todo:=todo)] at hx
   simpa using hx
  rw[Iz]
  cases hc:met.contains (eS (t::todo)) with
  | true=>
   have hm:eS (t::todo)∈met:=by simpa using hc
   have:=zV n m t todo met
   rw[aa9]
   obtain⟨g1,g2,g3⟩:=zb hG P hP f (t::todo).dropLast met hs.pop (by omega) (fun x hx=>h1 x (hx.imp (fun h=>List.dropLast_subset _ h) id)) (fun x hx y hy=>by
    rcases h2 x hx y hy with h|h
    ·exact .inl h
    ·rcases hd y h with h|rfl
     ·exact .inr h
     ·exact .inl hm)
   refine⟨g1,fun x hx=>?_,g3⟩
   rcases hx with hx|hx
   ·rcases hd x hx with h|rfl
    ·exact g2 x (.inl h)
    ·exact g2 _ (.inr hm)
   ·exact g2 x (.inr hx)
  | false=>
   have:=Aj hG t todo met (hs.ht _ oG) hc
   have hl:=h1 _ (.inl (oG (t:=t) (todo:=todo)))
   rw[aa7]
   obtain⟨g1,g2,g3⟩:=zb hG P hP f _ _ (hs.add hG hc) (by omega) (fun x hx=>by
    rcases hx with hx|hx
    ·rcases List.mem_append.1 hx with hx|hx
     ·exact h1 x (.inl (List.dropLast_subset _ hx))
     ·exact hP _ _ hl hx
    ·rcases List.mem_append.1 hx with hx|hx
     ·exact h1 x (.inr hx)
     ·rw[List.mem_singleton] at hx;rw[hx];exact hl) (fun x hx y hy=>by
    rcases List.mem_append.1 hx with hx|hx
    ·rcases h2 x hx y hy with h|h
     ·exact .inl (ab6 _ h)
     ·rcases hd y h with h|rfl
      ·exact .inr (ab6 _ h)
      ·exact .inl (by simp)
    ·rw[List.mem_singleton] at hx;subst hx
     exact .inr (ab5 _ hy))
   refine⟨g1,fun x hx=>?_,g3⟩
   rcases hx with hx|hx
   ·rcases hd x hx with h|rfl
    ·exact g2 x (.inl (ab6 _ h))
    ·exact g2 _ (.inr (by simp))
   ·exact g2 x (.inr (ab6 _ hx))
def ik(n m:Nat)(L:Gr)(a:Int):List Int:=wC n m L (L.at a) []
theorem mG{n m:Nat}{L:Gr}(hG:WG n m L){a b:Int}(h0:0<=a):b∈ik n m L a↔Rc L a b:=by
 obtain⟨g1,g2,g3⟩:=zb hG (Rc L a) (fun x y h k=>h.step k) _ (L.at a) [] (Sd.start hG h0) (Nat.le_refl _) (fun x hx=>⟨x,hx.resolve_right (by simp), .refl x⟩) (fun x hx=>by cases hx)
 refine⟨g1 b,?_⟩
 rintro⟨c,h1,h2⟩
 have hc:=g2 c (.inl h1)
 clear h1
 induction h2 with
 |refl=>exact hc
 |step h _ ih=>exact ih (g3 _ hc _ h)
def gr(n m:Nat)(L:Gr)(a b:Int):Bool:=decide (a=b)||((ik n m L a).contains b&&(ik n m L b).contains a)
theorem uc{n m:Nat}{L:Gr}(hG:WG n m L){a b:Int}(ha:0<=a)(hb:0<=b):gr n m L a b=true↔a=b\/(Rc L a b/\Rc L b a):=by
 simp only[gr,ab7,aa2,aa3,List.contains_eq_mem,mG hG ha,mG hG hb]
theorem JO(n m:Nat)(L:Gr)(a:Int):gr n m L a a=true:=by simp[gr]
theorem L7(n m:Nat)(L:Gr)(a b:Int):gr n m L a b=gr n m L b a:=by
 simp only[gr,Bool.and_comm,eq_comm]
theorem xH{n m:Nat}{L:Gr}(hG:WG n m L){a b c:Int}(ha:0<=a)(hb:0<=b)(hc:0<=c)(h:gr n m L a b=true)(k:gr n m L b c=true):gr n m L a c=true:=by
 rw[uc hG ha hb] at h
 rw[uc hG hb hc] at k
 rw[uc hG ha hc]
 rcases h with rfl|⟨h1,h2⟩
 ·exact k
 ·rcases k with rfl|⟨k1,k2⟩
  ·exact .inr ⟨h1,h2⟩
  ·exact .inr ⟨h1.trans k1,k2.trans h2⟩
section
variable {n m:Nat} {L:Gr}
def fV(n m:Nat)(L:Gr)(a:Int):List Int:=(gl n).filter (gr n m L a)
def gk(n m:Nat)(L:Gr)(done:List Int)(a:Int):Bool:=!done.contains a&&(ik n m L a).all fun b=>done.contains b||gr n m L a b
def eG(n m:Nat)(L:Gr)(done:List Int):Int:=((gl n).find? (gk n m L done)).getD (-1)
def tH(done l:List Int):List Int:=l.foldl (fun d b=>bif d.contains b then d else d++[b]) done
def si(n m:Nat)(L:Gr):Nat->List Int->List (List Int)
 |0,_=>[]
 |f+1,done=>bif decide (eG n m L done<0) then[] else fV n m L (eG n m L done)::si n m L f (tH done (fV n m L (eG n m L done)))
theorem kK: ∀(l done:List Int) (x:Int),x∈tH done l↔x∈done\/x∈l
 |[],done,x=>by simp[tH]
 | b::l,done,x=>by
  have ih:=kK l (bif done.contains b then done else done++[b]) x
  unfold tH at ih⊢
  rw[List.foldl_cons,ih]
  cases h:done.contains b with
  |true=>
   rw[aa9,ac4]
   have h':b∈done:=by simpa using h
   refine⟨fun h=>h.imp id .inr,?_⟩
   rintro(h|rfl|h)
   ·exact .inl h
   ·exact .inl h'
   ·exact .inr h
  |false=>rw[aa7,List.mem_append,List.mem_singleton,ac4,or_assoc]
theorem rP{done:List Int}(h:0<=eG n m L done):(0<=eG n m L done/\eG n m L done<n)/\gk n m L done (eG n m L done)=true:=by
 unfold eG at h⊢
 cases e:(gl n).find? (gk n m L done) with
 |none=>rw[e] at h;simp at h
 |some a=>
  have h1:=List.find?_some e
  have h2:=List.mem_of_find?_eq_some e
  exact⟨iq.1 h2,h1⟩
theorem HS{done:List Int}(h:eG n m L done<0): ∀a:Int,0<=a->a<n->gk n m L done a=false:=by
 intro a h0 h1
 unfold eG at h
 cases e:(gl n).find? (gk n m L done) with
 |none=>simpa using List.find?_eq_none.1 e a (iq.2 ⟨h0,h1⟩)
 |some b=>
  have h2:=iq.1 (List.mem_of_find?_eq_some e)
  rw[e] at h;simp at h;omega
theorem NA(hG:WG n m L){done:List Int}{a:Int}(h0:0<=a/\a<n)(ha:a∉done):0<=eG n m L done:=by
 let R:Int->Int->Bool:=fun a x=>!done.contains x&&(decide (x=a)||(ik n m L a).contains x)
 have key: ∀(k:Nat) (a:Int),0<=a/\a<n->a∉done->(gl n).countP (R a)<=k->∃b:Int,(0<=b/\b<n)/\gk n m L done b=true:=by
  intro k
  induction k with
  |zero=>
   intro a h0 ha h
   have:0<(gl n).countP (R a):=List.countP_pos_iff.2 ⟨a,iq.2 h0,by simp[R,ha]⟩
   omega
  | succ k ih=>
   intro a h0 ha h
   by_cases hf:gk n m L done a=true
   ·exact⟨a,h0,hf⟩
   ·have: ∃b,b∈ik n m L a/\b∉done/\gr n m L a b=false:=by
     simp only[gk,aa3,Bool.not_eq_true',List.all_eq_true,not_and,List.contains_eq_mem,aa4,ab7,aa2] at hf
     have h1:=hf ha
     simp only[Classical.not_forall,not_or,Bool.not_eq_true] at h1
     obtain⟨b,h2,h3⟩:=h1
     exact⟨b,h2,h3⟩
    obtain⟨b,h2,h3,h4⟩:=this
    have h5:=(mG hG h0.1).1 h2
    have hb:=h5.lk hG h0.1
    refine ih b hb h3 (Nat.le_of_lt_succ (Nat.lt_of_lt_of_le (l4 (fun x _ hx=>?_) ⟨a,iq.2 h0,by simp[R,ha],?_⟩) h))
    ·simp only[R,aa3,ab7,aa2,List.contains_eq_mem,mG hG h0.1,mG hG hb.1] at hx⊢
     refine⟨hx.1, .inr ?_⟩
     rcases hx.2 with rfl|hx
     ·exact h5
     ·exact h5.trans hx
    ·have hm:=h4
     rw[Bool.eq_false_iff,Ne,uc hG h0.1 hb.1,not_or] at hm
     rw[Bool.eq_false_iff]
     simp only[R,Ne,aa3,ab7,aa2,List.contains_eq_mem,mG hG hb.1,not_and,not_or]
     exact fun _=>⟨hm.1,fun h=>hm.2 ⟨h5,h⟩⟩
 obtain⟨b,h1,h2⟩:=key _ a h0 ha (Nat.le_refl _)
 rcases Int.lt_or_le (eG n m L done) 0 with h|h
 ·rw[HS h b h1.1 h1.2] at h2;cases h2
 ·exact h
theorem o7{a b:Int}:b∈fV n m L a↔(0<=b/\b<n)/\gr n m L a b=true:=by
 unfold fV
 rw[List.mem_filter,iq]
theorem qB{done:List Int}(h:0<=eG n m L done):xz n (tH done (fV n m L (eG n m L done)))<xz n done:=by
 obtain⟨h1,h2⟩:=rP h
 have hn:eG n m L done∉done:=by
  simp only[gk,aa3,Bool.not_eq_true',List.contains_eq_mem,aa4] at h2
  exact h2.1
 refine l4 (fun x _ hx=>?_) ⟨eG n m L done,iq.2 h1,by simpa using hn,?_⟩
 ·simp only[Bool.not_eq_true',List.contains_eq_mem,aa4,kK,not_or] at hx⊢
  exact hx.1
 ·simp only[ab4,List.contains_eq_mem,aa2,kK,o7]
  exact .inr ⟨h1,JO _ _ _ _⟩
theorem xC: ∀(f g:Nat) (done:List Int),xz n done<f->xz n done<g->si n m L f done=si n m L g done
 |0,_,_,h,_=>by omega
 |_+1,0,_,_,h=>by omega
 | f+1,g+1,done,h1,h2=>by
  rw[si,si]
  cases h:decide (eG n m L done<0) with
  |true=>rfl
  |false=>
   have:=qB (n:=n) (m:=m) (L:=L) (done:=done) (by simpa using h)
   rw[aa7,aa7,xC f g _ (by omega) (by omega)]
def qQ(n m:Nat)(L:Gr)(done:List Int):List (List Int):=si n m L (xz n done+1) done
theorem qx(done:List Int):qQ n m L done=bif decide (eG n m L done<0) then[] else fV n m L (eG n m L done)::qQ n m L (tH done (fV n m L (eG n m L done))):=by
 unfold qQ
 rw[si]
 cases h:decide (eG n m L done<0) with
 |true=>rfl
 |false=>
  have:=qB (n:=n) (m:=m) (L:=L) (done:=done) (by simpa using h)
  rw[aa7,aa7,xC _ _ _ (by omega) (Nat.lt_succ_self _)]
def Oe(n m:Nat)(L:Gr)(done:List Int):Prop:=∀a b:Int,0<=a->0<=b->b<n->a∈done->gr n m L a b=true->b∈done
theorem J0(hG:WG n m L){done:List Int}(h:Oe n m L done)(hn:0<=eG n m L done):Oe n m L (tH done (fV n m L (eG n m L done))):=by
 intro a b h0 h1 h2 ha hab
 rw[kK] at ha⊢
 rcases ha with ha|ha
 ·exact .inl (h a b h0 h1 h2 ha hab)
 ·rw[o7] at ha
  exact .inr (o7.2 ⟨⟨h1,h2⟩,xH hG hn h0 h1 ha.2 hab⟩)
end
end Go.Rl
namespace Go.Proofs.YthaiinlfnommnaaGreatDoor
open Go Go.Dn Go.Rl Go.Proofs
attribute [local irreducible] bf vc
set_option maxRecDepth 20000
def fH(op:Int):Bool:=decide (op=1)
def jc(op:Int):Bool:=bif decide (op=2) then true else decide (op>=7)
def dX(op:Int):Bool:=bif decide (op<3) then true else decide (op>6)
theorem yKa(κ:Kp)(op:Int)(K:AV->List Dn.Obj->Prop):(bf (V1 κ) 12 44 [.int op] [] K)=(
 K (AV.bool (op==(1:Int))) []):=by kernel_rfl
def Yc:List AV->Option (Bool×AV)
 |[.lit (.int .i64 op)]=>some (true, .bool (fH op))
 |_=>none
theorem pKa(κ:Kp):cy (V1 κ) 12 44 Yc:=by
 intro args x hh
 unfold Yc at hh
 split at hh
 ·rename_i op
  simp only[aa5,ab1,true_and] at hh
  subst hh
  exact⟨_,rfl,rfl,Eq.mpr (yKa κ op _) (by rw[Qd];rfl)⟩
 ·cases hh
noncomputable def Uy(κ:Kp):Env:=(V1 κ).aG 44 Yc
theorem eKa(κ:Kp):aD (Uy κ):=(eCs κ).aG (ZE κ) (pKa κ)
theorem mKa(κ:Kp):aj (Uy κ):=(ZE κ).aG
theorem yKb(κ:Kp)(op:Int)(K:AV->List Dn.Obj->Prop):(bf (Uy κ) 12 73 [.int op] [] K)=(
 aC (op==(2:Int)) (K (AV.bool true) []) (K (AV.bool (decide (op>=(7:Int)))) [])):=by kernel_rfl
def Xo:List AV->Option (Bool×AV)
 |[.lit (.int .i64 op)]=>some (true, .bool (jc op))
 |_=>none
theorem pKb(κ:Kp):cy (Uy κ) 12 73 Xo:=by
 intro args x hh
 unfold Xo at hh
 split at hh
 ·rename_i op
  simp only[aa5,ab1,true_and] at hh
  subst hh
  refine⟨_,rfl,rfl,Eq.mpr (yKb κ op _) ?_⟩
  simp only[Qd]
  unfold jc
  cases decide (op=2)<;>rfl
 ·cases hh
noncomputable def S0(κ:Kp):Env:=(Uy κ).aG 73 Xo
theorem eKb(κ:Kp):aD (S0 κ):=(eKa κ).aG (mKa κ) (pKb κ)
theorem Zb(κ:Kp):aj (S0 κ):=(mKa κ).aG
theorem yKc(κ:Kp)(a:LA)(K:AV->List Dn.Obj->Prop):(bf (S0 κ) 12 115 [a.av] [] K)=(
 aC (decide (a.op<(3:Int))) (K (AV.bool true) []) (K (AV.bool (decide (a.op>(6:Int)))) [])):=by kernel_rfl
def XW:List AV->Option (Bool×AV)
 |[.agg [.lit (.int .i64 op), .agg [.lit (.string _), .ad 56 _], .agg [.lit (.int .i64 _), .lit (.string _), .lit (.int .i64 _), .ad 56 _], .agg [.lit (.int .i64 _), .lit (.string _), .lit (.int .i64 _), .ad 56 _]]]=>some (true, .bool (dX op))
 |_=>none
theorem pKc(κ:Kp):cy (S0 κ) 12 115 XW:=by
 intro args x hh
 unfold XW at hh
 split at hh
 ·rename_i op s l o1 s1 n1 l1 o2 s2 n2 l2
  simp only[aa5,ab1,true_and] at hh
  subst hh
  refine⟨_,rfl,rfl,Eq.mpr (yKc κ ⟨op,s,l,o1,s1,n1,l1,o2,s2,n2,l2⟩ _) ?_⟩
  unfold dX
  simp only
  cases decide (op<3)<;>rfl
 ·cases hh
noncomputable def NJ(κ:Kp):Env:=(S0 κ).aG 115 XW
theorem eKc(κ:Kp):aD (NJ κ):=(eKb κ).aG (Zb κ) (pKc κ)
theorem mKc(κ:Kp):aj (NJ κ):=(Zb κ).aG
theorem xKd(κ:Kp)(l:List AV)(k i:Int)(I:Nat->S->Prop)(n:Nat)(K:Exit->S->Prop):(vc (NJ κ) 12 97 none 0 (ah (Pr κ).toProgram 97 2) (sp 19 [(0, .ad 3 l),(1, .int k),(7, .int l.length),(8, .int i)] []) (bL (NJ κ) 97 2 0 I n K))=(
 letI z1:=i<(↑(l.length):Int)
 aC (decide z1) (ba (decide ((0:Int)<=i)&&decide z1) (aC (k==toInt (nth l i.toNat)) (K Exit.ret (sp 19 [(4,AV.int i)] [])) (∃(e0:Nat),e0<n/\I e0
 (sp 19 [(0,AV.ad 3 l),(1,AV.int k),(7,AV.int (↑(l.length):Int)),(8,AV.int (IntKind.wrap IntKind.i64 (i+(1:Int))))] [])))) (K (Exit.exit 0) (sp 19
 [] []))):=by kernel_rfl
def gZ(k:Int):List AV->Int->Int
 |[],_=> -1
 |a::l,i=>bif decide (k=toInt a) then i else gZ k l (i+1)
abbrev V0(a:List AV×Int×Int):S:=sp 19 [(0, .ad 3 a.1),(1, .int a.2.1),(7, .int a.1.length),(8, .int a.2.2)] []
def KM(a:List AV×Int×Int):Prop:=a.1.length<=aM/\0<=a.2.2/\a.2.2<=a.1.length
def G4(a:List AV×Int×Int):Out (Exit×S):= .aC (decide (gZ a.2.1 (a.1.drop a.2.2.toNat) a.2.2>=0)) (.one (.ret,sp 19 [(4, .int (gZ a.2.1 (a.1.drop a.2.2.toNat) a.2.2))] [])) (.one (.exit 0,sp 19 [] []))
theorem lKd(κ:Kp):bk (NJ κ) 12 97 2 (aP 0 V0 KM G4):=by
 refine aL (fun a=>a.1.length - a.2.2.toNat) ?_
 rintro⟨l,s,i⟩ K ⟨h1,h2,h3⟩ ho
 simp only at h1 h2 h3
 rw[show(NJ κ).P=Pr κ from rfl]
 refine Eq.mpr (xKd κ l s i _ _ K) ?_
 simp only[aM] at h1
 simp only[G4,Out.run,af] at ho
 simp only[af,an,aa2,aa4,aa3,beq_iff_eq,beq_eq_false_iff_ne]
 refine⟨fun hi=>⟨⟨h2,hi⟩,fun e=>?_,fun e=>?_⟩,fun hi=>?_⟩
 ·rw[ab3 (show i.toNat<l.length by omega),←aZ l i.toNat (by omega),gZ,aa8 e,aa9,aa8 (show i>=0 from h2)] at ho
  exact ho.1 rfl
 ·rw[aW (n:=i+1) (by omega) (by omega)]
  refine⟨_,?_,(l,s,i+1),rfl,⟨by simpa[aM] using h1,by simp only;omega,by simp only;omega⟩,rfl,?_⟩
  ·simp only;omega
  ·rw[ab3 (show i.toNat<l.length by omega),←aZ l i.toNat (by omega),gZ,aa6 e,aa7] at ho
   simp only[G4,Out.run,af,show(i+1).toNat=i.toNat+1 by omega]
   exact ho
 ·rw[ab0 (by omega)] at ho
  exact ho.2 rfl
noncomputable def VK(κ:Kp):Env:=(NJ κ).ak 97 2 (aP 0 V0 KM G4)
theorem eKd(κ:Kp):aD (VK κ):=(eKc κ).ak (mKc κ) (lKd κ)
theorem mKd(κ:Kp):aj (VK κ):=(mKc κ).ak aI
theorem yKe(κ:Kp)(l:List AV)(k:Int)(K:AV->List Dn.Obj->Prop):(bf (VK κ) 12 97 [.ad 3 l, .int k] [] K)=(
 ah (Pg.toProgram (Env.P (NJ κ))) 97 2=ah (Pg.toProgram (Env.P (NJ κ))) 97 2/\∃(a:List AV×Int×Int),sp 19 [(0,AV.ad 3 l),(1,AV.int k),
 (7,AV.int (↑(l.length):Int)),(8,AV.int 0)] []=sp 19 [(0,AV.ad 3 a.1),(1,AV.int a.2.1),(7,AV.int (↑(a.1.length):Int)),(8,AV.int a.2.2)] []/\
 (a.1.length<=9223372036854775807/\(0:Int)<=a.2.2/\a.2.2<=(↑(a.1.length):Int))/\aC (decide (gZ a.2.1 (List.drop (Int.toNat a.2.2) a.1) a.2.2>=(0
 :Int))) (K (AV.int (gZ a.2.1 (List.drop (Int.toNat a.2.2) a.1) a.2.2)) []) (K (AV.int (-1)) [])):=by kernel_rfl
def XL:List AV->Option (Bool×AV)
 |[.ad 3 l, .lit (.int .i64 k)]=>some (decide (l.length<=aM), .int (gZ k l 0))
 |_=>none
theorem wA(s:Int): ∀(l:List AV) (i:Int),¬ gZ s l i>=0->0<=i->gZ s l i= -1
 |[],_,_,_=>rfl
 |a::l,i,h,h0=>by
  simp only[gZ] at h⊢
  cases e:decide (s=toInt a) with
  |true=>rw[e] at h;exact absurd h0 h
  |false=>rw[e] at h;exact wA s l (i+1) h (by omega)
theorem pKe(κ:Kp):cy (VK κ) 12 97 XL:=by
 intro args x hh
 unfold XL at hh
 split at hh
 ·rename_i l s
  simp only[aa5,ab1,aa2] at hh
  obtain⟨h1,rfl⟩:=hh
  refine⟨_,rfl,rfl,?_⟩
  refine Eq.mpr (yKe κ l s _) ?_
  refine⟨rfl,(l,s,0),rfl,⟨h1,by simp only;omega,by simp only;omega⟩,?_⟩
  simp only[ab9,ab2,af,aa2,aa4]
  exact⟨fun _=>trivial,fun e=>by rw[wA s l 0 e (by omega)]⟩
 ·cases hh
noncomputable def UK(κ:Kp):Env:=(VK κ).aG 97 XL
theorem eKe(κ:Kp):aD (UK κ):=(eKd κ).aG (mKd κ) (pKe κ)
theorem ZO(κ:Kp):aj (UK κ):=(mKd κ).aG
theorem yKf(κ:Kp)(l:List AV)(k:Int)(K:AV->List Dn.Obj->Prop):(bf (UK κ) 12 57 [.ad 3 l, .int k] [] K)=(
 ba (decide (l.length<=9223372036854775807)) (K (AV.bool (decide (gZ k l (0:Int)>=(0:Int)))) [])):=by kernel_rfl
def SI(k:Int)(l:List AV):Bool:=decide (gZ k l 0>=0)
def Xu:List AV->Option (Bool×AV)
 |[.ad 3 l, .lit (.int .i64 k)]=>some (decide (l.length<=aM), .bool (SI k l))
 |_=>none
theorem pKf(κ:Kp):cy (UK κ) 12 57 Xu:=by
 intro args x hh
 unfold Xu at hh
 split at hh
 ·rename_i l s
  simp only[aa5,ab1,aa2] at hh
  obtain⟨h1,rfl⟩:=hh
  refine⟨_,rfl,rfl,?_⟩
  refine Eq.mpr (yKf κ l s _) ?_
  rw[an,aa2]
  exact⟨h1,rfl⟩
 ·cases hh
noncomputable def PA(κ:Kp):Env:=(UK κ).aG 57 Xu
theorem eKf(κ:Kp):aD (PA κ):=(eKe κ).aG (ZO κ) (pKf κ)
theorem Zm(κ:Kp):aj (PA κ):=(ZO κ).aG
theorem yp(k:Int): ∀(l:List Int) (i:Int),0<=i->(gZ k (iA l) i>=0↔k∈l)
 |[],_,_=>by simp[iA,gZ]
 | a::l,i,h0=>by
  have ih:=yp k l (i+1) (by omega)
  simp only[iA,ac2,gZ] at ih⊢
  by_cases h:k=a
  ·rw[show decide (k=toInt (AV.lit (.int .i64 a)))=true from aa8 h,aa9]
   exact⟨fun _=>by simp[h],fun _=>h0⟩
  ·rw[show decide (k=toInt (AV.lit (.int .i64 a)))=false from aa6 h,aa7,ih]
   simp[h]
theorem EH(k:Int)(l:List Int):SI k (iA l)=l.contains k:=by
 unfold SI
 rw[Bool.eq_iff_iff,aa2,yp k l 0 (by omega)]
 simp
def Ez(ds:List AV)(a:Int):List AV->List (Int×Int)
 |[]=>[]
 |l::bl=>bif dX (toInt (ae l 0)) then(a,bD (toStr (ae (ae l 1) 0)) ds)::Ez ds a bl else Ez ds a bl
def Z4(ds:List AV)(r:AV):List (Int×Int):=Ez ds (bD (toStr (ae (ae r 0) 0)) ds) (ai (ae r 1))
def xi(ds rs:List AV):List (Int×Int):=rs.flatMap (Z4 ds)
def A9(E:List (Int×Int)):List AV:=E.map fun e=> .bp [.int e.1, .int e.2]
theorem Pp(E F:List (Int×Int)):A9 (E++F)=A9 E++A9 F:=by simp[A9]
structure Nb where
 ds:List AV
 rs:List AV
 xs:List AV
 more:List AV
 bl:List AV
 a:Int
 i:Int
 j:Int
abbrev Mu(x:Nb):S:=sp 53 [(0, .cK 0),(1, .ptr 1 0 [] 0),(5, .int x.a),(12, .ad 66 x.rs),(13, .int x.rs.length),(14, .int x.i),(28, .ad 72 x.bl),(29, .int x.bl.length),(30, .int x.j)] [.ext (some x.xs), .box 25 (gS x.ds x.rs)]
theorem xKg(κ:Kp)(x:Nb)(I:Nat->S->Prop)(n:Nat)(K:Exit->S->Prop):(vc (PA κ) 12 114 none 2 (ah (Pr κ).toProgram 114 5) (Mu x) (bL (PA κ) 114 5 2 I n K))=(
 letI z1:=AV.agg [AV.ad 61 x.ds,AV.ad 66 x.rs]
 letI z2:=IntKind.wrap IntKind.i64 (x.j+(1:Int))
 letI z3:=x.bl.length
 aC (decide (x.j<(↑z3:Int))) (ba (decide ((0:Int)<=x.j)&&decide (x.j<(↑z3:Int))) (aC (!dX (toInt (ae (nth x.bl x.j.toNat) 0))) (∃(e0:Nat),e0<n
 /\I e0 (sp 53 [(0,AV.cK 0),(1,AV.ptr 1 0 [] 0),(5,AV.int x.a),(12,AV.ad 66 x.rs),(13,AV.int (↑(x.rs.length):Int)),(14,AV.int x.i),(28,AV.ad 72
 x.bl),(29,AV.int (↑z3:Int)),(30,AV.int z2)] [Obj.ext (some x.xs),Obj.box 25 z1])) (∃(e2:List AV×ByteArray),([AV.ad 61 x.ds,AV.str (toStr (ae (ae
 (nth x.bl x.j.toNat) 1) 0))],aJ)=([AV.ad 61 e2.1,AV.str e2.2],aJ)/\gK e2/\∃(e1:List AV),x.xs=AV.bp [AV.int x.a,AV.int (bD e2.2 e2.1)]::e1/\(∃
 (e0:Nat),e0<n/\I e0 (sp 53 [(0,AV.cK 0),(1,AV.ptr 1 0 [] 0),(5,AV.int x.a),(12,AV.ad 66 x.rs),(13,AV.int (↑(x.rs.length):Int)),(14,AV.int
 x.i),(28,AV.ad 72 x.bl),(29,AV.int (↑z3:Int)),(30,AV.int z2)] [Obj.ext (some e1),Obj.box 25 z1]))/\K Exit.ret (sp 53 [] [Obj.ext none,Obj.box 25
 z1])))) (K (Exit.exit 2) (sp 53 [(0,AV.cK 0),(1,AV.ptr 1 0 [] 0),(12,AV.ad 66 x.rs),(13,AV.int (↑(x.rs.length):Int)),(14,AV.int x.i)] [Obj.ext (some
 x.xs),Obj.box 25 z1]))):=by kernel_rfl
def EX(x:Nb):Prop:=x.ds.length<=aM/\x.bl.length<=aM/\0<=x.j/\x.j<=x.bl.length/\x.xs=A9 (Ez x.ds x.a (x.bl.drop x.j.toNat))++x.more
def MW(x:Nb):Out (Exit×S):= .all (fun _:Bool=>True) fun b=> .aC b
 (.one (.exit 2,sp 53 [(0, .cK 0),(1, .ptr 1 0 [] 0),(12, .ad 66 x.rs),(13, .int x.rs.length),(14, .int x.i)] [.ext (some x.more), .box 25 (gS x.ds x.rs)]))
 (.one (.ret,sp 53 [] [.ext none, .box 25 (gS x.ds x.rs)]))
theorem JL(ds:List AV)(a:Int)(bl:List AV)(k:Nat)(h:k<bl.length):Ez ds a (bl.drop k)=bif dX (toInt (ae (nth bl k) 0)) then(a,bD (toStr (ae (ae (nth bl k) 1) 0)) ds)::Ez ds a (bl.drop (k+1)) else Ez ds a (bl.drop (k+1)):=by
 rw[ab3 h,←aZ bl k h,Ez]
theorem lKg(κ:Kp):bk (PA κ) 12 114 5 (aP 2 Mu EX MW):=by
 refine aL (fun x=>x.bl.length - x.j.toNat) ?_
 rintro⟨ds,rs,xs,more,bl,a,i,j⟩ K ⟨h0,h1,h2,h3,h4⟩ ho
 simp only at h0 h1 h2 h3 h4
 rw[show(PA κ).P=Pr κ from rfl]
 refine Eq.mpr (xKg κ ⟨ds,rs,xs,more,bl,a,i,j⟩ _ _ K) ?_
 simp only[aM] at h1
 have ho1:=ho true trivial
 have ho2:=ho false trivial
 simp only[Out.run,aC] at ho1 ho2
 simp only[af,an,aa2,aa4,aa3]
 refine⟨fun hj=>⟨⟨h2,hj⟩,?_⟩,fun hj=>?_⟩
 ·have hd:=JL ds a bl j.toNat (by omega)
  rw[hd] at h4
  rw[aW (n:=j+1) (by omega) (by omega)]
  have next: ∀ys,ys=A9 (Ez ds a (bl.drop (j.toNat+1)))++more->∃m,m<bl.length - j.toNat/\eY Mu EX MW (fun x=>x.bl.length - x.j.toNat) K m (Mu ⟨ds,rs,ys,more,bl,a,i,j+1⟩):=fun ys hy=>by
   refine⟨_,?_,⟨ds,rs,ys,more,bl,a,i,j+1⟩,rfl,⟨h0,by simpa[aM] using h1,by simp only;omega,by simp only;omega,?_⟩,rfl,ho⟩
   ·simp only;omega
   ·simp only[show(j+1).toNat=j.toNat+1 by omega];exact hy
  refine⟨fun e=>?_,fun e=>?_⟩
  ·rw[show dX (toInt (ae (nth bl j.toNat) 0))=false by simpa using e] at h4
   exact next _ h4
  ·rw[show dX (toInt (ae (nth bl j.toNat) 0))=true by simpa using e] at h4
   exact⟨(ds,toStr (ae (ae (nth bl j.toNat) 1) 0)),rfl,h0,_,h4,next _ rfl,ho2⟩
 ·rw[ab0 (by omega)] at h4
  have h4:xs=more:=h4
  subst h4
  exact ho1
noncomputable def NZ(κ:Kp):Env:=(PA κ).ak 114 5 (aP 2 Mu EX MW)
theorem eKg(κ:Kp):aD (NZ κ):=(eKf κ).ak (Zm κ) (lKg κ)
theorem ZX(κ:Kp):aj (NZ κ):=(Zm κ).ak aI
abbrev NF(x:Nb):S:=sp 53 [(0, .cK 0),(1, .ptr 1 0 [] 0),(12, .ad 66 x.rs),(13, .int x.rs.length),(14, .int x.i)] [.ext (some x.xs), .box 25 (gS x.ds x.rs)]
theorem xKh(κ:Kp)(x:Nb)(I:Nat->S->Prop)(n:Nat)(K:Exit->S->Prop):(vc (NZ κ) 12 114 none 2 (ah (Pr κ).toProgram 114 1) (NF x) (bL (NZ κ) 114 1 2 I n K))=(
 letI z1:=AV.agg [AV.ad 61 x.ds,AV.ad 66 x.rs]
 letI z2:=nth x.rs x.i.toNat
 letI z3:=x.i<(↑(x.rs.length):Int)
 letI z4:=Pg.toProgram (Env.P (PA κ))
 aC (decide z3) (ba (decide ((0:Int)<=x.i)&&decide z3) (∃(e3:List AV×ByteArray),([AV.ad 61 x.ds,AV.str (toStr (ae (ae z2 0) 0))],aJ)=([AV.ad 61
 e3.1,AV.str e3.2],aJ)/\gK e3/\ah z4 114 5=ah z4 114 5/\∃(e2:Nb),sp 53 [(0,AV.cK 0),(1,AV.ptr 1 0 [] 0),(5,AV.int (bD e3.2 e3.1)),(12,AV.ad 66
 x.rs),(13,AV.int (↑(x.rs.length):Int)),(14,AV.int x.i),(28,AV.ad 72 (ai (ae z2 1))),(29,AV.int (↑(List.length (ai (ae z2 1))):Int)),(30,AV.int 0)]
 [Obj.ext (some x.xs),Obj.box 25 z1]=sp 53 [(0,AV.cK 0),(1,AV.ptr 1 0 [] 0),(5,AV.int e2.a),(12,AV.ad 66 e2.rs),(13,AV.int (↑(e2.rs.length):Int)),
 (14,AV.int e2.i),(28,AV.ad 72 e2.bl),(29,AV.int (↑(e2.bl.length):Int)),(30,AV.int e2.j)] [Obj.ext (some e2.xs),Obj.box 25 (AV.agg [AV.ad 61 e2.ds,
 AV.ad 66 e2.rs])]/\(e2.ds.length<=9223372036854775807/\e2.bl.length<=9223372036854775807/\(0:Int)<=e2.j/\e2.j<=(↑(e2.bl.length):Int)/\e2.xs=A9
 (Ez e2.ds e2.a (List.drop e2.j.toNat e2.bl))++e2.more)/\∀(e1:Bool),True->aC e1 (∃(e0:Nat),e0<n/\I e0 (sp 53 [(0,AV.cK 0),(1,AV.ptr 1 0 [] 0),
 (12,AV.ad 66 e2.rs),(13,AV.int (↑(e2.rs.length):Int)),(14,AV.int (IntKind.wrap IntKind.i64 (e2.i+(1:Int))))] [Obj.ext (some e2.more),Obj.box 25
 (AV.agg [AV.ad 61 e2.ds,AV.ad 66 e2.rs])])) (K Exit.ret (sp 53 [] [Obj.ext none,Obj.box 25 (AV.agg [AV.ad 61 e2.ds,AV.ad 66 e2.rs])])))) (K (Exit.exit 0) (sp
 53 [] [Obj.ext (some x.xs),Obj.box 25 z1]))):=by kernel_rfl
def Lv(rs:List AV):Prop:=∀r,r∈rs->(ai (ae r 1)).length<=aM
def DZ(x:Nb):Prop:=x.ds.length<=aM/\x.rs.length<=aM/\Lv x.rs/\0<=x.i/\x.i<=x.rs.length/\x.xs=A9 (xi x.ds (x.rs.drop x.i.toNat))
def KN(x:Nb):Out (Exit×S):= .all (fun _:Bool=>True) fun b=> .aC b
 (.one (.exit 0,sp 53 [] [.ext (some []), .box 25 (gS x.ds x.rs)]))
 (.one (.ret,sp 53 [] [.ext none, .box 25 (gS x.ds x.rs)]))
theorem lKh(κ:Kp):bk (NZ κ) 12 114 1 (aP 2 NF DZ KN):=by
 refine aL (fun x=>x.rs.length - x.i.toNat) ?_
 rintro⟨ds,rs,xs,more,bl,a,i,j⟩ K ⟨h0,h1,h5,h2,h3,h4⟩ ho
 simp only at h0 h1 h2 h3 h4 h5
 rw[show(NZ κ).P=Pr κ from rfl]
 refine Eq.mpr (xKh κ ⟨ds,rs,xs,more,bl,a,i,j⟩ _ _ K) ?_
 simp only[aM] at h1
 have ho1:=ho true trivial
 have ho2:=ho false trivial
 simp only[Out.run,aC] at ho1 ho2
 simp only[af,an,aa2,aa4,aa3]
 refine⟨fun hi=>⟨⟨h2,hi⟩,(ds,toStr (ae (ae (nth rs i.toNat) 0) 0)),rfl,h0,?_⟩,fun hi=>?_⟩
 ·have hk:i.toNat<rs.length:=by omega
  rw[xi,ab3 hk,←aZ rs i.toNat hk,List.flatMap_cons,Pp] at h4
  refine⟨trivial,⟨ds,rs,xs,A9 (xi ds (rs.drop (i.toNat+1))),ai (ae (nth rs i.toNat) 1),bD (toStr (ae (ae (nth rs i.toNat) 0) 0)) ds,i,0⟩,rfl,⟨h0,?_,by simp only;omega,by simp only;omega,h4⟩,?_⟩
  ·exact h5 _ (by rw[aZ _ _ hk];exact List.getElem_mem _)
  ·intro y _
   refine⟨fun _=>?_,fun _=>ho2⟩
   ·show∃m,m<rs.length - i.toNat/\eY NF DZ KN (fun x=>x.rs.length - x.i.toNat) K m (sp 53 [(0, .cK 0),(1, .ptr 1 0 [] 0),(12, .ad 66 rs),(13, .int rs.length),(14, .int (IntKind.wrap IntKind.i64 (i+1)))] [.ext (some (A9 (xi ds (rs.drop (i.toNat+1))))), .box 25 (gS ds rs)])
    rw[aW (n:=i+1) (by omega) (by omega)]
    refine⟨_,?_,⟨ds,rs,_,more,bl,a,i+1,j⟩,rfl,⟨h0,by simpa[aM] using h1,h5,by simp only;omega,by simp only;omega,?_⟩,rfl,ho⟩
    ·simp only;omega
    ·simp only[show(i+1).toNat=i.toNat+1 by omega];rfl
 ·rw[ab0 (by omega)] at h4
  have h4:xs=[]:=h4
  subst h4
  exact ho1
noncomputable def UZ(κ:Kp):Env:=(NZ κ).ak 114 1 (aP 2 NF DZ KN)
theorem eKh(κ:Kp):aD (UZ κ):=(eKg κ).ak (ZX κ) (lKh κ)
theorem mKh(κ:Kp):aj (UZ κ):=(ZX κ).ak aI
theorem yKi(κ:Kp)(ds rs xs:List AV)(K:AV->List Dn.Obj->Prop):(bf (UZ κ) 12 114 [.cK 0, .ptr 1 0 [] 0] [.ext (some xs), .box 25 (gS ds rs)] K)=(
 ah (Pg.toProgram (Env.P (NZ κ))) 114 1=ah (Pg.toProgram (Env.P (NZ κ))) 114 1/\∃(a:Nb),sp 53 [(0,AV.cK 0),(1,AV.ptr 1 0 [] 0),(12,
 AV.ad 66 rs),(13,AV.int (↑(rs.length):Int)),(14,AV.int 0)] [Obj.ext (some xs),Obj.box 25 (AV.agg [AV.ad 61 ds,AV.ad 66 rs])]=sp 53 [(0,AV.cK 0),
 (1,AV.ptr 1 0 [] 0),(12,AV.ad 66 a.rs),(13,AV.int (↑(a.rs.length):Int)),(14,AV.int a.i)] [Obj.ext (some a.xs),Obj.box 25 (AV.agg [AV.ad 61 a.ds,
 AV.ad 66 a.rs])]/\(a.ds.length<=9223372036854775807/\a.rs.length<=9223372036854775807/\(∀(r:AV),List.Mem r a.rs->List.length (ai (ae r 1))<=
 9223372036854775807)/\(0:Int)<=a.i/\a.i<=(↑(a.rs.length):Int)/\a.xs=A9 (xi a.ds (List.drop a.i.toNat a.rs)))/\∀(y:Bool),True->aC y (K
 (AV.bp []) [Obj.ext (some []),Obj.box 25 (AV.agg [AV.ad 61 a.ds,AV.ad 66 a.rs])]) (K (AV.bp []) [Obj.ext none,Obj.box 25 (AV.agg [AV.ad 61 a.ds,AV.ad
 66 a.rs])])):=by kernel_rfl
def QJ(x:sm):List AV×List Dn.Obj:=([.cK 0, .ptr 1 0 [] 0],[.ext (some (A9 (xi x.1 x.2))), .box 25 (gS x.1 x.2)])
def Fc(x:sm):Prop:=x.1.length<=aM/\x.2.length<=aM/\Lv x.2
def Mk(_:sm):Out (AV×List Dn.Obj):= .all (fun st'=>qN st') fun st'=> .one (.bp [],st')
theorem cKi(κ:Kp):bz (UZ κ) 12 114 (aR QJ Fc Mk):=by
 refine bg ?_
 rintro⟨ds,rs⟩ K ⟨h1,h2,h3⟩ ho
 refine Eq.mpr (yKi κ ds rs (A9 (xi ds rs)) K) ?_
 refine⟨rfl,⟨ds,rs,A9 (xi ds rs),[],[],0,0,0⟩,rfl,⟨h1,h2,h3,by simp only;omega,by simp only;omega,rfl⟩,fun y _=>?_⟩
 cases y
 ·exact ho _ trivial
 ·exact ho _ trivial
set_option maxRecDepth 20000 in
noncomputable def zN(κ:Kp):Env:=(UZ κ).ay 114 (aR QJ Fc Mk)
theorem eKi(κ:Kp):aD (zN κ):=(eKh κ).ay (mKh κ) (cKi κ)
theorem Zx(κ:Kp):aj (zN κ):=(mKh κ).ay aK
end Go.Proofs.YthaiinlfnommnaaGreatDoor
namespace Go.Proofs.YthaiinlfnommnaaGreatDoor
open Go Go.Dn Go.Rl Go.Proofs
theorem qC{f:AV->Int}: ∀{rs:List AV},(Hu f rs).2=0↔ ∀x,x∈rs->f x=0
 |[]=>by simp[Hu]
 |x::l=>by
  rw[Hu]
  by_cases h:f x=0
  ·rw[aa8 h,aa9,qC];simp[h]
  ·rw[aa6 h,aa7];simp[h]
theorem zR{ds rs:List AV}:(ft ds rs).2=0↔fc ds rs=true/\(PU ds ds 0).2=0/\(∀x,x∈rs->jN ds x=0)/\∀x,x∈rs->jo x=0:=by
 unfold ft vM
 cases fc ds rs with
 |false=>simp
 | true=>
  simp only[aa9,true_and]
  by_cases h:(PU ds ds 0).2=0
  ·rw[aa8 h,aa9]
   by_cases h2:(Hu (jN ds) rs).2=0
   ·rw[aa8 h2,aa9,qC]
    exact⟨fun h3=>⟨h,qC.1 h2,h3⟩,fun h3=>h3.2.2⟩
   ·rw[aa6 h2,aa7]
    exact⟨fun h3=>absurd h3 h2,fun h3=>absurd (qC.2 h3.2.1) h2⟩
  ·rw[aa6 h,aa7,aa6 h,aa7]
   exact⟨fun h3=>absurd h3 h,fun h3=>absurd h3.1 h⟩
theorem Md{ds:List AV}{a:At}(h:known (cQ ds) a=0):0<=bD a.rel ds/\bD a.rel ds<ds.length:=by
 unfold known at h
 cases e:j8 a.rel (cQ ds) with
 |none=>rw[e] at h;cases h
 |some k=>obtain⟨_,h2,h3⟩:=qD e;rw[h2];omega
theorem VV{ds:List AV}{r:cq}(h:(sa (ds,r)).1=0):j2 (cQ ds) (aH r)=0:=by
 by_cases e:j2 (cQ ds) (aH r)=0
 ·exact e
 ·exfalso
  have hr: ∀n,(fM getM gp (cQ ds) (aH r) (n+1) []).1=j2 (cQ ds) (aH r):=fun n=>by
   rw[fM,CZ _ _ _ e,aa6 e,aa7]
  unfold sa pH at h
  simp only[hr,aa6 e,aa7] at h
  exact e h
theorem vB{ds:List Dc}: ∀{b:List Lt},iX ds b=0->∀l,l∈b->Rl.dX l=true->known ds l.a=0
 |[],_,_,h,_=>nomatch h
 | x::b,hk,l,hl,ha=>by
  rw[iX] at hk
  cases e:Rl.dX x&& !decide (known ds x.a=0) with
  |true=>
   rw[e,aa9] at hk
   rw[hk] at e;simp at e
  |false=>
   rw[e,aa7] at hk
   rcases List.mem_cons.1 hl with rfl|hl
   ·rw[ha] at e;simpa using e
   ·exact vB hk l hl ha
theorem Bg{ds rs:List AV}(h:(ft ds rs).2=0){r:AV}(hr:r∈rs):(0<=bD (toStr (ae (ae r 0) 0)) ds/\bD (toStr (ae (ae r 0) 0)) ds<ds.length)/\
  ∀l,l∈ai (ae r 1)->dX (toInt (ae l 0))=true->0<=bD (toStr (ae (ae l 1) 0)) ds/\bD (toStr (ae (ae l 1) 0)) ds<ds.length:=by
 obtain⟨h1,_,h2,_⟩:=zR.1 h
 have ht:=h2 r hr
 have hk:j2 (cQ ds) (aH (dW r))=0:=by
  refine VV ?_
  unfold jN at ht
  cases e:fc ds [aq (dW r)] with
  |true=>rw[e,aa9] at ht;exact ht
  |false=>rw[e,aa7] at ht;cases ht
 unfold j2 at hk
 cases e:decide (known (cQ ds) (aH (dW r)).head=0) with
 |false=>rw[e,aa7] at hk;simp[hk] at e
 |true=>
  rw[e,aa9] at hk
  refine⟨Md (a:=(aH (dW r)).head) (by simpa using e),fun l hl ha=>?_⟩
  have hm:cU l∈(aH (dW r)).body:=List.mem_map_of_mem hl
  refine Md (a:=(cU l).a) (vB hk _ hm ?_)
  have e1:(cU l).op=toInt (ae l 0):=rfl
  unfold Rl.dX
  rw[e1]
  unfold dX at ha
  cases h3:decide (toInt (ae l 0)<3) with
  |true=>rfl
  |false=>rw[h3,aa7] at ha;simpa using ha
theorem Ar{ds:List AV}{a:Int}{e:Int×Int}: ∀{bl:List AV},e∈Ez ds a bl↔ ∃l,l∈bl/\dX (toInt (ae l 0))=true/\e=(a,bD (toStr (ae (ae l 1) 0)) ds)
 |[]=>by simp[Ez]
 | x::bl=>by
  rw[Ez]
  cases h:dX (toInt (ae x 0)) with
  | true=>
   rw[aa9,ac4,Ar]
   constructor
   ·rintro(rfl|⟨l,h1,h2⟩)
    ·exact⟨x,by simp,h,rfl⟩
    ·exact⟨l,by simp[h1],h2⟩
   ·rintro⟨l,h1,h2,h3⟩
    rcases List.mem_cons.1 h1 with rfl|h1
    ·exact .inl h3
    ·exact .inr ⟨l,h1,h2,h3⟩
  | false=>
   rw[aa7,Ar]
   constructor
   ·rintro⟨l,h1,h2⟩
    exact⟨l,by simp[h1],h2⟩
   ·rintro⟨l,h1,h2,h3⟩
    rcases List.mem_cons.1 h1 with rfl|h1
    ·rw[h] at h2;cases h2
    ·exact⟨l,h1,h2,h3⟩
theorem Ow{ds rs:List AV}{e:Int×Int}:e∈xi ds rs↔ ∃r,r∈rs/\∃l,l∈ai (ae r 1)/\dX (toInt (ae l 0))=true/\e=(bD (toStr (ae (ae r 0) 0)) ds,bD (toStr (ae (ae l 1) 0)) ds):=by
 unfold xi
 rw[List.mem_flatMap]
 exact exists_congr fun r=>and_congr_right fun _=>Ar
def UX(ds rs:List AV):Prop:=∀e,e∈xi ds rs->(0<=e.1/\e.1<ds.length)/\0<=e.2/\e.2<ds.length
theorem Vv{ds rs:List AV}(h:(ft ds rs).2=0):UX ds rs:=by
 intro e he
 obtain⟨r,h1,l,h2,h3,rfl⟩:=Ow.1 he
 have:=Bg h h1
 exact⟨this.1,this.2 l h2 h3⟩
end Go.Proofs.YthaiinlfnommnaaGreatDoor
namespace Go.Rl
open Go Go.Dn
theorem sE(D:List Int)(b:Int): ∃t td,D++[b]=t::td/\(t::td).dropLast=D/\eS (t::td)=b:=by
 cases D with
 |nil=>exact⟨b,[],rfl,rfl,rfl⟩
 | cons t D=>
  refine⟨t,D++[b],rfl,?_,?_⟩
  ·rw[←List.cons_append,List.dropLast_concat]
  ·have:=xO (t:=t) (todo:=D++[b])
   rw[←List.cons_append,List.dropLast_concat] at this
   simpa using List.append_inj_right this rfl
theorem yB{n m:Nat}{L:Gr}(hG:WG n m L){D met:List Int}{b:Int}(hs:Sd n m (D++[b]) met):
  wC n m L (D++[b]) met=bif met.contains b then wC n m L D met else wC n m L (D++L.at b) (met++[b]):=by
 obtain⟨t,td,e,e1,e2⟩:=sE D b
 rw[e] at hs⊢
 rw[Iu hG hs,e1,e2]
theorem Sd.Vm{n m:Nat}{D met:List Int}{b:Int}(h:Sd n m (D++[b]) met):Sd n m D met/\ms n m D met<ms n m (D++[b]) met:=by
 obtain⟨t,td,e,e1,e2⟩:=sE D b
 rw[e] at h⊢
 have h1:=h.pop
 have h2:=zV n m t td met
 rw[e1] at h1 h2
 exact⟨h1,h2⟩
theorem Sd.S1{n m:Nat}{L:Gr}(hG:WG n m L){D met:List Int}{b:Int}(h:Sd n m (D++[b]) met)(hn:met.contains b=false):Sd n m (D++L.at b) (met++[b])/\ms n m (D++L.at b) (met++[b])<ms n m (D++[b]) met:=by
 obtain⟨t,td,e,e1,e2⟩:=sE D b
 have hb:=h.ht b (by simp)
 rw[e] at h⊢
 rw[←e2] at hn hb
 have h1:=h.add hG hn
 have h2:=Aj hG t td met hb hn
 rw[e1,e2] at h1 h2
 exact⟨h1,h2⟩
end Go.Rl
namespace Go.Proofs.YthaiinlfnommnaaGreatDoor
open Go Go.Dn Go.Rl Go.Proofs
attribute [local irreducible] bf vc
set_option maxRecDepth 20000
abbrev gq(k:Int):Value:= .int .i64 k
def dE(L:Gr):List (List Value):=L.map fun l=>l.map gq
def iF(l:List Int):List (Value×AV):=l.map fun k=>(gq k, .lit (.bool true))
abbrev SP(l:List Int):AV:= .jJ 3 4 (l.map gq) (l.map fun _=> .lit (.bool true))
theorem GI: ∀(l:List (List Int)) (k:Nat),cd (l.map fun l=>l.map gq) k=(l.getD k []).map gq
 |[],k=>by cases k<;>rfl
 |_::_,0=>rfl
 |_::l,k+1=>by simpa[cd] using GI l k
theorem mu(L:Gr)(a:Int):cd (dE L) a.toNat=(L.at a).map gq:=GI L a.toNat
theorem ma(b:Int): ∀l:List Int,dt (iF l) (gq b) (.lit (.bool false))= .lit (.bool (l.contains b))
 |[]=>rfl
 |a::l=>by
  have ih:=ma b l
  simp only[iF,ac2,dt] at ih⊢
  have e:dn (gq b) (gq a)=(b==a):=by simp[dn]
  rw[e,ih,List.contains_cons]
  cases b==a<;>rfl
theorem qG(b:Int): ∀l:List Int,ff (iF l) (gq b) (.lit (.bool true))=iF (bif l.contains b then l else l++[b])
 |[]=>rfl
 | a::l=>by
  have ih:=qG b l
  simp only[iF,ac2,ff] at ih⊢
  have e:dn (gq b) (gq a)=(b==a):=by simp[dn]
  rw[e,ih,List.contains_cons]
  cases h:b==a with
  |true=>
   have:b=a:=by simpa using h
   subst this;rfl
  |false=>cases l.contains b<;>rfl
theorem ug(l:List Int):(iF l).map (·.1)=l.map gq:=by simp[iF]
theorem tQ(l:List Int):(iF l).map (·.2)=l.map fun _=> .lit (.bool true):=by simp[iF]
abbrev KA(ls:List (List Value)):Dn.Obj:= .rows 38 3 ls none
abbrev tw(n:Nat)(ls:List (List Value))(fs:List AV):List Dn.Obj:=[.box 122 (.agg [.ar 1 0 n, .ar 2 0 fs.length]),KA ls, .row 89 fs]
abbrev xt(n:Nat)(ls:List (List Value)):List Dn.Obj:=[.box 122 (.agg [.ar 1 0 n, .nil]),KA ls]
theorem Og(D tl:List AV)(x:AV):nth (D++x::tl) (0+D.length)=x:=by
 rw[Nat.zero_add]
 induction D with
 |nil=>rfl
 |cons a D ih=>exact ih
theorem Hh(D:List Int)(b:Int)(tl:List AV):((D++[b]).length:Int) - 1=D.length/\iA (D++[b])++tl=iA D++AV.int b::tl/\nth (iA D++AV.int b::tl) (0+D.length)=AV.int b/\(iA D++AV.int b::tl).take D.length=iA D/\toInt (AV.int b)=b:=by
 have e2:=Og (iA D) tl (AV.int b)
 rw[fv] at e2
 exact⟨by simp,by simp[iA],e2,List.take_left' (fv D),rfl⟩
theorem Cl(L:Gr)(a:Int):(cd (dE L) a.toNat).length=(L.at a).length:=by rw[mu,List.length_map]
theorem Ep(L:Gr)(a:Int):List.map AV.lit (List.take (cd (dE L) a.toNat).length (cd (dE L) a.toNat))=iA (L.at a):=by
 rw[List.take_length,mu,List.map_map];rfl
structure Nc where
 n:Nat
 m:Nat
 L:Gr
 fs:List AV
 todo:List Int
 met:List Int
 tl:List AV
def zS(x:Nc):Prop:=WG x.n x.m x.L/\Sd x.n x.m x.todo x.met/\(x.n+1)*x.m<=1000000000
def j9(x:Nc):List Int:=wC x.n x.m x.L x.todo x.met
theorem xRe(κ:Kp)(N:Nat)(ls:List (List Value))(fs:List AV)(es:List (Value×AV))(ws:List AV)(k:Nat)(I:Nat->S->Prop)(n:Nat)(K:Exit->S->Prop):(vc (zN κ) 12 72 none 3 (ah (Pr κ).toProgram 72 3) (sp 48 [(0, .ptr 0 0 [] 0),(5, .mp 3),(6, .ar 4 0 k)] (tw N ls fs++[.map 3 4 es, .row 3 ws])) (bL (zN κ) 72 3 3 I n K))=(
 letI z2:=(↑k:Int) - (1:Int)
 letI z4:=IntKind.wrap IntKind.i64 z2
 letI z1:=nth ws (0+Int.toNat z4)
 letI z5:=AV.agg [AV.ar 1 0 N,AV.ar 2 0 fs.length]
 letI z6:=(0:Int)<=IntKind.wrap IntKind.i64 z2
 letI z7:=Value.int IntKind.i64 (toInt z1)
 letI z8:=cd ls (Int.toNat (toInt z1))
 letI z3:=List.take (List.length z8) z8
 aC (decide ((↑k:Int)>(0:Int))) (ba (decide z6&&decide (IntKind.wrap IntKind.i64 z2<(↑k:Int))) (ba (decide z6&&decide (IntKind.wrap IntKind.i64 z2
 <=IntKind.wrap IntKind.i64 z2)&&decide (IntKind.wrap IntKind.i64 z2<=(↑k:Int))) (aC (!Dn.toBool (dt es z7 (AV.bool false))) (ba (decide ((0:Int)<=toInt
 z1)&&decide (toInt z1<(↑N:Int))) (ba (decide ((Int.toNat z4+List.length (List.map AV.lit z3)+1)*9<=70368744177664)) (∃(e0:Nat),e0<n/\I e0
 (sp 48 [(0,AV.ptr 0 0 [] 0),(5,AV.mp 3),(6,AV.ar 4 0 (Int.toNat z4+List.length (List.map AV.lit z3)))] [Obj.box 122 z5,Obj.rows 38 3 ls none,Obj.row 89
 fs,Dn.Obj.map 3 4 (ff es z7 (AV.bool true)),Obj.row 3 (List.take (Int.toNat z4) ws++List.map AV.lit z3)])))) (∃(e0:Nat),e0<n/\I e0 (sp 48 [(0,AV.ptr
 0 0 [] 0),(5,AV.mp 3),(6,AV.ar 4 0 (Int.toNat z4))] [Obj.box 122 z5,Obj.rows 38 3 ls none,Obj.row 89 fs,Dn.Obj.map 3 4 es,Obj.row 3 ws]))))) (K
 (Exit.exit 0) (sp 48 [(5,AV.mp 3)] [Obj.box 122 z5,Obj.rows 38 3 ls none,Obj.row 89 fs,Dn.Obj.map 3 4 es]))):=by kernel_rfl
abbrev Rg(x:Nc):S:=sp 48 [(0, .ptr 0 0 [] 0),(5, .mp 3),(6, .ar 4 0 x.todo.length)] (tw x.n (dE x.L) x.fs++[.map 3 4 (iF x.met), .row 3 (iA x.todo++x.tl)])
def BG(x:Nc):Out (Exit×S):= .one (.exit 0,sp 48 [(5, .mp 3)] (tw x.n (dE x.L) x.fs++[.map 3 4 (iF (j9 x))]))
theorem lRe(κ:Kp):bk (zN κ) 12 72 3 (aP 3 Rg zS BG):=by
 refine aL (fun x=>ms x.n x.m x.todo x.met) ?_
 rintro⟨n,m,L,fs,todo,met,tl⟩ K ⟨hG,hS,hb⟩ ho
 simp only at hG hS hb
 rw[show(zN κ).P=Pr κ from rfl]
 refine Eq.mpr (xRe κ n (dE L) fs (iF met) (iA todo++tl) todo.length _ _ K) ?_
 simp only[BG,j9,Out.run] at ho
 rw[af,aa2,aa4]
 refine⟨fun h=>?_,fun h=>?_⟩
 ·obtain⟨D,b,rfl⟩: ∃D b,todo=D++[b]:=⟨_,_,(List.dropLast_concat_getLast (by intro e;subst e;simp at h)).symm⟩
  have hle:=hS.le
  have hbr:=hS.ht b (by simp)
  have hlm:=hG.le b
  have hlen:=hG.len
  have hmn:m<=(n+1)*m:=Nat.le_mul_of_pos_left m (Nat.succ_pos n)
  obtain⟨e0,e1,e2,e3,e4⟩:=Hh D b tl
  simp only[ac0,List.length_singleton] at hle
  rw[e0,aW (n:=(D.length:Int)) (by omega) (by omega),e1,Int.toNat_natCast,e2,e3,e4,ma,qG,mu,List.take_length,List.map_map]
  rw[yB hG hS] at ho
  simp only[an,af,aa2,aa3,List.length_map,ac0,List.length_singleton,show Dn.toBool (AV.lit (.bool (met.contains b)))=met.contains b from rfl]
  refine⟨⟨by omega,by omega⟩,⟨⟨by omega,by omega⟩,by omega⟩,fun e=>?_,fun e=>?_⟩
  ·have e:met.contains b=false:=by simpa using e
   obtain⟨h1,h2⟩:=hS.S1 hG e
   rw[e,aa7] at ho
   refine⟨⟨by omega,by omega⟩,by omega,_,h2,⟨n,m,L,fs,D++L.at b,met++[b],[]⟩,?_,⟨hG,h1,hb⟩,rfl,?_⟩
   ·rw[e,aa7]
    simp only[Rg,List.append_nil,ac0,wQ]
    rfl
   ·simp only[BG,j9,Out.run]
    exact ho
  ·have e:met.contains b=true:=by simpa using e
   obtain⟨h1,h2⟩:=hS.Vm
   rw[e,aa9] at ho
   refine⟨_,h2,⟨n,m,L,fs,D,met,AV.int b::tl⟩,rfl,⟨hG,h1,hb⟩,rfl,?_⟩
   simp only[BG,j9,Out.run]
   exact ho
 ·obtain rfl:todo=[]:=List.eq_nil_of_length_eq_zero (by omega)
  rw[BJ] at ho
  exact ho
theorem xRz(κ:Kp)(N:Nat)(ls:List (List Value))(es:List (Value×AV))(ws:List AV)(k:Nat)(I:Nat->S->Prop)(n:Nat)(K:Exit->S->Prop):(vc (zN κ) 12 72 none 2 (ah (Pr κ).toProgram 72 3) (sp 48 [(0, .ptr 0 0 [] 0),(5, .mp 2),(6, .ar 3 0 k)] (xt N ls++[.map 3 4 es, .row 3 ws])) (bL (zN κ) 72 3 2 I n K))=(
 letI z2:=(↑k:Int) - (1:Int)
 letI z4:=IntKind.wrap IntKind.i64 z2
 letI z1:=nth ws (0+Int.toNat z4)
 letI z5:=AV.agg [AV.ar 1 0 N,AV.nil]
 letI z6:=(0:Int)<=IntKind.wrap IntKind.i64 z2
 letI z7:=Value.int IntKind.i64 (toInt z1)
 letI z8:=cd ls (Int.toNat (toInt z1))
 letI z3:=List.take (List.length z8) z8
 aC (decide ((↑k:Int)>(0:Int))) (ba (decide z6&&decide (IntKind.wrap IntKind.i64 z2<(↑k:Int))) (ba (decide z6&&decide (IntKind.wrap IntKind.i64 z2
 <=IntKind.wrap IntKind.i64 z2)&&decide (IntKind.wrap IntKind.i64 z2<=(↑k:Int))) (aC (!Dn.toBool (dt es z7 (AV.bool false))) (ba (decide ((0:Int)<=toInt
 z1)&&decide (toInt z1<(↑N:Int))) (ba (decide ((Int.toNat z4+List.length (List.map AV.lit z3)+1)*9<=70368744177664)) (∃(e0:Nat),e0<n/\I e0
 (sp 48 [(0,AV.ptr 0 0 [] 0),(5,AV.mp 2),(6,AV.ar 3 0 (Int.toNat z4+List.length (List.map AV.lit z3)))] [Obj.box 122 z5,Obj.rows 38 3 ls none,Dn.Obj.map
 3 4 (ff es z7 (AV.bool true)),Obj.row 3 (List.take (Int.toNat z4) ws++List.map AV.lit z3)])))) (∃(e0:Nat),e0<n/\I e0 (sp 48 [(0,AV.ptr 0 0 [] 0),(5,
 AV.mp 2),(6,AV.ar 3 0 (Int.toNat z4))] [Obj.box 122 z5,Obj.rows 38 3 ls none,Dn.Obj.map 3 4 es,Obj.row 3 ws]))))) (K (Exit.exit 0) (sp 48 [(5,AV.mp 2)]
 [Obj.box 122 z5,Obj.rows 38 3 ls none,Dn.Obj.map 3 4 es]))):=by kernel_rfl
abbrev Sm(x:Nc):S:=sp 48 [(0, .ptr 0 0 [] 0),(5, .mp 2),(6, .ar 3 0 x.todo.length)] (xt x.n (dE x.L)++[.map 3 4 (iF x.met), .row 3 (iA x.todo++x.tl)])
def Bi(x:Nc):Out (Exit×S):= .one (.exit 0,sp 48 [(5, .mp 2)] (xt x.n (dE x.L)++[.map 3 4 (iF (j9 x))]))
theorem lRz(κ:Kp):bk (zN κ) 12 72 3 (aP 2 Sm zS Bi):=by
 refine aL (fun x=>ms x.n x.m x.todo x.met) ?_
 rintro⟨n,m,L,fs,todo,met,tl⟩ K ⟨hG,hS,hb⟩ ho
 simp only at hG hS hb
 rw[show(zN κ).P=Pr κ from rfl]
 refine Eq.mpr (xRz κ n (dE L) (iF met) (iA todo++tl) todo.length _ _ K) ?_
 simp only[Bi,j9,Out.run] at ho
 rw[af,aa2,aa4]
 refine⟨fun h=>?_,fun h=>?_⟩
 ·obtain⟨D,b,rfl⟩: ∃D b,todo=D++[b]:=⟨_,_,(List.dropLast_concat_getLast (by intro e;subst e;simp at h)).symm⟩
  have hle:=hS.le
  have hbr:=hS.ht b (by simp)
  have hlm:=hG.le b
  have hlen:=hG.len
  have hmn:m<=(n+1)*m:=Nat.le_mul_of_pos_left m (Nat.succ_pos n)
  obtain⟨e0,e1,e2,e3,e4⟩:=Hh D b tl
  simp only[ac0,List.length_singleton] at hle
  rw[e0,aW (n:=(D.length:Int)) (by omega) (by omega),e1,Int.toNat_natCast,e2,e3,e4,ma,qG,mu,List.take_length,List.map_map]
  rw[yB hG hS] at ho
  simp only[an,af,aa2,aa3,List.length_map,ac0,List.length_singleton,show Dn.toBool (AV.lit (.bool (met.contains b)))=met.contains b from rfl]
  refine⟨⟨by omega,by omega⟩,⟨⟨by omega,by omega⟩,by omega⟩,fun e=>?_,fun e=>?_⟩
  ·have e:met.contains b=false:=by simpa using e
   obtain⟨h1,h2⟩:=hS.S1 hG e
   rw[e,aa7] at ho
   refine⟨⟨by omega,by omega⟩,by omega,_,h2,⟨n,m,L,fs,D++L.at b,met++[b],[]⟩,?_,⟨hG,h1,hb⟩,rfl,?_⟩
   ·rw[e,aa7]
    simp only[Sm,List.append_nil,ac0,wQ]
    rfl
   ·simp only[Bi,j9,Out.run]
    exact ho
  ·have e:met.contains b=true:=by simpa using e
   obtain⟨h1,h2⟩:=hS.Vm
   rw[e,aa9] at ho
   refine⟨_,h2,⟨n,m,L,fs,D,met,AV.int b::tl⟩,rfl,⟨hG,h1,hb⟩,rfl,?_⟩
   simp only[Bi,j9,Out.run]
   exact ho
 ·obtain rfl:todo=[]:=List.eq_nil_of_length_eq_zero (by omega)
  rw[BJ] at ho
  exact ho
def Vn(s:S):Bool:=Nat.beq s.st.length 5
noncomputable def Rv(κ:Kp):Env:=(zN κ).ak 72 3 (qH Vn (aP 3 Rg zS BG) (aP 2 Sm zS Bi))
theorem eRl(κ:Kp):aD (Rv κ):=(eKi κ).ak (Zx κ) (nv (lRe κ) (lRz κ))
theorem ZZ(κ:Kp):aj (Rv κ):=(Zx κ).ak (kE aI aI)
structure Q8 where
 n:Nat
 m:Nat
 L:Gr
 fs:List AV
 a:Int
def Gf(x:Q8):Prop:=WG x.n x.m x.L/\(x.n+1)*x.m<=1000000000/\0<=x.a/\x.a<x.n
theorem yRe(κ:Kp)(N:Nat)(ls:List (List Value))(fs:List AV)(a:Int)(K:AV->List Dn.Obj->Prop):(bf (Rv κ) 12 72 [.ptr 0 0 [] 0, .int a] (tw N ls fs) K)=(
 letI z2:=Pg.toProgram (Env.P (zN κ))
 letI z3:=List.length (cd ls a.toNat)
 letI z1:=List.take z3 (cd ls a.toNat)
 ba (decide ((0:Int)<=a)&&decide (a<(↑N:Int))) ((Nat.beq z3 0=true->ah z2 72 3=ah z2 72 3/\∃(e1:Nc),sp 48 [(0,AV.ptr 0 0 [] 0),(5,AV.mp 3),
 (6,AV.ar 4 0 0)] [Obj.box 122 (AV.agg [AV.ar 1 0 N,AV.ar 2 0 fs.length]),Obj.rows 38 3 ls none,Obj.row 89 fs,Dn.Obj.map 3 4 [],Obj.row 3 []]=sp 48 [(0,
 AV.ptr 0 0 [] 0),(5,AV.mp 3),(6,AV.ar 4 0 e1.todo.length)] [Obj.box 122 (AV.agg [AV.ar 1 0 e1.n,AV.ar 2 0 e1.fs.length]),Obj.rows 38 3 (dE e1.L) none,
 Obj.row 89 e1.fs,Dn.Obj.map 3 4 (iF e1.met),Obj.row 3 (iA e1.todo++e1.tl)]/\(WG e1.n e1.m e1.L/\Sd e1.n e1.m e1.todo e1.met/\(e1.n+1)*e1.m<=
 1000000000)/\K (AV.jJ 3 4 (List.map (fun(e0:Value×AV)=>e0.1) (iF (j9 e1))) (List.map (fun(e0:Value×AV)=>e0.2) (iF (j9 e1)))) [Obj.box 122 (AV.agg
 [AV.ar 1 0 e1.n,AV.ar 2 0 e1.fs.length]),Obj.rows 38 3 (dE e1.L) none,Obj.row 89 e1.fs])/\ba (decide ((0+List.length (List.map AV.lit z1)+1)*9<=
 70368744177664)) (ah z2 72 3=ah z2 72 3/\∃(e1:Nc),sp 48 [(0,AV.ptr 0 0 [] 0),(5,AV.mp 3),(6,AV.ar 4 0 (0+List.length (List.map AV.lit z1)))]
 [Obj.box 122 (AV.agg [AV.ar 1 0 N,AV.ar 2 0 fs.length]),Obj.rows 38 3 ls none,Obj.row 89 fs,Dn.Obj.map 3 4 [],Obj.row 3 ([]++List.map AV.lit z1)]=sp 48
 [(0,AV.ptr 0 0 [] 0),(5,AV.mp 3),(6,AV.ar 4 0 e1.todo.length)] [Obj.box 122 (AV.agg [AV.ar 1 0 e1.n,AV.ar 2 0 e1.fs.length]),Obj.rows 38 3 (dE e1.L)
 none,Obj.row 89 e1.fs,Dn.Obj.map 3 4 (iF e1.met),Obj.row 3 (iA e1.todo++e1.tl)]/\(WG e1.n e1.m e1.L/\Sd e1.n e1.m e1.todo e1.met/\(e1.n+1)*e1.m<=
 1000000000)/\K (AV.jJ 3 4 (List.map (fun(e0:Value×AV)=>e0.1) (iF (j9 e1))) (List.map (fun(e0:Value×AV)=>e0.2) (iF (j9 e1)))) [Obj.box 122 (AV.agg
 [AV.ar 1 0 e1.n,AV.ar 2 0 e1.fs.length]),Obj.rows 38 3 (dE e1.L) none,Obj.row 89 e1.fs]))):=by kernel_rfl
def PQ(x:Q8):List AV×List Dn.Obj:=([.ptr 0 0 [] 0, .int x.a],tw x.n (dE x.L) x.fs)
def Dx(x:Q8):Out (AV×List Dn.Obj):= .one (SP (ik x.n x.m x.L x.a),tw x.n (dE x.L) x.fs)
theorem cRe(κ:Kp):bz (Rv κ) 12 72 (aR PQ Gf Dx):=by
 refine bg ?_
 rintro⟨n,m,L,fs,a⟩ K ⟨hG,hb,h0,h1⟩ ho
 simp only at hG hb h0 h1
 refine Eq.mpr (yRe κ n (dE L) fs a K) ?_
 simp only[Dx,Out.run,ik] at ho
 have hS:=Sd.start hG h0
 have hle:=hG.le a
 have hmn:m<=(n+1)*m:=Nat.le_mul_of_pos_left m (Nat.succ_pos n)
 rw[Ep,fv,Cl,an,an,aa3,aa2,aa2,aa2]
 refine⟨⟨h0,h1⟩,fun e=>⟨rfl,⟨n,m,L,fs,[],[],[]⟩,rfl,⟨hG,?_,hb⟩,?_⟩,by omega,rfl,⟨n,m,L,fs,L.at a,[],[]⟩,?_,⟨hG,hS,hb⟩,?_⟩
 ·have e:L.at a=[]:=List.eq_nil_of_length_eq_zero (Nat.eq_of_beq_eq_true e)
  have h2:=hS
  rw[e] at h2;exact h2
 ·have e:L.at a=[]:=List.eq_nil_of_length_eq_zero (Nat.eq_of_beq_eq_true e)
  rw[e] at ho
  simp only[ug,tQ]
  exact ho
 ·simp only[List.append_nil,Nat.zero_add]
  rfl
 ·simp only[ug,tQ]
  exact ho
theorem yRz(κ:Kp)(N:Nat)(ls:List (List Value))(a:Int)(K:AV->List Dn.Obj->Prop):(bf (Rv κ) 12 72 [.ptr 0 0 [] 0, .int a] (xt N ls) K)=(
 letI z2:=Pg.toProgram (Env.P (zN κ))
 letI z3:=List.length (cd ls a.toNat)
 letI z1:=List.take z3 (cd ls a.toNat)
 ba (decide ((0:Int)<=a)&&decide (a<(↑N:Int))) ((Nat.beq z3 0=true->ah z2 72 3=ah z2 72 3/\∃(e1:Nc),sp 48 [(0,AV.ptr 0 0 [] 0),(5,AV.mp 2),
 (6,AV.ar 3 0 0)] [Obj.box 122 (AV.agg [AV.ar 1 0 N,AV.nil]),Obj.rows 38 3 ls none,Dn.Obj.map 3 4 [],Obj.row 3 []]=sp 48 [(0,AV.ptr 0 0 [] 0),(5,AV.mp
 2),(6,AV.ar 3 0 e1.todo.length)] [Obj.box 122 (AV.agg [AV.ar 1 0 e1.n,AV.nil]),Obj.rows 38 3 (dE e1.L) none,Dn.Obj.map 3 4 (iF e1.met),Obj.row 3 (iA
 e1.todo++e1.tl)]/\(WG e1.n e1.m e1.L/\Sd e1.n e1.m e1.todo e1.met/\(e1.n+1)*e1.m<=1000000000)/\K (AV.jJ 3 4 (List.map (fun(e0:Value×AV)=>e0.1)
 (iF (j9 e1))) (List.map (fun(e0:Value×AV)=>e0.2) (iF (j9 e1)))) [Obj.box 122 (AV.agg [AV.ar 1 0 e1.n,AV.nil]),Obj.rows 38 3 (dE e1.L) none])/\ba
 (decide ((0+List.length (List.map AV.lit z1)+1)*9<=70368744177664)) (ah z2 72 3=ah z2 72 3/\∃(e1:Nc),sp 48 [(0,AV.ptr 0 0 [] 0),(5,AV.mp 2),
 (6,AV.ar 3 0 (0+List.length (List.map AV.lit z1)))] [Obj.box 122 (AV.agg [AV.ar 1 0 N,AV.nil]),Obj.rows 38 3 ls none,Dn.Obj.map 3 4 [],Obj.row 3 ([]++
 List.map AV.lit z1)]=sp 48 [(0,AV.ptr 0 0 [] 0),(5,AV.mp 2),(6,AV.ar 3 0 e1.todo.length)] [Obj.box 122 (AV.agg [AV.ar 1 0 e1.n,AV.nil]),Obj.rows 38 3
 (dE e1.L) none,Dn.Obj.map 3 4 (iF e1.met),Obj.row 3 (iA e1.todo++e1.tl)]/\(WG e1.n e1.m e1.L/\Sd e1.n e1.m e1.todo e1.met/\(e1.n+1)*e1.m<=
 1000000000)/\K (AV.jJ 3 4 (List.map (fun(e0:Value×AV)=>e0.1) (iF (j9 e1))) (List.map (fun(e0:Value×AV)=>e0.2) (iF (j9 e1)))) [Obj.box 122 (AV.agg
 [AV.ar 1 0 e1.n,AV.nil]),Obj.rows 38 3 (dE e1.L) none]))):=by kernel_rfl
def PS(x:Q8):List AV×List Dn.Obj:=([.ptr 0 0 [] 0, .int x.a],xt x.n (dE x.L))
def Eb(x:Q8):Out (AV×List Dn.Obj):= .one (SP (ik x.n x.m x.L x.a),xt x.n (dE x.L))
theorem cRz(κ:Kp):bz (Rv κ) 12 72 (aR PS Gf Eb):=by
 refine bg ?_
 rintro⟨n,m,L,fs,a⟩ K ⟨hG,hb,h0,h1⟩ ho
 simp only at hG hb h0 h1
 refine Eq.mpr (yRz κ n (dE L) a K) ?_
 simp only[Eb,Out.run,ik] at ho
 have hS:=Sd.start hG h0
 have hle:=hG.le a
 have hmn:m<=(n+1)*m:=Nat.le_mul_of_pos_left m (Nat.succ_pos n)
 rw[Ep,fv,Cl,an,an,aa3,aa2,aa2,aa2]
 refine⟨⟨h0,h1⟩,fun e=>⟨rfl,⟨n,m,L,fs,[],[],[]⟩,rfl,⟨hG,?_,hb⟩,?_⟩,by omega,rfl,⟨n,m,L,fs,L.at a,[],[]⟩,?_,⟨hG,hS,hb⟩,?_⟩
 ·have e:L.at a=[]:=List.eq_nil_of_length_eq_zero (Nat.eq_of_beq_eq_true e)
  have h2:=hS
  rw[e] at h2;exact h2
 ·have e:L.at a=[]:=List.eq_nil_of_length_eq_zero (Nat.eq_of_beq_eq_true e)
  rw[e] at ho
  simp only[ug,tQ]
  exact ho
 ·simp only[List.append_nil,Nat.zero_add]
  rfl
 ·simp only[ug,tQ]
  exact ho
def EV(sel:List Dn.Obj->Bool)(a b:dw):dw:=fun args st K=>bif sel st then a args st K else b args st K
theorem r5{sel:List Dn.Obj->Bool}{a b:dw}(ha:a.jk)(hb:b.jk):(EV sel a b).jk:=fun args st K K' hK h=>by
 unfold EV at h⊢
 cases hs:sel st<;>simp only[hs] at h⊢
 ·exact hb _ _ _ _ hK h
 ·exact ha _ _ _ _ hK h
theorem An{E:Env}{N f:Nat}{sel:List Dn.Obj->Bool}{a b:dw}(ha:bz E N f a)(hb:bz E N f b):bz E N f (EV sel a b):=fun args st K h=>by
 unfold EV at h
 cases hs:sel st<;>rw[hs] at h
 ·exact hb _ _ _ h
 ·exact ha _ _ _ h
def VP(st:List Dn.Obj):Bool:=Nat.beq st.length 3
noncomputable def Qn(κ:Kp):Env:=(Rv κ).ay 72 (EV VP (aR PQ Gf Dx) (aR PS Gf Eb))
theorem eRe(κ:Kp):aD (Qn κ):=(eRl κ).ay (ZZ κ) (An (cRe κ) (cRz κ))
theorem Zd(κ:Kp):aj (Qn κ):=(ZZ κ).ay (r5 aK aK)
def QG:List Nat:=114::PC
noncomputable abbrev VL(κ:Kp)(ds rs:List AV):Dn.Obj:=
 .loop (gj (Pr κ).toProgram 37 3 .ready none (fU (bJ 63) [(0,gS ds rs),(1, .ptr 0 0 [] 0),(2, .lit (.pointer none)),(3, .ptr 3 0 [] 0),(7, .ptr 0 0 [0] 0),(8, .ad 61 ds),(9, .int ds.length),(10, .ar 1 0 ds.length),(11, .agg [.ar 1 0 ds.length, .nil]),(12, .ptr 2 0 [] 0),(13,gS ds rs),(14, .bQ 114 [.ptr 4 0 [] 0])]))
noncomputable abbrev pq(κ:Kp)(ds rs:List AV):List Dn.Obj:=[.box 25 (gS ds rs),KA (List.replicate ds.length []), .box 122 (.agg [.ar 1 0 ds.length, .nil]), .box 87 (.ptr 2 0 [] 0), .box 25 (gS ds rs),VL κ ds rs]
noncomputable abbrev CT(κ:Kp)(ds rs:List AV)(ls:List (List Value)):List Dn.Obj:=[.box 25 (gS ds rs),KA ls, .box 122 (.agg [.ar 1 0 ds.length, .nil]), .box 87 (.ptr 2 0 [] 0), .dead,VL κ ds rs]
theorem sGf(κ:Kp)(ds rs:List AV)(Q:List Dn.Obj->Prop):(tidy (Pr κ).toProgram 6 (dY (pq κ ds rs) (cH (pq κ ds rs) [.ptr 4 0 [] 0])) Q)=(
 Q [Obj.box 25 (AV.agg [AV.ad 61 ds,AV.ad 66 rs]),Obj.rows 38 3 (List.replicate ds.length []) none,Obj.box 122 (AV.agg [AV.ar 1 0 ds.length,AV.nil]),Obj.box
 87 (AV.ptr 2 0 [] 0),Obj.dead,Dn.Obj.loop (gj Tryz.prog 37 3 LoopState.ready none (fU (bJ 63) [(0,AV.agg [AV.ad 61 ds,AV.ad 66 rs]),(1,AV.ptr 0 0 [] 0),
 (2,AV.lit (Value.pointer none)),(3,AV.ptr 3 0 [] 0),(7,AV.ptr 0 0 [0] 0),(8,AV.ad 61 ds),(9,AV.int (↑(ds.length):Int)),(10,AV.ar 1 0 ds.length),
 (11,AV.agg [AV.ar 1 0 ds.length,AV.nil]),(12,AV.ptr 2 0 [] 0),(13,AV.agg [AV.ad 61 ds,AV.ad 66 rs]),(14,AV.bQ 114 [AV.ptr 4 0 [] 0])]))]):=by kernel_rfl
theorem rGf(κ:Kp)(ds rs:List AV)(ls:List (List Value))(a b:Int)(Q:List Dn.Obj->Prop)(K2:List Dn.Obj->Prop):(gX (vc (Qn κ) 12) 5 [.int a, .int b] (CT κ ds rs ls) (fun r st''=>match r with| .lit (.bool true)=>tidy (Pr κ).toProgram 6 st'' Q| .lit (.bool false)=>K2 st''|_=>False))=(
 letI z2:=gj Tryz.prog 37 3 LoopState.ready none (fU (bJ 63) [(0,AV.agg [AV.ad 61 ds,AV.ad 66 rs]),(1,AV.ptr 0 0 [] 0),(2,AV.lit (Value.pointer none)),
  (3,AV.ptr 3 0 [] 0),(7,AV.ptr 0 0 [0] 0),(8,AV.ad 61 ds),(9,AV.int (↑(ds.length):Int)),(10,AV.ar 1 0 ds.length),(11,AV.agg [AV.ar 1 0 ds.length,
  AV.nil]),(12,AV.ptr 2 0 [] 0),(13,AV.agg [AV.ad 61 ds,AV.ad 66 rs]),(14,AV.bQ 114 [AV.ptr 4 0 [] 0])])
 letI z4:=decide ((0:Int)<=a)&&decide (a<(↑(ds.length):Int))
 letI z5:=cd ls a.toNat
 letI z3:=decide (List.length z5=List.length z5)&&decide ((List.length z5+1+1)*9<=70368744177664)
 letI z6:=Dn.jI ls a.toNat (cd ls a.toNat++[Value.int IntKind.i64 b])
 letI z7:=List.map AV.lit (List.take (List.length z5) z5)
 letI z8:=AV.agg [AV.ar 1 0 ds.length,AV.nil]
 letI z9:=AV.agg [AV.ad 61 ds,AV.ad 66 rs]
 letI z1:=ba z4 (ba (decide (a.toNat=a.toNat)&&decide (a.toNat=a.toNat)&&decide (List.length z5+1=List.length (cd z6 a.toNat))) (Q [Obj.box 25 z9,
  Obj.rows 38 3 z6 none,Obj.box 122 z8,Obj.box 87 (AV.ptr 2 0 [] 0),Obj.dead,Dn.Obj.loop z2]))
 ba z4 (ba (decide (List.length z7<=9223372036854775807)) (aC (!SI b z7) (ba z4 (ba z3 z1/\ba z3 z1)) (Q [Obj.box 25 z9,Obj.rows 38 3 ls none,Obj.box 122 z8,
 Obj.box 87 (AV.ptr 2 0 [] 0),Obj.dead,Dn.Obj.loop z2])))):=by kernel_rfl
theorem kGf(κ:Kp)(ds rs xs:List AV):(AV.cK 0::fW (jM (cH (pq κ ds rs) [.ptr 4 0 [] 0])) [.ptr 4 0 [] 0],Obj.ext (some xs)::gH (jM (cH (pq κ ds rs) [.ptr 4 0 [] 0])) (gU (pq κ ds rs) (cH (pq κ ds rs) [.ptr 4 0 [] 0])))=([.cK 0, .ptr 1 0 [] 0],[.ext (some xs), .box 25 (gS ds rs)]):=by kernel_rfl
theorem oGf(κ:Kp)(ds rs:List AV):nT (pq κ ds rs) [.ptr 4 0 [] 0]=true:=by kernel_rfl
theorem Da: ∀(L:Gr) (k:Nat) (x:List Int),Dn.jI (dE L) k (x.map gq)=dE (L.set k x)
 |[],k,x=>by cases k<;>rfl
 |_::_,0,x=>rfl
 |a::L,k+1,x=>by
  have ih:=Da L k x
  simp only[dE,ac2,Dn.jI,List.set_cons_succ] at ih⊢
  rw[ih]
theorem Oj(n:Nat):dE (List.replicate n [])=List.replicate n []:=by simp[dE]
structure qL(ds rs:List AV):Prop where
 hd:ds.length<=60
 hr:rs.length<=200
 bs: ∀r,r∈rs->(ai (ae r 1)).length<=20
 ed:UX ds rs
theorem GS(ds:List AV)(a:Int): ∀bl:List AV,(Ez ds a bl).length<=bl.length
 |[]=>Nat.le_refl _
 |l::bl=>by
  have ih:=GS ds a bl
  rw[Ez]
  cases dX (toInt (ae l 0)) with
  |true=>rw[aa9];simp only[List.length_cons];omega
  |false=>rw[aa7];simp only[List.length_cons];omega
theorem yV(ds:List AV): ∀rs:List AV,(∀r,r∈rs->(ai (ae r 1)).length<=20)->(xi ds rs).length<=rs.length*20
 |[],_=>Nat.le_refl _
 |r::rs,h=>by
  have ih:=yV ds rs fun x hx=>h x (by simp[hx])
  have h1:=GS ds (bD (toStr (ae (ae r 0) 0)) ds) (ai (ae r 1))
  have h2:=h r (by simp)
  simp only[xi,List.flatMap_cons,ac0,List.length_cons,Z4] at ih h1⊢
  omega
noncomputable def RN(κ:Kp):dG:=fun caps st K=>∃x:sm,(caps,st)=([AV.ptr 4 0 [] 0],pq κ x.1 x.2)/\qL x.1 x.2/\K (CT κ x.1 x.2 (dE (rO x.1.length (xi x.1 x.2))))
theorem H0(κ:Kp):(RN κ).jk:=by
 rintro caps st K K' hK ⟨a,h1,h2,h3⟩
 exact⟨a,h1,h2,hK _ h3⟩
theorem RZ(κ:Kp)(args:List AV)(st:List Dn.Obj)(K:AV->List Dn.Obj->Prop)(h:aR QJ Fc Mk args st K):(Qn κ).call 114 args st K:=h
theorem gfr(κ:Kp):lq (Qn κ) 12 114 (RN κ):=by
 rintro caps st K ⟨⟨ds,rs⟩,h1,hf,h5⟩
 obtain⟨rfl,rfl⟩:=Prod.mk.inj h1
 simp only at hf h5
 have hd:=hf.hd
 have hr:=hf.hr
 have hl:=yV ds rs hf.bs
 refine⟨A9 (xi ds rs),fun items st'=>∃E1 E2,items=A9 E2/\st'=CT κ ds rs (dE (rO ds.length E1))/\E1++E2=xi ds rs,⟨oGf κ ds rs,?_,?_,?_,?_⟩⟩
 ·refine RZ κ _ _ _ ⟨(ds,rs),?_,⟨by simp only[aM];omega,by simp only[aM];omega,fun r hr=>?_⟩,fun st' h=>h⟩
  ·rw[kGf];rfl
  ·have:=hf.bs r hr;simp only[aM];omega
 ·rw[show(Qn κ).P=Pr κ from rfl,show(pq κ ds rs).length=6 from rfl,sGf]
  refine⟨[],xi ds rs,rfl,?_,rfl⟩
  rw[rO,List.foldl_nil,Oj]
 ·rintro us rest st' ⟨E1,E2,e1,rfl,e3⟩
  cases E2 with
  |nil=>cases e1
  | cons e E2=>
   obtain⟨a,b⟩:=e
   obtain⟨hu,rfl⟩:=List.cons.inj e1
   obtain rfl:=AV.bp.inj hu
   rw[show(Qn κ).P=Pr κ from rfl,show(pq κ ds rs).length=6 from rfl]
   refine Eq.mpr (rGf κ ds rs _ a b _ _) ?_
   have hab:=hf.ed (a,b) (by rw[←e3];simp)
   simp only at hab
   have hg:rO ds.length (E1++[(a,b)])=om (rO ds.length E1) (a,b):=by simp[rO,List.foldl_append]
   have hlen:(rO ds.length E1).length=ds.length:=by unfold rO;rw[rZ];simp
   have hle:((rO ds.length E1).at a).length<=E1.length:=by
    have:=LV E1 (List.replicate ds.length []) a
    rw[EW] at this
    simpa[rO] using this
   have hE:E1.length<=(xi ds rs).length:=by rw[←e3];simp
   have next: ∀st',st'=CT κ ds rs (dE (om (rO ds.length E1) (a,b)))->∃F1 F2,A9 E2=A9 F2/\st'=CT κ ds rs (dE (rO ds.length F1))/\F1++F2=xi ds rs:=fun st' h=>⟨E1++[(a,b)],E2,rfl,by rw[hg,h],by rw[←e3];simp⟩
   rw[Ep,EH,mu,show[Value.int IntKind.i64 b]=[b].map gq from rfl,←List.map_append,Da]
   have e4:(cd (dE ((rO ds.length E1).set a.toNat ((rO ds.length E1).at a++[b]))) a.toNat).length=((rO ds.length E1).at a).length+1:=by
    rw[mu,E6 _ _ _ _ (by omega),if_pos rfl];simp
   rw[e4]
   simp only[an,af,aa3,aa2,List.length_map,fv]
   refine⟨⟨by omega,by omega⟩,by omega,fun e=>⟨⟨by omega,by omega⟩,?_⟩,fun e=>next _ ?_⟩
   ·have e:((rO ds.length E1).at a).contains b=false:=by simpa using e
    have e5:om (rO ds.length E1) (a,b)=(rO ds.length E1).set a.toNat ((rO ds.length E1).at a++[b]):=by
     unfold om;rw[e,aa7]
    rw[e5] at next
    exact⟨⟨⟨trivial,by omega⟩,⟨by omega,by omega⟩,⟨⟨trivial,trivial⟩,trivial⟩,next _ rfl⟩,⟨trivial,by omega⟩,⟨by omega,by omega⟩,⟨⟨trivial,trivial⟩,trivial⟩,next _ rfl⟩
   ·have e:((rO ds.length E1).at a).contains b=true:=by simpa using e
    unfold om;rw[e,aa9]
 ·rintro st' ⟨E1,E2,e1,rfl,e3⟩
  obtain rfl:E2=[]:=by cases E2 with|nil=>rfl|cons _ _=>cases e1
  rw[List.append_nil] at e3
  rw[e3];exact h5
noncomputable def MY(κ:Kp):Env:=((Qn κ).addRange 37 3 114 (RN κ)).dy (fun f=>jH f QG)
theorem eOr(κ:Kp):aD (MY κ):=((eRe κ).addRange (Zd κ) (gfr κ)).dy _
theorem Zv(κ:Kp):aj (MY κ):=((Zd κ).addRange (H0 κ)).dy _
theorem xOa(κ:Kp)(N i:Nat)(ls:List (List Value))(fs:List AV)(I:Nat->S->Prop)(n:Nat)(K:Exit->S->Prop):(vc (MY κ) 12 37 none 0 (ah (Pr κ).toProgram 37 8) (sp 63 [(3, .ptr 0 0 [] 0),(45, .int N),(46, .int i)] [.box 87 (.ptr 1 0 [] 0), .box 122 (.agg [.ar 2 0 N, .ar 3 0 fs.length]),KA ls, .row 89 fs]) (bL (MY κ) 37 8 0 I n K))=(
 letI z1:=AV.ptr 1 0 [] 0
 letI z2:=AV.agg [AV.ar 2 0 N,AV.ar 3 0 fs.length]
 aC (decide ((↑i:Int)<(↑N:Int))) (∃(e2:Q8),([AV.ptr 0 0 [] 0,AV.int (↑i:Int)],[Obj.box 122 (AV.agg [AV.ar 1 0 N,AV.ar 2 0 fs.length]),Obj.rows 38
 3 ls none,Obj.row 89 fs])=([AV.ptr 0 0 [] 0,AV.int e2.a],[Obj.box 122 (AV.agg [AV.ar 1 0 e2.n,AV.ar 2 0 e2.fs.length]),Obj.rows 38 3 (dE e2.L) none,
 Obj.row 89 e2.fs])/\(WG e2.n e2.m e2.L/\(e2.n+1)*e2.m<=1000000000/\(0:Int)<=e2.a/\e2.a<(↑(e2.n):Int))/\(Obj.box 87 z1=Obj.box 87 z1/\Obj.box
 122 (AV.agg [AV.ar 2 0 e2.n,AV.ar 3 0 e2.fs.length])=Obj.box 122 z2/\Obj.rows 38 3 (dE e2.L) none=Obj.rows 38 3 ls none/\True)/\ba (decide ((fs.length+
 1+1)*9<=70368744177664)) (∃(e1:Nat),e1<n/\I e1 (sp 63 [(3,AV.ptr 0 0 [] 0),(45,AV.int (↑N:Int)),(46,AV.int (IntKind.wrap IntKind.i64 ((↑i:
 Int)+(1:Int))))] [Obj.box 87 z1,Obj.box 122 (AV.agg [AV.ar 2 0 e2.n,AV.ar 3 0 (fs.length+1)]),Obj.rows 38 3 (dE e2.L) none,Obj.row 89 (List.take
 fs.length e2.fs++[AV.jJ 3 4 (List.map gq (ik e2.n e2.m e2.L e2.a)) (List.map (fun(e0:Int)=>AV.bool true) (ik e2.n e2.m e2.L e2.a))])]))) (K (Exit.exit 2)
 (sp 63 [(3,AV.ptr 0 0 [] 0)] [Obj.box 87 z1,Obj.box 122 z2,Obj.rows 38 3 ls none,Obj.row 89 fs]))):=by kernel_rfl
theorem xOb(κ:Kp)(N:Nat)(ls:List (List Value))(I:Nat->S->Prop)(n:Nat)(K:Exit->S->Prop):(vc (MY κ) 12 37 none 0 (ah (Pr κ).toProgram 37 8) (sp 63 [(3, .ptr 0 0 [] 0),(45, .int N),(46, .int 0)] [.box 87 (.ptr 1 0 [] 0), .box 122 (.agg [.ar 2 0 N, .nil]),KA ls]) (bL (MY κ) 37 8 0 I n K))=(
 letI z1:=AV.ptr 1 0 [] 0
 letI z2:=AV.agg [AV.ar 2 0 N,AV.nil]
 aC (decide ((0:Int)<(↑N:Int))) (∃(e2:Q8),([AV.ptr 0 0 [] 0,AV.int 0],[Obj.box 122 (AV.agg [AV.ar 1 0 N,AV.nil]),Obj.rows 38 3 ls none])=([AV.ptr
 0 0 [] 0,AV.int e2.a],[Obj.box 122 (AV.agg [AV.ar 1 0 e2.n,AV.nil]),Obj.rows 38 3 (dE e2.L) none])/\(WG e2.n e2.m e2.L/\(e2.n+1)*e2.m<=1000000000/\
 (0:Int)<=e2.a/\e2.a<(↑(e2.n):Int))/\(Obj.box 87 z1=Obj.box 87 z1/\Obj.box 122 (AV.agg [AV.ar 2 0 e2.n,AV.nil])=Obj.box 122 z2/\Obj.rows 38 3 (dE
 e2.L) none=Obj.rows 38 3 ls none/\True)/\∃(e1:Nat),e1<n/\I e1 (sp 63 [(3,AV.ptr 0 0 [] 0),(45,AV.int (↑N:Int)),(46,AV.int 1)] [Obj.box 87 z1,
 Obj.box 122 (AV.agg [AV.ar 2 0 e2.n,AV.ar 3 0 1]),Obj.rows 38 3 (dE e2.L) none,Obj.row 89 [AV.jJ 3 4 (List.map gq (ik e2.n e2.m e2.L e2.a)) (List.map (fun
 (e0:Int)=>AV.bool true) (ik e2.n e2.m e2.L e2.a))]])) (K (Exit.exit 2) (sp 63 [(3,AV.ptr 0 0 [] 0)] [Obj.box 87 z1,Obj.box 122 z2,Obj.rows 38 3 ls
 none]))):=by kernel_rfl
def bw(n m:Nat)(L:Gr)(k:Nat):List AV:=(List.range k).map fun(a:Nat)=>SP (ik n m L a)
theorem kV(n m:Nat)(L:Gr)(k:Nat):(bw n m L k).length=k:=by simp[bw]
theorem I2(n m:Nat)(L:Gr)(k:Nat):bw n m L (k+1)=bw n m L k++[SP (ik n m L k)]:=by
 simp[bw,List.range_succ]
structure Wg where
 n:Nat
 m:Nat
 L:Gr
 i:Nat
abbrev Sl(n m:Nat)(L:Gr):Nat->List Dn.Obj
 |0=>[.box 87 (.ptr 1 0 [] 0), .box 122 (.agg [.ar 2 0 n, .nil]),KA (dE L)]
 |k+1=>[.box 87 (.ptr 1 0 [] 0), .box 122 (.agg [.ar 2 0 n, .ar 3 0 (bw n m L (k+1)).length]),KA (dE L), .row 89 (bw n m L (k+1))]
abbrev Pm(x:Wg):S:=sp 63 [(3, .ptr 0 0 [] 0),(45, .int x.n),(46, .int x.i)] (Sl x.n x.m x.L x.i)
def J4(x:Wg):Prop:=WG x.n x.m x.L/\(x.n+1)*x.m<=1000000000/\x.i<=x.n/\x.n<=60
def PV(x:Wg):Out (Exit×S):= .aC (Nat.beq x.n 0)
 (.one (.exit 2,sp 63 [(3, .ptr 0 0 [] 0)] [.box 87 (.ptr 1 0 [] 0), .box 122 (.agg [.ar 2 0 x.n, .nil]),KA (dE x.L)]))
 (.one (.exit 2,sp 63 [(3, .ptr 0 0 [] 0)] [.box 87 (.ptr 1 0 [] 0), .box 122 (.agg [.ar 2 0 x.n, .ar 3 0 (bw x.n x.m x.L x.n).length]),KA (dE x.L), .row 89 (bw x.n x.m x.L x.n)]))
theorem lOa(κ:Kp):bk (MY κ) 12 37 8 (aP 0 Pm J4 PV):=by
 refine aL (fun x=>x.n - x.i) ?_
 rintro⟨n,m,L,i⟩ K ⟨hG,hb,hi,hn⟩ ho
 simp only at hG hb hi hn
 rw[show(MY κ).P=Pr κ from rfl]
 cases i with
 | zero=>
  refine Eq.mpr (xOb κ n (dE L) _ _ K) ?_
  rw[af,aa2,aa4]
  refine⟨fun h=>⟨⟨n,m,L,[],0⟩,rfl,⟨hG,hb,by simp only;omega,h⟩,⟨rfl,rfl,rfl,trivial⟩,_,?_,⟨n,m,L,1⟩,rfl,⟨hG,hb,?_,hn⟩,rfl,ho⟩,fun h=>?_⟩
  ·simp only;omega
  ·simp only;omega
  ·obtain rfl:n=0:=by omega
   exact ho
 | succ k=>
  refine Eq.mpr (xOa κ n (k+1) (dE L) (bw n m L (k+1)) _ _ K) ?_
  rw[af,aa2,aa4]
  refine⟨fun h=>⟨⟨n,m,L,bw n m L (k+1),((k+1:Nat):Int)⟩,rfl,⟨hG,hb,by simp only;omega,h⟩,⟨rfl,rfl,rfl,trivial⟩,?_⟩,fun h=>?_⟩
  ·have e:sp 63 [(3, .ptr 0 0 [] 0),(45, .int n),(46, .int (((k+1:Nat):Int)+1))] [.box 87 (.ptr 1 0 [] 0), .box 122 (.agg [.ar 2 0 n, .ar 3 0 ((bw n m L (k+1)).length+1)]),KA (dE L), .row 89 (List.take (bw n m L (k+1)).length (bw n m L (k+1))++[SP (ik n m L ((k+1:Nat):Int))])]=Pm ⟨n,m,L,k+2⟩:=by
    rw[List.take_length,←I2]
    simp only[Pm,Sl,kV]
    rfl
   rw[an,aa2,aW (n:=((k+1:Nat):Int)+1) (by omega) (by omega)]
   refine⟨by rw[kV];omega,_,?_,⟨n,m,L,k+2⟩,e,⟨hG,hb,?_,hn⟩,rfl,ho⟩
   ·simp only;omega
   ·simp only;omega
  ·obtain rfl:n=k+1:=by omega
   exact ho
noncomputable def S6(κ:Kp):Env:=(MY κ).ak 37 8 (aP 0 Pm J4 PV)
theorem eOa(κ:Kp):aD (S6 κ):=(eOr κ).ak (Zv κ) (lOa κ)
theorem mOa(κ:Kp):aj (S6 κ):=(Zv κ).ak aI
theorem yOg(κ:Kp)(ds rs:List AV)(K:AV->List Dn.Obj->Prop):(bf (S6 κ) 12 37 [gS ds rs] [] K)=(
 letI z1:=Int.toNat (↑(ds.length):Int)
 letI z2:=AV.agg [AV.ad 61 ds,AV.ad 66 rs]
 letI z3:=Pg.toProgram (Env.P (MY κ))
 ba (true&&decide ((↑(ds.length):Int)<=(↑(ds.length):Int))&&decide ((Int.toNat (↑(ds.length):Int)+1)*25<=70368744177664)&&true) (∃(e1:sm),
 ([AV.ptr 4 0 [] 0],[Obj.box 25 z2,Obj.rows 38 3 (List.replicate z1 []) none,Obj.box 122 (AV.agg [AV.ar 1 0 z1,AV.nil]),Obj.box 87 (AV.ptr 2 0 [] 0),
 Obj.box 25 z2,Dn.Obj.loop (gj Tryz.prog 37 3 LoopState.ready none (fU (bJ 63) [(0,AV.agg [AV.ad 61 ds,AV.ad 66 rs]),(1,AV.ptr 0 0 [] 0),(2,AV.lit
 (Value.pointer none)),(3,AV.ptr 3 0 [] 0),(7,AV.ptr 0 0 [0] 0),(8,AV.ad 61 ds),(9,AV.int (↑(ds.length):Int)),(10,AV.ar 1 0 z1),(11,AV.agg [AV.ar 1
 0 z1,AV.nil]),(12,AV.ptr 2 0 [] 0),(13,AV.agg [AV.ad 61 ds,AV.ad 66 rs]),(14,AV.bQ 114 [AV.ptr 4 0 [] 0])]))])=([AV.ptr 4 0 [] 0],[Obj.box 25 (AV.agg
 [AV.ad 61 e1.1,AV.ad 66 e1.2]),Obj.rows 38 3 (List.replicate e1.1.length []) none,Obj.box 122 (AV.agg [AV.ar 1 0 e1.1.length,AV.nil]),Obj.box 87 (AV.ptr 2
 0 [] 0),Obj.box 25 (AV.agg [AV.ad 61 e1.1,AV.ad 66 e1.2]),Dn.Obj.loop (gj Tryz.prog 37 3 LoopState.ready none (fU (bJ 63) [(0,AV.agg [AV.ad 61 e1.1,AV.ad
 66 e1.2]),(1,AV.ptr 0 0 [] 0),(2,AV.lit (Value.pointer none)),(3,AV.ptr 3 0 [] 0),(7,AV.ptr 0 0 [0] 0),(8,AV.ad 61 e1.1),(9,AV.int (↑(e1.1.length):
 Int)),(10,AV.ar 1 0 e1.1.length),(11,AV.agg [AV.ar 1 0 e1.1.length,AV.nil]),(12,AV.ptr 2 0 [] 0),(13,AV.agg [AV.ad 61 e1.1,AV.ad 66 e1.2]),(14,AV.bQ
 114 [AV.ptr 4 0 [] 0])]))])/\qL e1.1 e1.2/\ah z3 37 8=ah z3 37 8/\∃(e0:Wg),sp 63 [(3,AV.ptr 0 0 [] 0),(45,AV.int (↑(e1.1.length):Int)),(46,
 AV.int 0)] [Obj.box 87 (AV.ptr 1 0 [] 0),Obj.box 122 (AV.agg [AV.ar 2 0 e1.1.length,AV.nil]),Obj.rows 38 3 (dE (rO e1.1.length (xi e1.1 e1.2))) none]=sp 63
 [(3,AV.ptr 0 0 [] 0),(45,AV.int (↑(e0.n):Int)),(46,AV.int (↑(e0.i):Int))] (Sl e0.n e0.m e0.L e0.i)/\(WG e0.n e0.m e0.L/\(e0.n+1)*e0.m<=
 1000000000/\e0.i<=e0.n/\e0.n<=60)/\aC (Nat.beq e0.n 0) (K (AV.ptr 0 0 [] 0) [Obj.box 122 (AV.agg [AV.ar 1 0 e0.n,AV.nil]),Obj.rows 38 3 (dE e0.L) none])
 (K (AV.ptr 0 0 [] 0) [Obj.box 122 (AV.agg [AV.ar 1 0 e0.n,AV.ar 2 0 (List.length (bw e0.n e0.m e0.L e0.n))]),Obj.rows 38 3 (dE e0.L) none,Obj.row 89 (bw e0.n
 e0.m e0.L e0.n)]))):=by kernel_rfl
def oN(ds rs:List AV):Gr:=rO ds.length (xi ds rs)
def jm(ds rs:List AV):Nat:=(xi ds rs).length
def NQ(x:sm):List AV×List Dn.Obj:=([gS x.1 x.2],[])
def M6(x:sm):Out (AV×List Dn.Obj):= .aC (Nat.beq x.1.length 0)
 (.one (.ptr 0 0 [] 0,xt x.1.length (dE (oN x.1 x.2))))
 (.one (.ptr 0 0 [] 0,tw x.1.length (dE (oN x.1 x.2)) (bw x.1.length (jm x.1 x.2) (oN x.1 x.2) x.1.length)))
theorem qL.le{ds rs:List AV}(h:qL ds rs):(ds.length+1)*jm ds rs<=1000000000:=by
 have h1:=h.hd
 have h2:=h.hr
 have h3:=yV ds rs h.bs
 refine Nat.le_trans (Nat.mul_le_mul (show ds.length+1<=61 by omega) (show jm ds rs<=4000 by unfold jm;omega)) (by omega)
theorem qL.wg{ds rs:List AV}(h:qL ds rs):WG ds.length (jm ds rs) (oN ds rs):=RU h.ed
theorem cOg(κ:Kp):bz (S6 κ) 12 37 (aR NQ (fun x=>qL x.1 x.2) M6):=by
 refine bg ?_
 rintro⟨ds,rs⟩ K hf ho
 simp only at hf
 refine Eq.mpr (yOg κ ds rs K) ?_
 have hd:=hf.hd
 simp only[M6,Out.run] at ho
 simp only[an,aa3,aa2,Int.toNat_natCast]
 exact⟨⟨⟨⟨trivial,by omega⟩,by omega⟩,trivial⟩,(ds,rs),rfl,hf,trivial,⟨ds.length,jm ds rs,oN ds rs,0⟩,rfl,⟨hf.wg,hf.le,Nat.zero_le _,hd⟩,ho⟩
noncomputable def UO(κ:Kp):Env:=(S6 κ).ay 37 (aR NQ (fun x=>qL x.1 x.2) M6)
theorem eOf(κ:Kp):aD (UO κ):=(eOa κ).ay (mOa κ) (cOg κ)
theorem ZY(κ:Kp):aj (UO κ):=(mOa κ).ay aK
end Go.Proofs.YthaiinlfnommnaaGreatDoor
