import Derived.Test.YthaiinlfnommnaaGreatDoorDbM1
import Derived.Test.YthaiinlfnommnaaGreatDoorDbM8
namespace Go.Rl
open Go Go.Dn
abbrev Gr:=List (List Int)
def Gr.at(L:Gr)(a:Int):List Int:=L.getD a.toNat []
def nK(L:Gr)(e:Int×Int):Gr:=bif (L.at e.1).contains e.2 then L else L.set e.1.toNat (L.at e.1++[e.2])
def rn(n:Nat)(E:List (Int×Int)):Gr:=E.foldl nK (List.replicate n [])
theorem BO(L:Gr)(e:Int×Int):(nK L e).length=L.length:=by
 unfold nK;cases(L.at e.1).contains e.2<;>simp
theorem rM: ∀(E:List (Int×Int)) (L:Gr),(E.foldl nK L).length=L.length
 |[],_=>rfl
 |e::E,L=>by rw[List.foldl_cons,rM E,BO]
theorem Cw(L:Gr)(a b:Int)(x:List Int)(ha:a.toNat<L.length):Gr.at (L.set a.toNat x) b=if a.toNat=b.toNat then x else L.at b:=by
 unfold Gr.at
 rw[List.getD_eq_getElem?_getD,List.getElem?_set]
 by_cases h:a.toNat=b.toNat
 ·rw[if_pos h,if_pos h,if_pos ha];rfl
 ·rw[if_neg h,if_neg h];rfl
theorem Ky(L:Gr)(e:Int×Int)(he:0<=e.1/\e.1.toNat<L.length)(a b:Int)(h0:0<=a):b∈(nK L e).at a↔b∈L.at a\/(a,b)=e:=by
 obtain⟨c,d⟩:=e
 simp only at he
 unfold nK
 cases h:(L.at c).contains d with
 |true=>
  rw[aa8]
  refine⟨.inl,?_⟩
  rintro(h1|h1)
  ·exact h1
  ·cases h1;simpa using h
 | false=>
  rw[aa6,Cw L c a _ he.2]
  by_cases hc:c.toNat=a.toNat
  ·have:c=a:=by omega
   subst this
   simp
  ·rw[if_neg hc]
   refine⟨.inl,?_⟩
   rintro(h1|h1)
   ·exact h1
   ·cases h1;exact absurd rfl hc
theorem wW: ∀(E:List (Int×Int)) (L:Gr),(∀e,e∈E->0<=e.1/\e.1.toNat<L.length)->∀a b:Int,0<=a->(b∈Gr.at (E.foldl nK L) a↔b∈L.at a\/(a,b)∈E)
 |[],L,_,a,b,_=>by simp
 |e::E,L,h,a,b,h0=>by
  rw[List.foldl_cons,wW E (nK L e) (fun x hx=>by rw[BO];exact h x (by simp[hx])) a b h0,Ky L e (h e (by simp)) a b h0,ac3,or_assoc]
theorem KN: ∀(E:List (Int×Int)) (L:Gr) (a:Int),(Gr.at (E.foldl nK L) a).length<=(L.at a).length+E.length
 |[],L,a=>by simp
 | e ::E,L,a=>by
  rw[List.foldl_cons]
  refine Nat.le_trans (KN E (nK L e) a) ?_
  have:((nK L e).at a).length<=(L.at a).length+1:=by
   unfold nK
   cases(L.at e.1).contains e.2 with
   |true=>rw[aa8];omega
   | false=>
    rw[aa6]
    by_cases hl:e.1.toNat<L.length
    ·rw[Cw L e.1 a _ hl]
     by_cases hc:e.1.toNat=a.toNat
     ·rw[if_pos hc,ab9,List.length_singleton]
      have:L.at e.1=L.at a:=by unfold Gr.at;rw[hc]
      rw[this];omega
     ·rw[if_neg hc];omega
    ·rw[List.set_eq_of_length_le (by omega)];omega
  simp only[List.length_cons];omega
theorem DU(n:Nat)(a:Int):Gr.at (List.replicate n []) a=[]:=by
 unfold Gr.at
 rw[List.getD_eq_getElem?_getD]
 by_cases h:a.toNat<n<;>simp[h]
structure WG(n m:Nat)(L:Gr):Prop where
 len:L.length=n
 le: ∀a,(L.at a).length<=m
 lF: ∀a,0<=a->∀b,b∈L.at a->0<=b/\b<n
theorem MA{n:Nat}{E:List (Int×Int)}(h: ∀e,e∈E->(0<=e.1/\e.1<n)/\0<=e.2/\e.2<n){a b:Int}(h0:0<=a):b∈(rn n E).at a↔(a,b)∈E:=by
 unfold rn
 rw[wW E _ (fun e he=>⟨(h e he).1.1,by have:=(h e he).1;simp;omega⟩) a b h0,DU]
 simp
theorem Qv{n:Nat}{E:List (Int×Int)}(h: ∀e,e∈E->(0<=e.1/\e.1<n)/\0<=e.2/\e.2<n):WG n E.length (rn n E):=by
 refine⟨by unfold rn;rw[rM];simp,fun a=>?_,fun a h0 b hb=>?_⟩
 ·have:=KN E (List.replicate n []) a
  rw[DU] at this
  simpa[rn] using this
 ·exact(h _ ((MA h h0).1 hb)).2
inductive wy (L:Gr):Int->Int->Prop
 |refl (a:Int):wy L a a
 |step {a b c:Int} (h:b∈L.at a) (k:wy L b c):wy L a c
def Rc(L:Gr)(a b:Int):Prop:=∃c,c∈L.at a/\wy L c b
theorem wy.trans{L:Gr}{a b c:Int}(h:wy L a b)(k:wy L b c):wy L a c:=by
 induction h with
 |refl=>exact k
 |step h _ ih=>exact .step h (ih k)
theorem Rc.trans{L:Gr}{a b c:Int}(h:Rc L a b)(k:Rc L b c):Rc L a c:=by
 obtain⟨d,h1,h2⟩:=h
 obtain⟨e,k1,k2⟩:=k
 exact⟨d,h1,h2.trans (.step k1 k2)⟩
theorem Rc.step{L:Gr}{a b c:Int}(h:Rc L a b)(k:c∈L.at b):Rc L a c:=h.trans ⟨c,k, .refl c⟩
theorem Rc.mono{L M:Gr}(h: ∀a b,0<=a->b∈L.at a->b∈M.at a/\0<=b){a b:Int}(h0:0<=a)(k:Rc L a b):Rc M a b:=by
 obtain⟨c,h1,h2⟩:=k
 have st: ∀{x y:Int},wy L x y->0<=x->wy M x y:=fun{x y} k=>by
  induction k with
  |refl=>intro _;exact .refl _
  |step h' _ ih=>intro hx;exact .step (h _ _ hx h').1 (ih (h _ _ hx h').2)
 exact⟨c,(h a c h0 h1).1,st h2 (h a c h0 h1).2⟩
theorem Rc.lF{n m:Nat}{L:Gr}(hG:WG n m L){a b:Int}(h0:0<=a)(h:Rc L a b):0<=b/\b<n:=by
 obtain⟨c,h1,h2⟩:=h
 have:=hG.lF a h0 c h1
 clear h1
 induction h2 with
 |refl=>exact this
 |step h _ ih=>exact ih (hG.lF _ this.1 _ h)
def ej(l:List Int):Int:=l.getLastD 0
def HF(L:Gr):Nat->List Int->List Int->List Int
 |0,_,met=>met
 |_+1,[],met=>met
 |f+1,t::todo,met=>bif met.contains (ej (t::todo)) then HF L f (t::todo).dropLast met else HF L f ((t::todo).dropLast++L.at (ej (t::todo))) (met++[ej (t::todo)])
def iP(n:Nat):List Int:=(List.range n).map fun(k:Nat)=>(k:Int)
theorem nr{n:Nat}{a:Int}:a∈iP n↔0<=a/\a<n:=by
 simp only[iP,List.mem_map,List.mem_range]
 refine⟨?_,fun h=>⟨a.toNat,by omega,by omega⟩⟩
 rintro⟨k,h,rfl⟩
 omega
theorem oD{α:Type}{p q:α->Bool}: ∀{l:List α},(∀x,x∈l->p x=true->q x=true)->(∃x,x∈l/\q x=true/\p x=false)->l.countP p<l.countP q
 |[],_,h=>by obtain⟨x,hx,_⟩:=h;cases hx
 | a::l,h,⟨x,hx,h1,h2⟩=>by
  have hm:=List.countP_mono_left (l:=l) (p:=p) (q:=q) fun y hy=>h y (by simp[hy])
  simp only[List.countP_cons]
  rcases List.mem_cons.1 hx with rfl|hx
  ·rw[h1,h2];simp;omega
  ·have ih:=oD (l:=l) (fun y hy=>h y (by simp[hy])) ⟨x,hx,h1,h2⟩
   cases hp:p a with
   |true=>rw[h a (by simp) hp];simp;omega
   |false=>cases q a<;>simp<;>omega
def yz(n:Nat)(met:List Int):Nat:=(iP n).countP fun x=>!met.contains x
theorem Cx(n:Nat)(met:List Int):yz n met<=n:=by
 have:=List.countP_le_length (l:=iP n) (p:=fun x=>!met.contains x)
 simpa[yz,iP] using this
theorem ET{n:Nat}{met:List Int}{b:Int}(hb:0<=b/\b<n)(hn:met.contains b=false)(l:List Int)(hl:b∈l):yz n (met++l)<yz n met:=by
 refine oD (fun x _ h=>?_) ⟨b,nr.2 hb,by simpa using hn,by simp[hl]⟩
 simp only[Bool.not_eq_true',List.contains_eq_mem,aa3,List.mem_append,not_or] at h⊢
 exact h.1
def ms(n m:Nat)(todo met:List Int):Nat:=yz n met*(m+1)+todo.length
theorem nh{t:Int}{todo:List Int}:ej (t::todo)∈t::todo:=by
 unfold ej
 rw[List.getLastD_cons]
 cases todo with
 |nil=>simp
 |cons a l=>rw[List.getLastD_eq_getLast?,List.getLast?_eq_some_getLast (by simp)];simp
theorem xi{t:Int}{todo:List Int}:(t::todo).dropLast++[ej (t::todo)]=t::todo:=by
 have:ej (t::todo)=(t::todo).getLast (by simp):=by
  unfold ej
  rw[List.getLastD_eq_getLast?,List.getLast?_eq_some_getLast (by simp)];rfl
 rw[this];exact List.dropLast_concat_getLast (by simp)
theorem yb(n m:Nat)(t:Int)(todo met:List Int):ms n m (t::todo).dropLast met<ms n m (t::todo) met:=by
 unfold ms
 simp
theorem yX{n m:Nat}{L:Gr}(hG:WG n m L)(t:Int)(todo met:List Int)(hb:0<=ej (t::todo)/\ej (t::todo)<n)(hn:met.contains (ej (t::todo))=false):
  ms n m ((t::todo).dropLast++L.at (ej (t::todo))) (met++[ej (t::todo)])<ms n m (t::todo) met:=by
 unfold ms
 have h1:=ET hb hn [ej (t::todo)] (by simp)
 have h2:=hG.le (ej (t::todo))
 have h3:=Nat.mul_le_mul_right (m+1) (show yz n (met++[ej (t::todo)])+1<=yz n met from h1)
 rw[Nat.add_mul] at h3
 simp only[ab9,List.length_dropLast,List.length_cons]
 omega
structure Sd(n m:Nat)(todo met:List Int):Prop where
 ht: ∀x,x∈todo->0<=x/\x<n
 hm: ∀x,x∈met->0<=x/\x<n
 le:todo.length+yz n met*m<=(n+1)*m
theorem Sd.pop{n m:Nat}{t:Int}{todo met:List Int}(h:Sd n m (t::todo) met):Sd n m (t::todo).dropLast met:=
 ⟨fun x hx=>h.ht x (List.dropLast_subset _ hx),h.hm,by have:=h.le;simp only[List.length_dropLast,List.length_cons] at this⊢;omega⟩
theorem Sd.add{n m:Nat}{L:Gr}(hG:WG n m L){t:Int}{todo met:List Int}(h:Sd n m (t::todo) met)(hn:met.contains (ej (t::todo))=false):Sd n m ((t::todo).dropLast++L.at (ej (t::todo))) (met++[ej (t::todo)]):=by
 have hb:=h.ht _ nh
 refine⟨fun x hx=>?_,fun x hx=>?_,?_⟩
 ·rcases List.mem_append.1 hx with hx|hx
  ·exact h.ht x (List.dropLast_subset _ hx)
  ·exact hG.lF _ hb.1 x hx
 ·rcases List.mem_append.1 hx with hx|hx
  ·exact h.hm x hx
  ·rw[List.mem_singleton] at hx;rw[hx];exact hb
 ·have h1:=ET hb hn [ej (t::todo)] (by simp)
  have h2:=hG.le (ej (t::todo))
  have h3:=Nat.mul_le_mul_right m (show yz n (met++[ej (t::todo)])+1<=yz n met from h1)
  rw[Nat.add_mul] at h3
  have h4:=h.le
  simp only[ab9,List.length_dropLast,List.length_cons] at h4⊢
  omega
theorem Sd.start{n m:Nat}{L:Gr}(hG:WG n m L){a:Int}(h0:0<=a):Sd n m (L.at a) []:=
 ⟨fun x hx=>hG.lF a h0 x hx,fun x hx=>(nomatch hx),by
  have h1:=hG.le a
  have h2:=Nat.mul_le_mul_right m (Cx n [])
  rw[Nat.add_mul];omega⟩
theorem qc{n m:Nat}{L:Gr}(hG:WG n m L): ∀(f g:Nat) (todo met:List Int),Sd n m todo met->ms n m todo met<=f->ms n m todo met<=g->HF L f todo met=HF L g todo met
 |0,g,todo,met,_,h,_=>by
  have:todo=[]:=by unfold ms at h;exact List.eq_nil_of_length_eq_zero (by omega)
  subst this
  cases g<;>rfl
 |f+1,0,todo,met,_,_,h=>by
  have:todo=[]:=by unfold ms at h;exact List.eq_nil_of_length_eq_zero (by omega)
  subst this;rfl
 |f+1,g+1,[],met,_,_,_=>rfl
 | f+1,g+1,t::todo,met,hs,h1,h2=>by
  rw[HF,HF]
  cases hc:met.contains (ej (t::todo)) with
  |true=>
   have:=yb n m t todo met
   rw[aa8,aa8]
   exact qc hG f g _ _ hs.pop (by omega) (by omega)
  |false=>
   have:=yX hG t todo met (hs.ht _ nh) hc
   rw[aa6,aa6]
   exact qc hG f g _ _ (hs.add hG hc) (by omega) (by omega)
def u6(n m:Nat)(L:Gr)(todo met:List Int):List Int:=HF L (ms n m todo met) todo met
theorem AG(n m:Nat)(L:Gr)(met:List Int):u6 n m L [] met=met:=by
 unfold u6;cases ms n m [] met<;>rfl
theorem H2{n m:Nat}{L:Gr}(hG:WG n m L){t:Int}{todo met:List Int}(hs:Sd n m (t::todo) met):
  u6 n m L (t::todo) met=bif met.contains (ej (t::todo)) then u6 n m L (t::todo).dropLast met else u6 n m L ((t::todo).dropLast++L.at (ej (t::todo))) (met++[ej (t::todo)]):=by
 have e:ms n m (t::todo) met=(ms n m (t::todo) met - 1)+1:=by unfold ms;simp only[List.length_cons];omega
 unfold u6
 rw[e,HF]
 cases hc:met.contains (ej (t::todo)) with
 |true=>
  have:=yb n m t todo met
  rw[aa8,aa8]
  exact qc hG _ _ _ _ hs.pop (by omega) (Nat.le_refl _)
 |false=>
  have:=yX hG t todo met (hs.ht _ nh) hc
  rw[aa6,aa6]
  exact qc hG _ _ _ _ (hs.add hG hc) (by omega) (Nat.le_refl _)
theorem yh{n m:Nat}{L:Gr}(hG:WG n m L)(P:Int->Prop)(hP: ∀x y,P x->y∈L.at x->P y): ∀(f:Nat) (todo met:List Int),Sd n m todo met->ms n m todo met<=f->(∀x,x∈todo\/x∈met->P x)->(∀x,x∈met->∀y,y∈L.at x->y∈met\/y∈todo)->
  (∀x,x∈HF L f todo met->P x)/\(∀x,x∈todo\/x∈met->x∈HF L f todo met)/\(∀x,x∈HF L f todo met->∀y,y∈L.at x->y∈HF L f todo met)
 |0,todo,met,_,h,h1,h2=>by
  have:todo=[]:=by unfold ms at h;exact List.eq_nil_of_length_eq_zero (by omega)
  subst this
  exact⟨fun x hx=>h1 x (.inr hx),fun x hx=>hx.resolve_left (by simp),fun x hx y hy=>(h2 x hx y hy).resolve_right (by simp)⟩
 |f+1,[],met,_,_,h1,h2=>⟨fun x hx=>h1 x (.inr hx),fun x hx=>hx.resolve_left (by simp),fun x hx y hy=>(h2 x hx y hy).resolve_right (by simp)⟩
 | f +1,t::todo,met,hs,h,h1,h2=>by
  have hd: ∀x,x∈t::todo->x∈(t::todo).dropLast\/x=ej (t::todo):=fun x hx=>by
   rw[←xi (t:=t) (todo:=todo)] at hx
   simpa using hx
  rw[HF]
  cases hc:met.contains (ej (t::todo)) with
  | true=>
   have hm:ej (t::todo)∈met:=by simpa using hc
   have:=yb n m t todo met
   rw[aa8]
   obtain⟨g1,g2,g3⟩:=yh hG P hP f (t::todo).dropLast met hs.pop (by omega) (fun x hx=>h1 x (hx.imp (fun h=>List.dropLast_subset _ h) id)) (fun x hx y hy=>by
    rcases h2 x hx y hy with h|h
    ·exact .inl h
    ·rcases hd y h with h|rfl
     ·exact .inr h
     ·exact .inl hm)
   refine⟨g1,fun x hx=>?_,g3⟩
   rcases hx with hx|hx
   ·rcases hd x hx with h|rfl
    ·exact g2 x (.inl h)
    ·exact g2 _ (.inr hm)
   ·exact g2 x (.inr hx)
  | false=>
   have:=yX hG t todo met (hs.ht _ nh) hc
   have hl:=h1 _ (.inl (nh (t:=t) (todo:=todo)))
   rw[aa6]
   obtain⟨g1,g2,g3⟩:=yh hG P hP f _ _ (hs.add hG hc) (by omega) (fun x hx=>by
    rcases hx with hx|hx
    ·rcases List.mem_append.1 hx with hx|hx
     ·exact h1 x (.inl (List.dropLast_subset _ hx))
     ·exact hP _ _ hl hx
    ·rcases List.mem_append.1 hx with hx|hx
     ·exact h1 x (.inr hx)
     ·rw[List.mem_singleton] at hx;rw[hx];exact hl) (fun x hx y hy=>by
    rcases List.mem_append.1 hx with hx|hx
    ·rcases h2 x hx y hy with h|h
     ·exact .inl (ab5 _ h)
     ·rcases hd y h with h|rfl
      ·exact .inr (ab5 _ h)
      ·exact .inl (by simp)
    ·rw[List.mem_singleton] at hx;subst hx
     exact .inr (ab4 _ hy))
   refine⟨g1,fun x hx=>?_,g3⟩
   rcases hx with hx|hx
   ·rcases hd x hx with h|rfl
    ·exact g2 x (.inl (ab5 _ h))
    ·exact g2 _ (.inr (by simp))
   ·exact g2 x (.inr (ab5 _ hx))
def iv(n m:Nat)(L:Gr)(a:Int):List Int:=u6 n m L (L.at a) []
theorem M4{n m:Nat}{L:Gr}(hG:WG n m L){a b:Int}(h0:0<=a):b∈iv n m L a↔Rc L a b:=by
 obtain⟨g1,g2,g3⟩:=yh hG (Rc L a) (fun x y h k=>h.step k) _ (L.at a) [] (Sd.start hG h0) (Nat.le_refl _) (fun x hx=>⟨x,hx.resolve_right (by simp), .refl x⟩) (fun x hx=>by cases hx)
 refine⟨g1 b,?_⟩
 rintro⟨c,h1,h2⟩
 have hc:=g2 c (.inl h1)
 clear h1
 induction h2 with
 |refl=>exact hc
 |step h _ ih=>exact ih (g3 _ hc _ h)
def j4(n m:Nat)(L:Gr)(a b:Int):Bool:=decide (a=b)||((iv n m L a).contains b&&(iv n m L b).contains a)
theorem IN(n m:Nat)(L:Gr)(a:Int):j4 n m L a a=true:=by simp[j4]
section
variable {n m:Nat} {L:Gr}
def gM(n m:Nat)(L:Gr)(a:Int):List Int:=(iP n).filter (j4 n m L a)
def iV(n m:Nat)(L:Gr)(done:List Int)(a:Int):Bool:=!done.contains a&&(iv n m L a).all fun b=>done.contains b||j4 n m L a b
def fS(n m:Nat)(L:Gr)(done:List Int):Int:=((iP n).find? (iV n m L done)).getD (-1)
def tC(done l:List Int):List Int:=l.foldl (fun d b=>bif d.contains b then d else d++[b]) done
def ug(n m:Nat)(L:Gr):Nat->List Int->List (List Int)
 |0,_=>[]
 |f+1,done=>bif decide (fS n m L done<0) then[] else gM n m L (fS n m L done)::ug n m L f (tC done (gM n m L (fS n m L done)))
theorem vo: ∀(l done:List Int) (x:Int),x∈tC done l↔x∈done\/x∈l
 |[],done,x=>by simp[tC]
 | b::l,done,x=>by
  have ih:=vo l (bif done.contains b then done else done++[b]) x
  unfold tC at ih⊢
  rw[List.foldl_cons,ih]
  cases h:done.contains b with
  |true=>
   rw[aa8,ac3]
   have h':b∈done:=by simpa using h
   refine⟨fun h=>h.imp id .inr,?_⟩
   rintro(h|rfl|h)
   ·exact .inl h
   ·exact .inl h'
   ·exact .inr h
  |false=>rw[aa6,List.mem_append,List.mem_singleton,ac3,or_assoc]
theorem xz{done:List Int}(h:0<=fS n m L done):(0<=fS n m L done/\fS n m L done<n)/\iV n m L done (fS n m L done)=true:=by
 unfold fS at h⊢
 cases e:(iP n).find? (iV n m L done) with
 |none=>rw[e] at h;simp at h
 |some a=>
  have h1:=List.find?_some e
  have h2:=List.mem_of_find?_eq_some e
  exact⟨nr.1 h2,h1⟩
theorem Nj{a b:Int}:b∈gM n m L a↔(0<=b/\b<n)/\j4 n m L a b=true:=by
 unfold gM
 rw[List.mem_filter,nr]
theorem yE{done:List Int}(h:0<=fS n m L done):yz n (tC done (gM n m L (fS n m L done)))<yz n done:=by
 obtain⟨h1,h2⟩:=xz h
 have hn:fS n m L done∉done:=by
  simp only[iV,aa2,Bool.not_eq_true',List.contains_eq_mem,aa3] at h2
  exact h2.1
 refine oD (fun x _ hx=>?_) ⟨fS n m L done,nr.2 h1,by simpa using hn,?_⟩
 ·simp only[Bool.not_eq_true',List.contains_eq_mem,aa3,vo,not_or] at hx⊢
  exact hx.1
 ·simp only[ab3,List.contains_eq_mem,aa1,vo,Nj]
  exact .inr ⟨h1,IN _ _ _ _⟩
theorem xZ: ∀(f g:Nat) (done:List Int),yz n done<f->yz n done<g->ug n m L f done=ug n m L g done
 |0,_,_,h,_=>by omega
 |_+1,0,_,_,h=>by omega
 | f+1,g+1,done,h1,h2=>by
  rw[ug,ug]
  cases h:decide (fS n m L done<0) with
  |true=>rfl
  |false=>
   have:=yE (n:=n) (m:=m) (L:=L) (done:=done) (by simpa using h)
   rw[aa6,aa6,xZ f g _ (by omega) (by omega)]
def ss(n m:Nat)(L:Gr)(done:List Int):List (List Int):=ug n m L (yz n done+1) done
theorem BG(done:List Int):ss n m L done=bif decide (fS n m L done<0) then[] else gM n m L (fS n m L done)::ss n m L (tC done (gM n m L (fS n m L done))):=by
 unfold ss
 rw[ug]
 cases h:decide (fS n m L done<0) with
 |true=>rfl
 |false=>
  have:=yE (n:=n) (m:=m) (L:=L) (done:=done) (by simpa using h)
  rw[aa6,aa6,xZ _ _ _ (by omega) (Nat.lt_succ_self _)]
end
end Go.Rl
namespace Go.Proofs.YthaiinlfnommnaaGreatDoor
open Go Go.Dn Go.Rl Go.Proofs
attribute [local irreducible] a9 vc
set_option maxRecDepth 20000
def fF(op:Int):Bool:=decide (op=1)
def iK(op:Int):Bool:=bif decide (op=2) then true else decide (op>=7)
def dN(op:Int):Bool:=bif decide (op<3) then true else decide (op>6)
theorem ZQ(κ:Kp)(op:Int)(K:AV->List Dn.Obj->Prop):(a9 (Ti κ) 12 44 [.int op] [] K)=(
 K (AV.bool (op==(1:Int))) []):=by kernel_rfl
def WL:List AV->Option (Bool×AV)
 |[.lit (.int .i64 op)]=>some (true, .bool (fF op))
 |_=>none
theorem pKa(κ:Kp):c9 (Ti κ) 12 44 WL:=by
 intro args x hh
 unfold WL at hh
 split at hh
 ·rename_i op
  simp only[aa4,ab0,true_and] at hh
  subst hh
  exact⟨_,rfl,rfl,Eq.mpr (ZQ κ op _) (by rw[NQ];rfl)⟩
 ·cases hh
noncomputable def SG(κ:Kp):Env:=(Ti κ).aH 44 WL
theorem eKa(κ:Kp):aB (SG κ):=(YL κ).aH (WV κ) (pKa κ)
theorem WT(κ:Kp):aj (SG κ):=(WV κ).aH
theorem yKb(κ:Kp)(op:Int)(K:AV->List Dn.Obj->Prop):(a9 (SG κ) 12 73 [.int op] [] K)=(
 aD (op==(2:Int)) (K (AV.bool true) []) (K (AV.bool (decide (op>=(7:Int)))) [])):=by kernel_rfl
def We:List AV->Option (Bool×AV)
 |[.lit (.int .i64 op)]=>some (true, .bool (iK op))
 |_=>none
theorem pKb(κ:Kp):c9 (SG κ) 12 73 We:=by
 intro args x hh
 unfold We at hh
 split at hh
 ·rename_i op
  simp only[aa4,ab0,true_and] at hh
  subst hh
  refine⟨_,rfl,rfl,Eq.mpr (yKb κ op _) ?_⟩
  simp only[NQ]
  unfold iK
  cases decide (op=2)<;>rfl
 ·cases hh
noncomputable def Rt(κ:Kp):Env:=(SG κ).aH 73 We
theorem eKb(κ:Kp):aB (Rt κ):=(eKa κ).aH (WT κ) (pKb κ)
theorem Yb(κ:Kp):aj (Rt κ):=(WT κ).aH
theorem yKc(κ:Kp)(a:LA)(K:AV->List Dn.Obj->Prop):(a9 (Rt κ) 12 115 [a.av] [] K)=(
 aD (decide (a.op<(3:Int))) (K (AV.bool true) []) (K (AV.bool (decide (a.op>(6:Int)))) [])):=by kernel_rfl
def Wq:List AV->Option (Bool×AV)
 |[.agg [.lit (.int .i64 op), .agg [.lit (.string _), .ad 56 _], .agg [.lit (.int .i64 _), .lit (.string _), .lit (.int .i64 _), .ad 56 _], .agg [.lit (.int .i64 _), .lit (.string _), .lit (.int .i64 _), .ad 56 _]]]=>some (true, .bool (dN op))
 |_=>none
theorem Zw(κ:Kp):c9 (Rt κ) 12 115 Wq:=by
 intro args x hh
 unfold Wq at hh
 split at hh
 ·rename_i op s l o1 s1 n1 l1 o2 s2 n2 l2
  simp only[aa4,ab0,true_and] at hh
  subst hh
  refine⟨_,rfl,rfl,Eq.mpr (yKc κ ⟨op,s,l,o1,s1,n1,l1,o2,s2,n2,l2⟩ _) ?_⟩
  unfold dN
  simp only
  cases decide (op<3)<;>rfl
 ·cases hh
noncomputable def Nu(κ:Kp):Env:=(Rt κ).aH 115 Wq
theorem eKc(κ:Kp):aB (Nu κ):=(eKb κ).aH (Yb κ) (Zw κ)
theorem Xp(κ:Kp):aj (Nu κ):=(Yb κ).aH
theorem xKd(κ:Kp)(l:List AV)(k i:Int)(I:Nat->S->Prop)(n:Nat)(K:Exit->S->Prop):(vc (Nu κ) 12 97 none 0 (af (Pr κ).toProgram 97 2) (sp 19 [(0, .ad 3 l),(1, .int k),(7, .int l.length),(8, .int i)] []) (bH (Nu κ) 97 2 0 I n K))=(
 letI z1:=i<(↑(l.length):Int)
 aD (decide z1) (a7 (decide ((0:Int)<=i)&&decide z1) (aD (k==toInt (nth l i.toNat)) (K Exit.ret (sp 19 [(4,AV.int i)] [])) (∃(e0:Nat),e0<n/\I e0
 (sp 19 [(0,AV.ad 3 l),(1,AV.int k),(7,AV.int (↑(l.length):Int)),(8,AV.int (IntKind.wrap IntKind.i64 (i+(1:Int))))] [])))) (K (Exit.exit 0) (sp 19
 [] []))):=by kernel_rfl
def gF(k:Int):List AV->Int->Int
 |[],_=> -1
 |a::l,i=>bif decide (k=toInt a) then i else gF k l (i+1)
abbrev Rg(a:List AV×Int×Int):S:=sp 19 [(0, .ad 3 a.1),(1, .int a.2.1),(7, .int a.1.length),(8, .int a.2.2)] []
def J0(a:List AV×Int×Int):Prop:=a.1.length<=aR/\0<=a.2.2/\a.2.2<=a.1.length
def EF(a:List AV×Int×Int):Out (Exit×S):= .aD (decide (gF a.2.1 (a.1.drop a.2.2.toNat) a.2.2>=0)) (.one (.ret,sp 19 [(4, .int (gF a.2.1 (a.1.drop a.2.2.toNat) a.2.2))] [])) (.one (.exit 0,sp 19 [] []))
theorem Y9(κ:Kp):bh (Nu κ) 12 97 2 (aP 0 Rg J0 EF):=by
 refine aL (fun a=>a.1.length - a.2.2.toNat) ?_
 rintro⟨l,s,i⟩ K ⟨h1,h2,h3⟩ ho
 simp only at h1 h2 h3
 rw[show(Nu κ).P=Pr κ from rfl]
 refine Eq.mpr (xKd κ l s i _ _ K) ?_
 simp only[aR] at h1
 simp only[EF,Out.run,ah] at ho
 simp only[ah,an,aa1,aa3,aa2,beq_iff_eq,beq_eq_false_iff_ne]
 refine⟨fun hi=>⟨⟨h2,hi⟩,fun e=>?_,fun e=>?_⟩,fun hi=>?_⟩
 ·rw[ab2 (show i.toNat<l.length by omega),←bg l i.toNat (by omega),gF,aa7 e,aa8,aa7 (show i>=0 from h2)] at ho
  exact ho.1 rfl
 ·rw[aW (n:=i+1) (by omega) (by omega)]
  refine⟨_,?_,(l,s,i+1),rfl,⟨by simpa[aR] using h1,by simp only;omega,by simp only;omega⟩,rfl,?_⟩
  ·simp only;omega
  ·rw[ab2 (show i.toNat<l.length by omega),←bg l i.toNat (by omega),gF,aa5 e,aa6] at ho
   simp only[EF,Out.run,ah,show(i+1).toNat=i.toNat+1 by omega]
   exact ho
 ·rw[aa9 (by omega)] at ho
  exact ho.2 rfl
noncomputable def R5(κ:Kp):Env:=(Nu κ).ak 97 2 (aP 0 Rg J0 EF)
theorem Yw(κ:Kp):aB (R5 κ):=(eKc κ).ak (Xp κ) (Y9 κ)
theorem Xg(κ:Kp):aj (R5 κ):=(Xp κ).ak aF
theorem yKe(κ:Kp)(l:List AV)(k:Int)(K:AV->List Dn.Obj->Prop):(a9 (R5 κ) 12 97 [.ad 3 l, .int k] [] K)=(
 af (Pg.toProgram (Env.P (Nu κ))) 97 2=af (Pg.toProgram (Env.P (Nu κ))) 97 2/\∃(a:List AV×Int×Int),sp 19 [(0,AV.ad 3 l),(1,AV.int k),
 (7,AV.int (↑(l.length):Int)),(8,AV.int 0)] []=sp 19 [(0,AV.ad 3 a.1),(1,AV.int a.2.1),(7,AV.int (↑(a.1.length):Int)),(8,AV.int a.2.2)] []/\
 (a.1.length<=9223372036854775807/\(0:Int)<=a.2.2/\a.2.2<=(↑(a.1.length):Int))/\aD (decide (gF a.2.1 (List.drop (Int.toNat a.2.2) a.1) a.2.2>=(0
 :Int))) (K (AV.int (gF a.2.1 (List.drop (Int.toNat a.2.2) a.1) a.2.2)) []) (K (AV.int (-1)) [])):=by kernel_rfl
def Wm:List AV->Option (Bool×AV)
 |[.ad 3 l, .lit (.int .i64 k)]=>some (decide (l.length<=aR), .int (gF k l 0))
 |_=>none
theorem vQ(s:Int): ∀(l:List AV) (i:Int),¬ gF s l i>=0->0<=i->gF s l i= -1
 |[],_,_,_=>rfl
 |a::l,i,h,h0=>by
  simp only[gF] at h⊢
  cases e:decide (s=toInt a) with
  |true=>rw[e] at h;exact absurd h0 h
  |false=>rw[e] at h;exact vQ s l (i+1) h (by omega)
theorem YU(κ:Kp):c9 (R5 κ) 12 97 Wm:=by
 intro args x hh
 unfold Wm at hh
 split at hh
 ·rename_i l s
  simp only[aa4,ab0,aa1] at hh
  obtain⟨h1,rfl⟩:=hh
  refine⟨_,rfl,rfl,?_⟩
  refine Eq.mpr (yKe κ l s _) ?_
  refine⟨rfl,(l,s,0),rfl,⟨h1,by simp only;omega,by simp only;omega⟩,?_⟩
  simp only[ab8,ab1,ah,aa1,aa3]
  exact⟨fun _=>trivial,fun e=>by rw[vQ s l 0 e (by omega)]⟩
 ·cases hh
noncomputable def TR(κ:Kp):Env:=(R5 κ).aH 97 Wm
theorem eKe(κ:Kp):aB (TR κ):=(Yw κ).aH (Xg κ) (YU κ)
theorem Yp(κ:Kp):aj (TR κ):=(Xg κ).aH
theorem yKf(κ:Kp)(l:List AV)(k:Int)(K:AV->List Dn.Obj->Prop):(a9 (TR κ) 12 57 [.ad 3 l, .int k] [] K)=(
 a7 (decide (l.length<=9223372036854775807)) (K (AV.bool (decide (gF k l (0:Int)>=(0:Int)))) [])):=by kernel_rfl
def QL(k:Int)(l:List AV):Bool:=decide (gF k l 0>=0)
def Uz:List AV->Option (Bool×AV)
 |[.ad 3 l, .lit (.int .i64 k)]=>some (decide (l.length<=aR), .bool (QL k l))
 |_=>none
theorem pKf(κ:Kp):c9 (TR κ) 12 57 Uz:=by
 intro args x hh
 unfold Uz at hh
 split at hh
 ·rename_i l s
  simp only[aa4,ab0,aa1] at hh
  obtain⟨h1,rfl⟩:=hh
  refine⟨_,rfl,rfl,?_⟩
  refine Eq.mpr (yKf κ l s _) ?_
  rw[an,aa1]
  exact⟨h1,rfl⟩
 ·cases hh
noncomputable def NL(κ:Kp):Env:=(TR κ).aH 57 Uz
theorem eKf(κ:Kp):aB (NL κ):=(eKe κ).aH (Yp κ) (pKf κ)
theorem X3(κ:Kp):aj (NL κ):=(Yp κ).aH
theorem xC(k:Int): ∀(l:List Int) (i:Int),0<=i->(gF k (iA l) i>=0↔k∈l)
 |[],_,_=>by simp[iA,gF]
 | a::l,i,h0=>by
  have ih:=xC k l (i+1) (by omega)
  simp only[iA,ac1,gF] at ih⊢
  by_cases h:k=a
  ·rw[show decide (k=toInt (AV.lit (.int .i64 a)))=true from aa7 h,aa8]
   exact⟨fun _=>by simp[h],fun _=>h0⟩
  ·rw[show decide (k=toInt (AV.lit (.int .i64 a)))=false from aa5 h,aa6,ih]
   simp[h]
theorem CQ(k:Int)(l:List Int):QL k (iA l)=l.contains k:=by
 unfold QL
 rw[Bool.eq_iff_iff,aa1,xC k l 0 (by omega)]
 simp
def Du(ds:List AV)(a:Int):List AV->List (Int×Int)
 |[]=>[]
 |l::bl=>bif dN (toInt (ae l 0)) then(a,bt (toStr (ae (ae l 1) 0)) ds)::Du ds a bl else Du ds a bl
def Xm(ds:List AV)(r:AV):List (Int×Int):=Du ds (bt (toStr (ae (ae r 0) 0)) ds) (ai (ae r 1))
def wm(ds rs:List AV):List (Int×Int):=rs.flatMap (Xm ds)
def Ab(E:List (Int×Int)):List AV:=E.map fun e=> .ba [.int e.1, .int e.2]
theorem Nv(E F:List (Int×Int)):Ab (E++F)=Ab E++Ab F:=by simp[Ab]
structure Lu where
 ds:List AV
 rs:List AV
 xs:List AV
 more:List AV
 bl:List AV
 a:Int
 i:Int
 j:Int
abbrev Lj(x:Lu):S:=sp 53 [(0, .cu 0),(1, .ptr 1 0 [] 0),(5, .int x.a),(12, .ad 66 x.rs),(13, .int x.rs.length),(14, .int x.i),(28, .ad 72 x.bl),(29, .int x.bl.length),(30, .int x.j)] [.ext (some x.xs), .box 25 (gC x.ds x.rs)]
theorem xKg(κ:Kp)(x:Lu)(I:Nat->S->Prop)(n:Nat)(K:Exit->S->Prop):(vc (NL κ) 12 114 none 2 (af (Pr κ).toProgram 114 5) (Lj x) (bH (NL κ) 114 5 2 I n K))=(
 letI z1:=AV.agg [AV.ad 61 x.ds,AV.ad 66 x.rs]
 letI z2:=IntKind.wrap IntKind.i64 (x.j+(1:Int))
 letI z3:=x.bl.length
 aD (decide (x.j<(↑z3:Int))) (a7 (decide ((0:Int)<=x.j)&&decide (x.j<(↑z3:Int))) (aD (!dN (toInt (ae (nth x.bl x.j.toNat) 0))) (∃(e0:Nat),e0<n
 /\I e0 (sp 53 [(0,AV.cu 0),(1,AV.ptr 1 0 [] 0),(5,AV.int x.a),(12,AV.ad 66 x.rs),(13,AV.int (↑(x.rs.length):Int)),(14,AV.int x.i),(28,AV.ad 72
 x.bl),(29,AV.int (↑z3:Int)),(30,AV.int z2)] [Obj.ext (some x.xs),Obj.box 25 z1])) (∃(e2:List AV×ByteArray),([AV.ad 61 x.ds,AV.str (toStr (ae (ae
 (nth x.bl x.j.toNat) 1) 0))],aI)=([AV.ad 61 e2.1,AV.str e2.2],aI)/\gx e2/\∃(e1:List AV),x.xs=AV.ba [AV.int x.a,AV.int (bt e2.2 e2.1)]::e1/\(∃
 (e0:Nat),e0<n/\I e0 (sp 53 [(0,AV.cu 0),(1,AV.ptr 1 0 [] 0),(5,AV.int x.a),(12,AV.ad 66 x.rs),(13,AV.int (↑(x.rs.length):Int)),(14,AV.int
 x.i),(28,AV.ad 72 x.bl),(29,AV.int (↑z3:Int)),(30,AV.int z2)] [Obj.ext (some e1),Obj.box 25 z1]))/\K Exit.ret (sp 53 [] [Obj.ext none,Obj.box 25
 z1])))) (K (Exit.exit 2) (sp 53 [(0,AV.cu 0),(1,AV.ptr 1 0 [] 0),(12,AV.ad 66 x.rs),(13,AV.int (↑(x.rs.length):Int)),(14,AV.int x.i)] [Obj.ext (some
 x.xs),Obj.box 25 z1]))):=by kernel_rfl
def Di(x:Lu):Prop:=x.ds.length<=aR/\x.bl.length<=aR/\0<=x.j/\x.j<=x.bl.length/\x.xs=Ab (Du x.ds x.a (x.bl.drop x.j.toNat))++x.more
def IT(x:Lu):Out (Exit×S):= .all (fun _:Bool=>True) fun b=> .aD b
 (.one (.exit 2,sp 53 [(0, .cu 0),(1, .ptr 1 0 [] 0),(12, .ad 66 x.rs),(13, .int x.rs.length),(14, .int x.i)] [.ext (some x.more), .box 25 (gC x.ds x.rs)]))
 (.one (.ret,sp 53 [] [.ext none, .box 25 (gC x.ds x.rs)]))
theorem Je(ds:List AV)(a:Int)(bl:List AV)(k:Nat)(h:k<bl.length):Du ds a (bl.drop k)=bif dN (toInt (ae (nth bl k) 0)) then(a,bt (toStr (ae (ae (nth bl k) 1) 0)) ds)::Du ds a (bl.drop (k+1)) else Du ds a (bl.drop (k+1)):=by
 rw[ab2 h,←bg bl k h,Du]
theorem lKg(κ:Kp):bh (NL κ) 12 114 5 (aP 2 Lj Di IT):=by
 refine aL (fun x=>x.bl.length - x.j.toNat) ?_
 rintro⟨ds,rs,xs,more,bl,a,i,j⟩ K ⟨h0,h1,h2,h3,h4⟩ ho
 simp only at h0 h1 h2 h3 h4
 rw[show(NL κ).P=Pr κ from rfl]
 refine Eq.mpr (xKg κ ⟨ds,rs,xs,more,bl,a,i,j⟩ _ _ K) ?_
 simp only[aR] at h1
 have ho1:=ho true trivial
 have ho2:=ho false trivial
 simp only[Out.run,aD] at ho1 ho2
 simp only[ah,an,aa1,aa3,aa2]
 refine⟨fun hj=>⟨⟨h2,hj⟩,?_⟩,fun hj=>?_⟩
 ·have hd:=Je ds a bl j.toNat (by omega)
  rw[hd] at h4
  rw[aW (n:=j+1) (by omega) (by omega)]
  have next: ∀ys,ys=Ab (Du ds a (bl.drop (j.toNat+1)))++more->∃m,m<bl.length - j.toNat/\fe Lj Di IT (fun x=>x.bl.length - x.j.toNat) K m (Lj ⟨ds,rs,ys,more,bl,a,i,j+1⟩):=fun ys hy=>by
   refine⟨_,?_,⟨ds,rs,ys,more,bl,a,i,j+1⟩,rfl,⟨h0,by simpa[aR] using h1,by simp only;omega,by simp only;omega,?_⟩,rfl,ho⟩
   ·simp only;omega
   ·simp only[show(j+1).toNat=j.toNat+1 by omega];exact hy
  refine⟨fun e=>?_,fun e=>?_⟩
  ·rw[show dN (toInt (ae (nth bl j.toNat) 0))=false by simpa using e] at h4
   exact next _ h4
  ·rw[show dN (toInt (ae (nth bl j.toNat) 0))=true by simpa using e] at h4
   exact⟨(ds,toStr (ae (ae (nth bl j.toNat) 1) 0)),rfl,h0,_,h4,next _ rfl,ho2⟩
 ·rw[aa9 (by omega)] at h4
  have h4:xs=more:=h4
  subst h4
  exact ho1
noncomputable def Mb(κ:Kp):Env:=(NL κ).ak 114 5 (aP 2 Lj Di IT)
theorem eKg(κ:Kp):aB (Mb κ):=(eKf κ).ak (X3 κ) (lKg κ)
theorem W8(κ:Kp):aj (Mb κ):=(X3 κ).ak aF
abbrev L4(x:Lu):S:=sp 53 [(0, .cu 0),(1, .ptr 1 0 [] 0),(12, .ad 66 x.rs),(13, .int x.rs.length),(14, .int x.i)] [.ext (some x.xs), .box 25 (gC x.ds x.rs)]
theorem xKh(κ:Kp)(x:Lu)(I:Nat->S->Prop)(n:Nat)(K:Exit->S->Prop):(vc (Mb κ) 12 114 none 2 (af (Pr κ).toProgram 114 1) (L4 x) (bH (Mb κ) 114 1 2 I n K))=(
 letI z1:=AV.agg [AV.ad 61 x.ds,AV.ad 66 x.rs]
 letI z2:=nth x.rs x.i.toNat
 letI z3:=x.i<(↑(x.rs.length):Int)
 letI z4:=Pg.toProgram (Env.P (NL κ))
 aD (decide z3) (a7 (decide ((0:Int)<=x.i)&&decide z3) (∃(e3:List AV×ByteArray),([AV.ad 61 x.ds,AV.str (toStr (ae (ae z2 0) 0))],aI)=([AV.ad 61
 e3.1,AV.str e3.2],aI)/\gx e3/\af z4 114 5=af z4 114 5/\∃(e2:Lu),sp 53 [(0,AV.cu 0),(1,AV.ptr 1 0 [] 0),(5,AV.int (bt e3.2 e3.1)),(12,AV.ad 66
 x.rs),(13,AV.int (↑(x.rs.length):Int)),(14,AV.int x.i),(28,AV.ad 72 (ai (ae z2 1))),(29,AV.int (↑(List.length (ai (ae z2 1))):Int)),(30,AV.int 0)]
 [Obj.ext (some x.xs),Obj.box 25 z1]=sp 53 [(0,AV.cu 0),(1,AV.ptr 1 0 [] 0),(5,AV.int e2.a),(12,AV.ad 66 e2.rs),(13,AV.int (↑(e2.rs.length):Int)),
 (14,AV.int e2.i),(28,AV.ad 72 e2.bl),(29,AV.int (↑(e2.bl.length):Int)),(30,AV.int e2.j)] [Obj.ext (some e2.xs),Obj.box 25 (AV.agg [AV.ad 61 e2.ds,
 AV.ad 66 e2.rs])]/\(e2.ds.length<=9223372036854775807/\e2.bl.length<=9223372036854775807/\(0:Int)<=e2.j/\e2.j<=(↑(e2.bl.length):Int)/\e2.xs=Ab
 (Du e2.ds e2.a (List.drop e2.j.toNat e2.bl))++e2.more)/\∀(e1:Bool),True->aD e1 (∃(e0:Nat),e0<n/\I e0 (sp 53 [(0,AV.cu 0),(1,AV.ptr 1 0 [] 0),
 (12,AV.ad 66 e2.rs),(13,AV.int (↑(e2.rs.length):Int)),(14,AV.int (IntKind.wrap IntKind.i64 (e2.i+(1:Int))))] [Obj.ext (some e2.more),Obj.box 25
 (AV.agg [AV.ad 61 e2.ds,AV.ad 66 e2.rs])])) (K Exit.ret (sp 53 [] [Obj.ext none,Obj.box 25 (AV.agg [AV.ad 61 e2.ds,AV.ad 66 e2.rs])])))) (K (Exit.exit 0) (sp
 53 [] [Obj.ext (some x.xs),Obj.box 25 z1]))):=by kernel_rfl
def JW(rs:List AV):Prop:=∀r,r∈rs->(ai (ae r 1)).length<=aR
def Cs(x:Lu):Prop:=x.ds.length<=aR/\x.rs.length<=aR/\JW x.rs/\0<=x.i/\x.i<=x.rs.length/\x.xs=Ab (wm x.ds (x.rs.drop x.i.toNat))
def JN(x:Lu):Out (Exit×S):= .all (fun _:Bool=>True) fun b=> .aD b
 (.one (.exit 0,sp 53 [] [.ext (some []), .box 25 (gC x.ds x.rs)]))
 (.one (.ret,sp 53 [] [.ext none, .box 25 (gC x.ds x.rs)]))
theorem lKh(κ:Kp):bh (Mb κ) 12 114 1 (aP 2 L4 Cs JN):=by
 refine aL (fun x=>x.rs.length - x.i.toNat) ?_
 rintro⟨ds,rs,xs,more,bl,a,i,j⟩ K ⟨h0,h1,h5,h2,h3,h4⟩ ho
 simp only at h0 h1 h2 h3 h4 h5
 rw[show(Mb κ).P=Pr κ from rfl]
 refine Eq.mpr (xKh κ ⟨ds,rs,xs,more,bl,a,i,j⟩ _ _ K) ?_
 simp only[aR] at h1
 have ho1:=ho true trivial
 have ho2:=ho false trivial
 simp only[Out.run,aD] at ho1 ho2
 simp only[ah,an,aa1,aa3,aa2]
 refine⟨fun hi=>⟨⟨h2,hi⟩,(ds,toStr (ae (ae (nth rs i.toNat) 0) 0)),rfl,h0,?_⟩,fun hi=>?_⟩
 ·have hk:i.toNat<rs.length:=by omega
  rw[wm,ab2 hk,←bg rs i.toNat hk,List.flatMap_cons,Nv] at h4
  refine⟨trivial,⟨ds,rs,xs,Ab (wm ds (rs.drop (i.toNat+1))),ai (ae (nth rs i.toNat) 1),bt (toStr (ae (ae (nth rs i.toNat) 0) 0)) ds,i,0⟩,rfl,⟨h0,?_,by simp only;omega,by simp only;omega,h4⟩,?_⟩
  ·exact h5 _ (by rw[bg _ _ hk];exact List.getElem_mem _)
  ·intro y _
   refine⟨fun _=>?_,fun _=>ho2⟩
   ·show∃m,m<rs.length - i.toNat/\fe L4 Cs JN (fun x=>x.rs.length - x.i.toNat) K m (sp 53 [(0, .cu 0),(1, .ptr 1 0 [] 0),(12, .ad 66 rs),(13, .int rs.length),(14, .int (IntKind.wrap IntKind.i64 (i+1)))] [.ext (some (Ab (wm ds (rs.drop (i.toNat+1))))), .box 25 (gC ds rs)])
    rw[aW (n:=i+1) (by omega) (by omega)]
    refine⟨_,?_,⟨ds,rs,_,more,bl,a,i+1,j⟩,rfl,⟨h0,by simpa[aR] using h1,h5,by simp only;omega,by simp only;omega,?_⟩,rfl,ho⟩
    ·simp only;omega
    ·simp only[show(i+1).toNat=i.toNat+1 by omega];rfl
 ·rw[aa9 (by omega)] at h4
  have h4:xs=[]:=h4
  subst h4
  exact ho1
noncomputable def Rw(κ:Kp):Env:=(Mb κ).ak 114 1 (aP 2 L4 Cs JN)
theorem eKh(κ:Kp):aB (Rw κ):=(eKg κ).ak (W8 κ) (lKh κ)
theorem XT(κ:Kp):aj (Rw κ):=(W8 κ).ak aF
theorem Z1(κ:Kp)(ds rs xs:List AV)(K:AV->List Dn.Obj->Prop):(a9 (Rw κ) 12 114 [.cu 0, .ptr 1 0 [] 0] [.ext (some xs), .box 25 (gC ds rs)] K)=(
 af (Pg.toProgram (Env.P (Mb κ))) 114 1=af (Pg.toProgram (Env.P (Mb κ))) 114 1/\∃(a:Lu),sp 53 [(0,AV.cu 0),(1,AV.ptr 1 0 [] 0),(12,
 AV.ad 66 rs),(13,AV.int (↑(rs.length):Int)),(14,AV.int 0)] [Obj.ext (some xs),Obj.box 25 (AV.agg [AV.ad 61 ds,AV.ad 66 rs])]=sp 53 [(0,AV.cu 0),
 (1,AV.ptr 1 0 [] 0),(12,AV.ad 66 a.rs),(13,AV.int (↑(a.rs.length):Int)),(14,AV.int a.i)] [Obj.ext (some a.xs),Obj.box 25 (AV.agg [AV.ad 61 a.ds,
 AV.ad 66 a.rs])]/\(a.ds.length<=9223372036854775807/\a.rs.length<=9223372036854775807/\(∀(r:AV),List.Mem r a.rs->List.length (ai (ae r 1))<=
 9223372036854775807)/\(0:Int)<=a.i/\a.i<=(↑(a.rs.length):Int)/\a.xs=Ab (wm a.ds (List.drop a.i.toNat a.rs)))/\∀(y:Bool),True->aD y (K
 (AV.ba []) [Obj.ext (some []),Obj.box 25 (AV.agg [AV.ad 61 a.ds,AV.ad 66 a.rs])]) (K (AV.ba []) [Obj.ext none,Obj.box 25 (AV.agg [AV.ad 61 a.ds,AV.ad
 66 a.rs])])):=by kernel_rfl
def Qt(x:qB):List AV×List Dn.Obj:=([.cu 0, .ptr 1 0 [] 0],[.ext (some (Ab (wm x.1 x.2))), .box 25 (gC x.1 x.2)])
def Dw(x:qB):Prop:=x.1.length<=aR/\x.2.length<=aR/\JW x.2
def Jn(_:qB):Out (AV×List Dn.Obj):= .all (fun st'=>qP st') fun st'=> .one (.ba [],st')
theorem cKi(κ:Kp):bq (Rw κ) 12 114 (aM Qt Dw Jn):=by
 refine aZ ?_
 rintro⟨ds,rs⟩ K ⟨h1,h2,h3⟩ ho
 refine Eq.mpr (Z1 κ ds rs (Ab (wm ds rs)) K) ?_
 refine⟨rfl,⟨ds,rs,Ab (wm ds rs),[],[],0,0,0⟩,rfl,⟨h1,h2,h3,by simp only;omega,by simp only;omega,rfl⟩,fun y _=>?_⟩
 cases y
 ·exact ho _ trivial
 ·exact ho _ trivial
set_option maxRecDepth 20000 in
noncomputable def y6(κ:Kp):Env:=(Rw κ).ay 114 (aM Qt Dw Jn)
theorem eKi(κ:Kp):aB (y6 κ):=(eKh κ).ay (XT κ) (cKi κ)
theorem Yq(κ:Kp):aj (y6 κ):=(XT κ).ay aJ
end Go.Proofs.YthaiinlfnommnaaGreatDoor
namespace Go.Proofs.YthaiinlfnommnaaGreatDoor
open Go Go.Dn Go.Rl Go.Proofs
theorem qu{f:AV->Int}: ∀{rs:List AV},(EM f rs).2=0↔ ∀x,x∈rs->f x=0
 |[]=>by simp[EM]
 |x::l=>by
  rw[EM]
  by_cases h:f x=0
  ·rw[aa7 h,aa8,qu];simp[h]
  ·rw[aa5 h,aa6];simp[h]
theorem zY{ds rs:List AV}:(fG ds rs).2=0↔eL ds rs=true/\(Ol ds ds 0).2=0/\(∀x,x∈rs->jv ds x=0)/\∀x,x∈rs->iU x=0:=by
 unfold fG uT
 cases eL ds rs with
 |false=>simp
 | true=>
  simp only[aa8,true_and]
  by_cases h:(Ol ds ds 0).2=0
  ·rw[aa7 h,aa8]
   by_cases h2:(EM (jv ds) rs).2=0
   ·rw[aa7 h2,aa8,qu]
    exact⟨fun h3=>⟨h,qu.1 h2,h3⟩,fun h3=>h3.2.2⟩
   ·rw[aa5 h2,aa6]
    exact⟨fun h3=>absurd h3 h2,fun h3=>absurd (qu.2 h3.2.1) h2⟩
  ·rw[aa5 h,aa6,aa5 h,aa6]
   exact⟨fun h3=>absurd h3 h,fun h3=>absurd h3.1 h⟩
theorem Kr{ds:List AV}{a:At}(h:known (cz ds) a=0):0<=bt a.rel ds/\bt a.rel ds<ds.length:=by
 unfold known at h
 cases e:jT a.rel (cz ds) with
 |none=>rw[e] at h;cases h
 |some k=>obtain⟨_,h2,h3⟩:=qO e;rw[h2];omega
theorem Sw{ds:List AV}{r:cg}(h:(rY (ds,r)).1=0):jC (cz ds) (aG r)=0:=by
 by_cases e:jC (cz ds) (aG r)=0
 ·exact e
 ·exfalso
  have hr: ∀n,(fB getM fU (cz ds) (aG r) (n+1) []).1=jC (cz ds) (aG r):=fun n=>by
   rw[fB,B0 _ _ _ e,aa5 e,aa6]
  unfold rY pD at h
  simp only[hr,aa5 e,aa6] at h
  exact e h
theorem wa{ds:List Dc}: ∀{b:List Lt},iC ds b=0->∀l,l∈b->Rl.dN l=true->known ds l.a=0
 |[],_,_,h,_=>nomatch h
 | x::b,hk,l,hl,ha=>by
  rw[iC] at hk
  cases e:Rl.dN x&& !decide (known ds x.a=0) with
  |true=>
   rw[e,aa8] at hk
   rw[hk] at e;simp at e
  |false=>
   rw[e,aa6] at hk
   rcases List.mem_cons.1 hl with rfl|hl
   ·rw[ha] at e;simpa using e
   ·exact wa hk l hl ha
theorem Ci{ds rs:List AV}(h:(fG ds rs).2=0){r:AV}(hr:r∈rs):(0<=bt (toStr (ae (ae r 0) 0)) ds/\bt (toStr (ae (ae r 0) 0)) ds<ds.length)/\
  ∀l,l∈ai (ae r 1)->dN (toInt (ae l 0))=true->0<=bt (toStr (ae (ae l 1) 0)) ds/\bt (toStr (ae (ae l 1) 0)) ds<ds.length:=by
 obtain⟨h1,_,h2,_⟩:=zY.1 h
 have ht:=h2 r hr
 have hk:jC (cz ds) (aG (eE r))=0:=by
  refine Sw ?_
  unfold jv at ht
  cases e:eL ds [aq (eE r)] with
  |true=>rw[e,aa8] at ht;exact ht
  |false=>rw[e,aa6] at ht;cases ht
 unfold jC at hk
 cases e:decide (known (cz ds) (aG (eE r)).head=0) with
 |false=>rw[e,aa6] at hk;simp[hk] at e
 |true=>
  rw[e,aa8] at hk
  refine⟨Kr (a:=(aG (eE r)).head) (by simpa using e),fun l hl ha=>?_⟩
  have hm:cE l∈(aG (eE r)).body:=List.mem_map_of_mem hl
  refine Kr (a:=(cE l).a) (wa hk _ hm ?_)
  have e1:(cE l).op=toInt (ae l 0):=rfl
  unfold Rl.dN
  rw[e1]
  unfold dN at ha
  cases h3:decide (toInt (ae l 0)<3) with
  |true=>rfl
  |false=>rw[h3,aa6] at ha;simpa using ha
theorem x5{ds:List AV}{a:Int}{e:Int×Int}: ∀{bl:List AV},e∈Du ds a bl↔ ∃l,l∈bl/\dN (toInt (ae l 0))=true/\e=(a,bt (toStr (ae (ae l 1) 0)) ds)
 |[]=>by simp[Du]
 | x::bl=>by
  rw[Du]
  cases h:dN (toInt (ae x 0)) with
  | true=>
   rw[aa8,ac3,x5]
   constructor
   ·rintro(rfl|⟨l,h1,h2⟩)
    ·exact⟨x,by simp,h,rfl⟩
    ·exact⟨l,by simp[h1],h2⟩
   ·rintro⟨l,h1,h2,h3⟩
    rcases List.mem_cons.1 h1 with rfl|h1
    ·exact .inl h3
    ·exact .inr ⟨l,h1,h2,h3⟩
  | false=>
   rw[aa6,x5]
   constructor
   ·rintro⟨l,h1,h2⟩
    exact⟨l,by simp[h1],h2⟩
   ·rintro⟨l,h1,h2,h3⟩
    rcases List.mem_cons.1 h1 with rfl|h1
    ·rw[h] at h2;cases h2
    ·exact⟨l,h1,h2,h3⟩
theorem Mf{ds rs:List AV}{e:Int×Int}:e∈wm ds rs↔ ∃r,r∈rs/\∃l,l∈ai (ae r 1)/\dN (toInt (ae l 0))=true/\e=(bt (toStr (ae (ae r 0) 0)) ds,bt (toStr (ae (ae l 1) 0)) ds):=by
 unfold wm
 rw[List.mem_flatMap]
 exact exists_congr fun r=>and_congr_right fun _=>x5
def So(ds rs:List AV):Prop:=∀e,e∈wm ds rs->(0<=e.1/\e.1<ds.length)/\0<=e.2/\e.2<ds.length
theorem TP{ds rs:List AV}(h:(fG ds rs).2=0):So ds rs:=by
 intro e he
 obtain⟨r,h1,l,h2,h3,rfl⟩:=Mf.1 he
 have:=Ci h h1
 exact⟨this.1,this.2 l h2 h3⟩
end Go.Proofs.YthaiinlfnommnaaGreatDoor
namespace Go.Rl
open Go Go.Dn
theorem rf(D:List Int)(b:Int): ∃t td,D++[b]=t::td/\(t::td).dropLast=D/\ej (t::td)=b:=by
 cases D with
 |nil=>exact⟨b,[],rfl,rfl,rfl⟩
 | cons t D=>
  refine⟨t,D++[b],rfl,?_,?_⟩
  ·rw[←List.cons_append,List.dropLast_concat]
  ·have:=xi (t:=t) (todo:=D++[b])
   rw[←List.cons_append,List.dropLast_concat] at this
   simpa using List.append_inj_right this rfl
theorem xm{n m:Nat}{L:Gr}(hG:WG n m L){D met:List Int}{b:Int}(hs:Sd n m (D++[b]) met):
  u6 n m L (D++[b]) met=bif met.contains b then u6 n m L D met else u6 n m L (D++L.at b) (met++[b]):=by
 obtain⟨t,td,e,e1,e2⟩:=rf D b
 rw[e] at hs⊢
 rw[H2 hG hs,e1,e2]
theorem Sd.TU{n m:Nat}{D met:List Int}{b:Int}(h:Sd n m (D++[b]) met):Sd n m D met/\ms n m D met<ms n m (D++[b]) met:=by
 obtain⟨t,td,e,e1,e2⟩:=rf D b
 rw[e] at h⊢
 have h1:=h.pop
 have h2:=yb n m t td met
 rw[e1] at h1 h2
 exact⟨h1,h2⟩
theorem Sd.Sn{n m:Nat}{L:Gr}(hG:WG n m L){D met:List Int}{b:Int}(h:Sd n m (D++[b]) met)(hn:met.contains b=false):Sd n m (D++L.at b) (met++[b])/\ms n m (D++L.at b) (met++[b])<ms n m (D++[b]) met:=by
 obtain⟨t,td,e,e1,e2⟩:=rf D b
 have hb:=h.ht b (by simp)
 rw[e] at h⊢
 rw[←e2] at hn hb
 have h1:=h.add hG hn
 have h2:=yX hG t td met hb hn
 rw[e1,e2] at h1 h2
 exact⟨h1,h2⟩
end Go.Rl
namespace Go.Proofs.YthaiinlfnommnaaGreatDoor
open Go Go.Dn Go.Rl Go.Proofs
attribute [local irreducible] a9 vc
set_option maxRecDepth 20000
abbrev fV(k:Int):Value:= .int .i64 k
def dt(L:Gr):List (List Value):=L.map fun l=>l.map fV
def ic(l:List Int):List (Value×AV):=l.map fun k=>(fV k, .lit (.bool true))
abbrev QC(l:List Int):AV:= .js 3 4 (l.map fV) (l.map fun _=> .lit (.bool true))
theorem Ez: ∀(l:List (List Int)) (k:Nat),bQ (l.map fun l=>l.map fV) k=(l.getD k []).map fV
 |[],k=>by cases k<;>rfl
 |_::_,0=>rfl
 |_::l,k+1=>by simpa[bQ] using Ez l k
theorem lY(L:Gr)(a:Int):bQ (dt L) a.toNat=(L.at a).map fV:=Ez L a.toNat
theorem l3(b:Int): ∀l:List Int,dh (ic l) (fV b) (.lit (.bool false))= .lit (.bool (l.contains b))
 |[]=>rfl
 |a::l=>by
  have ih:=l3 b l
  simp only[ic,ac1,dh] at ih⊢
  have e:dc (fV b) (fV a)=(b==a):=by simp[dc]
  rw[e,ih,List.contains_cons]
  cases b==a<;>rfl
theorem qR(b:Int): ∀l:List Int,eM (ic l) (fV b) (.lit (.bool true))=ic (bif l.contains b then l else l++[b])
 |[]=>rfl
 | a::l=>by
  have ih:=qR b l
  simp only[ic,ac1,eM] at ih⊢
  have e:dc (fV b) (fV a)=(b==a):=by simp[dc]
  rw[e,ih,List.contains_cons]
  cases h:b==a with
  |true=>
   have:b=a:=by simpa using h
   subst this;rfl
  |false=>cases l.contains b<;>rfl
theorem sU(l:List Int):(ic l).map (·.1)=l.map fV:=by simp[ic]
theorem s7(l:List Int):(ic l).map (·.2)=l.map fun _=> .lit (.bool true):=by simp[ic]
abbrev JG(ls:List (List Value)):Dn.Obj:= .rows 38 3 ls none
abbrev sL(n:Nat)(ls:List (List Value))(fs:List AV):List Dn.Obj:=[.box 122 (.agg [.ar 1 0 n, .ar 2 0 fs.length]),JG ls, .row 89 fs]
abbrev wB(n:Nat)(ls:List (List Value)):List Dn.Obj:=[.box 122 (.agg [.ar 1 0 n, .nil]),JG ls]
theorem LM(D tl:List AV)(x:AV):nth (D++x::tl) (0+D.length)=x:=by
 rw[Nat.zero_add]
 induction D with
 |nil=>rfl
 |cons a D ih=>exact ih
theorem Fp(D:List Int)(b:Int)(tl:List AV):((D++[b]).length:Int) - 1=D.length/\iA (D++[b])++tl=iA D++AV.int b::tl/\nth (iA D++AV.int b::tl) (0+D.length)=AV.int b/\(iA D++AV.int b::tl).take D.length=iA D/\toInt (AV.int b)=b:=by
 have e2:=LM (iA D) tl (AV.int b)
 rw[fP] at e2
 exact⟨by simp,by simp[iA],e2,List.take_left' (fP D),rfl⟩
theorem Cn(L:Gr)(a:Int):(bQ (dt L) a.toNat).length=(L.at a).length:=by rw[lY,List.length_map]
theorem Dq(L:Gr)(a:Int):List.map AV.lit (List.take (bQ (dt L) a.toNat).length (bQ (dt L) a.toNat))=iA (L.at a):=by
 rw[List.take_length,lY,List.map_map];rfl
structure Lv where
 n:Nat
 m:Nat
 L:Gr
 fs:List AV
 todo:List Int
 met:List Int
 tl:List AV
def yC(x:Lv):Prop:=WG x.n x.m x.L/\Sd x.n x.m x.todo x.met/\(x.n+1)*x.m<=1000000000
def jR(x:Lv):List Int:=u6 x.n x.m x.L x.todo x.met
theorem xRe(κ:Kp)(N:Nat)(ls:List (List Value))(fs:List AV)(es:List (Value×AV))(ws:List AV)(k:Nat)(I:Nat->S->Prop)(n:Nat)(K:Exit->S->Prop):(vc (y6 κ) 12 72 none 3 (af (Pr κ).toProgram 72 3) (sp 48 [(0, .ptr 0 0 [] 0),(5, .mp 3),(6, .ar 4 0 k)] (sL N ls fs++[.map 3 4 es, .row 3 ws])) (bH (y6 κ) 72 3 3 I n K))=(
 letI z2:=(↑k:Int) - (1:Int)
 letI z4:=IntKind.wrap IntKind.i64 z2
 letI z1:=nth ws (0+Int.toNat z4)
 letI z5:=AV.agg [AV.ar 1 0 N,AV.ar 2 0 fs.length]
 letI z6:=(0:Int)<=IntKind.wrap IntKind.i64 z2
 letI z7:=Value.int IntKind.i64 (toInt z1)
 letI z8:=bQ ls (Int.toNat (toInt z1))
 letI z3:=List.take (List.length z8) z8
 aD (decide ((↑k:Int)>(0:Int))) (a7 (decide z6&&decide (IntKind.wrap IntKind.i64 z2<(↑k:Int))) (a7 (decide z6&&decide (IntKind.wrap IntKind.i64 z2
 <=IntKind.wrap IntKind.i64 z2)&&decide (IntKind.wrap IntKind.i64 z2<=(↑k:Int))) (aD (!Dn.toBool (dh es z7 (AV.bool false))) (a7 (decide ((0:Int)<=toInt
 z1)&&decide (toInt z1<(↑N:Int))) (a7 (decide ((Int.toNat z4+List.length (List.map AV.lit z3)+1)*9<=70368744177664)) (∃(e0:Nat),e0<n/\I e0
 (sp 48 [(0,AV.ptr 0 0 [] 0),(5,AV.mp 3),(6,AV.ar 4 0 (Int.toNat z4+List.length (List.map AV.lit z3)))] [Obj.box 122 z5,Obj.rows 38 3 ls none,Obj.row 89
 fs,Dn.Obj.map 3 4 (eM es z7 (AV.bool true)),Obj.row 3 (List.take (Int.toNat z4) ws++List.map AV.lit z3)])))) (∃(e0:Nat),e0<n/\I e0 (sp 48 [(0,AV.ptr
 0 0 [] 0),(5,AV.mp 3),(6,AV.ar 4 0 (Int.toNat z4))] [Obj.box 122 z5,Obj.rows 38 3 ls none,Obj.row 89 fs,Dn.Obj.map 3 4 es,Obj.row 3 ws]))))) (K
 (Exit.exit 0) (sp 48 [(5,AV.mp 3)] [Obj.box 122 z5,Obj.rows 38 3 ls none,Obj.row 89 fs,Dn.Obj.map 3 4 es]))):=by kernel_rfl
abbrev Qc(x:Lv):S:=sp 48 [(0, .ptr 0 0 [] 0),(5, .mp 3),(6, .ar 4 0 x.todo.length)] (sL x.n (dt x.L) x.fs++[.map 3 4 (ic x.met), .row 3 (iA x.todo++x.tl)])
def AD(x:Lv):Out (Exit×S):= .one (.exit 0,sp 48 [(5, .mp 3)] (sL x.n (dt x.L) x.fs++[.map 3 4 (ic (jR x))]))
theorem lRe(κ:Kp):bh (y6 κ) 12 72 3 (aP 3 Qc yC AD):=by
 refine aL (fun x=>ms x.n x.m x.todo x.met) ?_
 rintro⟨n,m,L,fs,todo,met,tl⟩ K ⟨hG,hS,hb⟩ ho
 simp only at hG hS hb
 rw[show(y6 κ).P=Pr κ from rfl]
 refine Eq.mpr (xRe κ n (dt L) fs (ic met) (iA todo++tl) todo.length _ _ K) ?_
 simp only[AD,jR,Out.run] at ho
 rw[ah,aa1,aa3]
 refine⟨fun h=>?_,fun h=>?_⟩
 ·obtain⟨D,b,rfl⟩: ∃D b,todo=D++[b]:=⟨_,_,(List.dropLast_concat_getLast (by intro e;subst e;simp at h)).symm⟩
  have hle:=hS.le
  have hbr:=hS.ht b (by simp)
  have hlm:=hG.le b
  have hlen:=hG.len
  have hmn:m<=(n+1)*m:=Nat.le_mul_of_pos_left m (Nat.succ_pos n)
  obtain⟨e0,e1,e2,e3,e4⟩:=Fp D b tl
  simp only[ab9,List.length_singleton] at hle
  rw[e0,aW (n:=(D.length:Int)) (by omega) (by omega),e1,Int.toNat_natCast,e2,e3,e4,l3,qR,lY,List.take_length,List.map_map]
  rw[xm hG hS] at ho
  simp only[an,ah,aa1,aa2,List.length_map,ab9,List.length_singleton,show Dn.toBool (AV.lit (.bool (met.contains b)))=met.contains b from rfl]
  refine⟨⟨by omega,by omega⟩,⟨⟨by omega,by omega⟩,by omega⟩,fun e=>?_,fun e=>?_⟩
  ·have e:met.contains b=false:=by simpa using e
   obtain⟨h1,h2⟩:=hS.Sn hG e
   rw[e,aa6] at ho
   refine⟨⟨by omega,by omega⟩,by omega,_,h2,⟨n,m,L,fs,D++L.at b,met++[b],[]⟩,?_,⟨hG,h1,hb⟩,rfl,?_⟩
   ·rw[e,aa6]
    simp only[Qc,List.append_nil,ab9,tJ]
    rfl
   ·simp only[AD,jR,Out.run]
    exact ho
  ·have e:met.contains b=true:=by simpa using e
   obtain⟨h1,h2⟩:=hS.TU
   rw[e,aa8] at ho
   refine⟨_,h2,⟨n,m,L,fs,D,met,AV.int b::tl⟩,rfl,⟨hG,h1,hb⟩,rfl,?_⟩
   simp only[AD,jR,Out.run]
   exact ho
 ·obtain rfl:todo=[]:=List.eq_nil_of_length_eq_zero (by omega)
  rw[AG] at ho
  exact ho
theorem xRz(κ:Kp)(N:Nat)(ls:List (List Value))(es:List (Value×AV))(ws:List AV)(k:Nat)(I:Nat->S->Prop)(n:Nat)(K:Exit->S->Prop):(vc (y6 κ) 12 72 none 2 (af (Pr κ).toProgram 72 3) (sp 48 [(0, .ptr 0 0 [] 0),(5, .mp 2),(6, .ar 3 0 k)] (wB N ls++[.map 3 4 es, .row 3 ws])) (bH (y6 κ) 72 3 2 I n K))=(
 letI z2:=(↑k:Int) - (1:Int)
 letI z4:=IntKind.wrap IntKind.i64 z2
 letI z1:=nth ws (0+Int.toNat z4)
 letI z5:=AV.agg [AV.ar 1 0 N,AV.nil]
 letI z6:=(0:Int)<=IntKind.wrap IntKind.i64 z2
 letI z7:=Value.int IntKind.i64 (toInt z1)
 letI z8:=bQ ls (Int.toNat (toInt z1))
 letI z3:=List.take (List.length z8) z8
 aD (decide ((↑k:Int)>(0:Int))) (a7 (decide z6&&decide (IntKind.wrap IntKind.i64 z2<(↑k:Int))) (a7 (decide z6&&decide (IntKind.wrap IntKind.i64 z2
 <=IntKind.wrap IntKind.i64 z2)&&decide (IntKind.wrap IntKind.i64 z2<=(↑k:Int))) (aD (!Dn.toBool (dh es z7 (AV.bool false))) (a7 (decide ((0:Int)<=toInt
 z1)&&decide (toInt z1<(↑N:Int))) (a7 (decide ((Int.toNat z4+List.length (List.map AV.lit z3)+1)*9<=70368744177664)) (∃(e0:Nat),e0<n/\I e0
 (sp 48 [(0,AV.ptr 0 0 [] 0),(5,AV.mp 2),(6,AV.ar 3 0 (Int.toNat z4+List.length (List.map AV.lit z3)))] [Obj.box 122 z5,Obj.rows 38 3 ls none,Dn.Obj.map
 3 4 (eM es z7 (AV.bool true)),Obj.row 3 (List.take (Int.toNat z4) ws++List.map AV.lit z3)])))) (∃(e0:Nat),e0<n/\I e0 (sp 48 [(0,AV.ptr 0 0 [] 0),(5,
 AV.mp 2),(6,AV.ar 3 0 (Int.toNat z4))] [Obj.box 122 z5,Obj.rows 38 3 ls none,Dn.Obj.map 3 4 es,Obj.row 3 ws]))))) (K (Exit.exit 0) (sp 48 [(5,AV.mp 2)]
 [Obj.box 122 z5,Obj.rows 38 3 ls none,Dn.Obj.map 3 4 es]))):=by kernel_rfl
abbrev OU(x:Lv):S:=sp 48 [(0, .ptr 0 0 [] 0),(5, .mp 2),(6, .ar 3 0 x.todo.length)] (wB x.n (dt x.L)++[.map 3 4 (ic x.met), .row 3 (iA x.todo++x.tl)])
def Aq(x:Lv):Out (Exit×S):= .one (.exit 0,sp 48 [(5, .mp 2)] (wB x.n (dt x.L)++[.map 3 4 (ic (jR x))]))
theorem Z4(κ:Kp):bh (y6 κ) 12 72 3 (aP 2 OU yC Aq):=by
 refine aL (fun x=>ms x.n x.m x.todo x.met) ?_
 rintro⟨n,m,L,fs,todo,met,tl⟩ K ⟨hG,hS,hb⟩ ho
 simp only at hG hS hb
 rw[show(y6 κ).P=Pr κ from rfl]
 refine Eq.mpr (xRz κ n (dt L) (ic met) (iA todo++tl) todo.length _ _ K) ?_
 simp only[Aq,jR,Out.run] at ho
 rw[ah,aa1,aa3]
 refine⟨fun h=>?_,fun h=>?_⟩
 ·obtain⟨D,b,rfl⟩: ∃D b,todo=D++[b]:=⟨_,_,(List.dropLast_concat_getLast (by intro e;subst e;simp at h)).symm⟩
  have hle:=hS.le
  have hbr:=hS.ht b (by simp)
  have hlm:=hG.le b
  have hlen:=hG.len
  have hmn:m<=(n+1)*m:=Nat.le_mul_of_pos_left m (Nat.succ_pos n)
  obtain⟨e0,e1,e2,e3,e4⟩:=Fp D b tl
  simp only[ab9,List.length_singleton] at hle
  rw[e0,aW (n:=(D.length:Int)) (by omega) (by omega),e1,Int.toNat_natCast,e2,e3,e4,l3,qR,lY,List.take_length,List.map_map]
  rw[xm hG hS] at ho
  simp only[an,ah,aa1,aa2,List.length_map,ab9,List.length_singleton,show Dn.toBool (AV.lit (.bool (met.contains b)))=met.contains b from rfl]
  refine⟨⟨by omega,by omega⟩,⟨⟨by omega,by omega⟩,by omega⟩,fun e=>?_,fun e=>?_⟩
  ·have e:met.contains b=false:=by simpa using e
   obtain⟨h1,h2⟩:=hS.Sn hG e
   rw[e,aa6] at ho
   refine⟨⟨by omega,by omega⟩,by omega,_,h2,⟨n,m,L,fs,D++L.at b,met++[b],[]⟩,?_,⟨hG,h1,hb⟩,rfl,?_⟩
   ·rw[e,aa6]
    simp only[OU,List.append_nil,ab9,tJ]
    rfl
   ·simp only[Aq,jR,Out.run]
    exact ho
  ·have e:met.contains b=true:=by simpa using e
   obtain⟨h1,h2⟩:=hS.TU
   rw[e,aa8] at ho
   refine⟨_,h2,⟨n,m,L,fs,D,met,AV.int b::tl⟩,rfl,⟨hG,h1,hb⟩,rfl,?_⟩
   simp only[Aq,jR,Out.run]
   exact ho
 ·obtain rfl:todo=[]:=List.eq_nil_of_length_eq_zero (by omega)
  rw[AG] at ho
  exact ho
def RD(s:S):Bool:=Nat.beq s.st.length 5
noncomputable def Qu(κ:Kp):Env:=(y6 κ).ak 72 3 (o6 RD (aP 3 Qc yC AD) (aP 2 OU yC Aq))
theorem YA(κ:Kp):aB (Qu κ):=(eKi κ).ak (Yq κ) (lS (lRe κ) (Z4 κ))
theorem X9(κ:Kp):aj (Qu κ):=(Yq κ).ak (jg aF aF)
structure O1 where
 n:Nat
 m:Nat
 L:Gr
 fs:List AV
 a:Int
def FH(x:O1):Prop:=WG x.n x.m x.L/\(x.n+1)*x.m<=1000000000/\0<=x.a/\x.a<x.n
theorem yRe(κ:Kp)(N:Nat)(ls:List (List Value))(fs:List AV)(a:Int)(K:AV->List Dn.Obj->Prop):(a9 (Qu κ) 12 72 [.ptr 0 0 [] 0, .int a] (sL N ls fs) K)=(
 letI z2:=Pg.toProgram (Env.P (y6 κ))
 letI z3:=List.length (bQ ls a.toNat)
 letI z1:=List.take z3 (bQ ls a.toNat)
 a7 (decide ((0:Int)<=a)&&decide (a<(↑N:Int))) ((Nat.beq z3 0=true->af z2 72 3=af z2 72 3/\∃(e1:Lv),sp 48 [(0,AV.ptr 0 0 [] 0),(5,AV.mp 3),
 (6,AV.ar 4 0 0)] [Obj.box 122 (AV.agg [AV.ar 1 0 N,AV.ar 2 0 fs.length]),Obj.rows 38 3 ls none,Obj.row 89 fs,Dn.Obj.map 3 4 [],Obj.row 3 []]=sp 48 [(0,
 AV.ptr 0 0 [] 0),(5,AV.mp 3),(6,AV.ar 4 0 e1.todo.length)] [Obj.box 122 (AV.agg [AV.ar 1 0 e1.n,AV.ar 2 0 e1.fs.length]),Obj.rows 38 3 (dt e1.L) none,
 Obj.row 89 e1.fs,Dn.Obj.map 3 4 (ic e1.met),Obj.row 3 (iA e1.todo++e1.tl)]/\(WG e1.n e1.m e1.L/\Sd e1.n e1.m e1.todo e1.met/\(e1.n+1)*e1.m<=
 1000000000)/\K (AV.js 3 4 (List.map (fun(e0:Value×AV)=>e0.1) (ic (jR e1))) (List.map (fun(e0:Value×AV)=>e0.2) (ic (jR e1)))) [Obj.box 122 (AV.agg
 [AV.ar 1 0 e1.n,AV.ar 2 0 e1.fs.length]),Obj.rows 38 3 (dt e1.L) none,Obj.row 89 e1.fs])/\a7 (decide ((0+List.length (List.map AV.lit z1)+1)*9<=
 70368744177664)) (af z2 72 3=af z2 72 3/\∃(e1:Lv),sp 48 [(0,AV.ptr 0 0 [] 0),(5,AV.mp 3),(6,AV.ar 4 0 (0+List.length (List.map AV.lit z1)))]
 [Obj.box 122 (AV.agg [AV.ar 1 0 N,AV.ar 2 0 fs.length]),Obj.rows 38 3 ls none,Obj.row 89 fs,Dn.Obj.map 3 4 [],Obj.row 3 ([]++List.map AV.lit z1)]=sp 48
 [(0,AV.ptr 0 0 [] 0),(5,AV.mp 3),(6,AV.ar 4 0 e1.todo.length)] [Obj.box 122 (AV.agg [AV.ar 1 0 e1.n,AV.ar 2 0 e1.fs.length]),Obj.rows 38 3 (dt e1.L)
 none,Obj.row 89 e1.fs,Dn.Obj.map 3 4 (ic e1.met),Obj.row 3 (iA e1.todo++e1.tl)]/\(WG e1.n e1.m e1.L/\Sd e1.n e1.m e1.todo e1.met/\(e1.n+1)*e1.m<=
 1000000000)/\K (AV.js 3 4 (List.map (fun(e0:Value×AV)=>e0.1) (ic (jR e1))) (List.map (fun(e0:Value×AV)=>e0.2) (ic (jR e1)))) [Obj.box 122 (AV.agg
 [AV.ar 1 0 e1.n,AV.ar 2 0 e1.fs.length]),Obj.rows 38 3 (dt e1.L) none,Obj.row 89 e1.fs]))):=by kernel_rfl
def NX(x:O1):List AV×List Dn.Obj:=([.ptr 0 0 [] 0, .int x.a],sL x.n (dt x.L) x.fs)
def CN(x:O1):Out (AV×List Dn.Obj):= .one (QC (iv x.n x.m x.L x.a),sL x.n (dt x.L) x.fs)
theorem cRe(κ:Kp):bq (Qu κ) 12 72 (aM NX FH CN):=by
 refine aZ ?_
 rintro⟨n,m,L,fs,a⟩ K ⟨hG,hb,h0,h1⟩ ho
 simp only at hG hb h0 h1
 refine Eq.mpr (yRe κ n (dt L) fs a K) ?_
 simp only[CN,Out.run,iv] at ho
 have hS:=Sd.start hG h0
 have hle:=hG.le a
 have hmn:m<=(n+1)*m:=Nat.le_mul_of_pos_left m (Nat.succ_pos n)
 rw[Dq,fP,Cn,an,an,aa2,aa1,aa1,aa1]
 refine⟨⟨h0,h1⟩,fun e=>⟨rfl,⟨n,m,L,fs,[],[],[]⟩,rfl,⟨hG,?_,hb⟩,?_⟩,by omega,rfl,⟨n,m,L,fs,L.at a,[],[]⟩,?_,⟨hG,hS,hb⟩,?_⟩
 ·have e:L.at a=[]:=List.eq_nil_of_length_eq_zero (Nat.eq_of_beq_eq_true e)
  have h2:=hS
  rw[e] at h2;exact h2
 ·have e:L.at a=[]:=List.eq_nil_of_length_eq_zero (Nat.eq_of_beq_eq_true e)
  rw[e] at ho
  simp only[sU,s7]
  exact ho
 ·simp only[List.append_nil,Nat.zero_add]
  rfl
 ·simp only[sU,s7]
  exact ho
theorem yRz(κ:Kp)(N:Nat)(ls:List (List Value))(a:Int)(K:AV->List Dn.Obj->Prop):(a9 (Qu κ) 12 72 [.ptr 0 0 [] 0, .int a] (wB N ls) K)=(
 letI z2:=Pg.toProgram (Env.P (y6 κ))
 letI z3:=List.length (bQ ls a.toNat)
 letI z1:=List.take z3 (bQ ls a.toNat)
 a7 (decide ((0:Int)<=a)&&decide (a<(↑N:Int))) ((Nat.beq z3 0=true->af z2 72 3=af z2 72 3/\∃(e1:Lv),sp 48 [(0,AV.ptr 0 0 [] 0),(5,AV.mp 2),
 (6,AV.ar 3 0 0)] [Obj.box 122 (AV.agg [AV.ar 1 0 N,AV.nil]),Obj.rows 38 3 ls none,Dn.Obj.map 3 4 [],Obj.row 3 []]=sp 48 [(0,AV.ptr 0 0 [] 0),(5,AV.mp
 2),(6,AV.ar 3 0 e1.todo.length)] [Obj.box 122 (AV.agg [AV.ar 1 0 e1.n,AV.nil]),Obj.rows 38 3 (dt e1.L) none,Dn.Obj.map 3 4 (ic e1.met),Obj.row 3 (iA
 e1.todo++e1.tl)]/\(WG e1.n e1.m e1.L/\Sd e1.n e1.m e1.todo e1.met/\(e1.n+1)*e1.m<=1000000000)/\K (AV.js 3 4 (List.map (fun(e0:Value×AV)=>e0.1)
 (ic (jR e1))) (List.map (fun(e0:Value×AV)=>e0.2) (ic (jR e1)))) [Obj.box 122 (AV.agg [AV.ar 1 0 e1.n,AV.nil]),Obj.rows 38 3 (dt e1.L) none])/\a7
 (decide ((0+List.length (List.map AV.lit z1)+1)*9<=70368744177664)) (af z2 72 3=af z2 72 3/\∃(e1:Lv),sp 48 [(0,AV.ptr 0 0 [] 0),(5,AV.mp 2),
 (6,AV.ar 3 0 (0+List.length (List.map AV.lit z1)))] [Obj.box 122 (AV.agg [AV.ar 1 0 N,AV.nil]),Obj.rows 38 3 ls none,Dn.Obj.map 3 4 [],Obj.row 3 ([]++
 List.map AV.lit z1)]=sp 48 [(0,AV.ptr 0 0 [] 0),(5,AV.mp 2),(6,AV.ar 3 0 e1.todo.length)] [Obj.box 122 (AV.agg [AV.ar 1 0 e1.n,AV.nil]),Obj.rows 38 3
 (dt e1.L) none,Dn.Obj.map 3 4 (ic e1.met),Obj.row 3 (iA e1.todo++e1.tl)]/\(WG e1.n e1.m e1.L/\Sd e1.n e1.m e1.todo e1.met/\(e1.n+1)*e1.m<=
 1000000000)/\K (AV.js 3 4 (List.map (fun(e0:Value×AV)=>e0.1) (ic (jR e1))) (List.map (fun(e0:Value×AV)=>e0.2) (ic (jR e1)))) [Obj.box 122 (AV.agg
 [AV.ar 1 0 e1.n,AV.nil]),Obj.rows 38 3 (dt e1.L) none]))):=by kernel_rfl
def NS(x:O1):List AV×List Dn.Obj:=([.ptr 0 0 [] 0, .int x.a],wB x.n (dt x.L))
def D9(x:O1):Out (AV×List Dn.Obj):= .one (QC (iv x.n x.m x.L x.a),wB x.n (dt x.L))
theorem cRz(κ:Kp):bq (Qu κ) 12 72 (aM NS FH D9):=by
 refine aZ ?_
 rintro⟨n,m,L,fs,a⟩ K ⟨hG,hb,h0,h1⟩ ho
 simp only at hG hb h0 h1
 refine Eq.mpr (yRz κ n (dt L) a K) ?_
 simp only[D9,Out.run,iv] at ho
 have hS:=Sd.start hG h0
 have hle:=hG.le a
 have hmn:m<=(n+1)*m:=Nat.le_mul_of_pos_left m (Nat.succ_pos n)
 rw[Dq,fP,Cn,an,an,aa2,aa1,aa1,aa1]
 refine⟨⟨h0,h1⟩,fun e=>⟨rfl,⟨n,m,L,fs,[],[],[]⟩,rfl,⟨hG,?_,hb⟩,?_⟩,by omega,rfl,⟨n,m,L,fs,L.at a,[],[]⟩,?_,⟨hG,hS,hb⟩,?_⟩
 ·have e:L.at a=[]:=List.eq_nil_of_length_eq_zero (Nat.eq_of_beq_eq_true e)
  have h2:=hS
  rw[e] at h2;exact h2
 ·have e:L.at a=[]:=List.eq_nil_of_length_eq_zero (Nat.eq_of_beq_eq_true e)
  rw[e] at ho
  simp only[sU,s7]
  exact ho
 ·simp only[List.append_nil,Nat.zero_add]
  rfl
 ·simp only[sU,s7]
  exact ho
def D2(sel:List Dn.Obj->Bool)(a b:dj):dj:=fun args st K=>bif sel st then a args st K else b args st K
theorem rA{sel:List Dn.Obj->Bool}{a b:dj}(ha:a.iT)(hb:b.iT):(D2 sel a b).iT:=fun args st K K' hK h=>by
 unfold D2 at h⊢
 cases hs:sel st<;>simp only[hs] at h⊢
 ·exact hb _ _ _ _ hK h
 ·exact ha _ _ _ _ hK h
theorem zV{E:Env}{N f:Nat}{sel:List Dn.Obj->Bool}{a b:dj}(ha:bq E N f a)(hb:bq E N f b):bq E N f (D2 sel a b):=fun args st K h=>by
 unfold D2 at h
 cases hs:sel st<;>rw[hs] at h
 ·exact hb _ _ _ h
 ·exact ha _ _ _ h
def TM(st:List Dn.Obj):Bool:=Nat.beq st.length 3
noncomputable def Ow(κ:Kp):Env:=(Qu κ).ay 72 (D2 TM (aM NX FH CN) (aM NS FH D9))
theorem Zz(κ:Kp):aB (Ow κ):=(YA κ).ay (X9 κ) (zV (cRe κ) (cRz κ))
theorem WU(κ:Kp):aj (Ow κ):=(X9 κ).ay (rA aJ aJ)
def OV:List Nat:=114::Nl
noncomputable abbrev R4(κ:Kp)(ds rs:List AV):Dn.Obj:=
 .loop (fR (Pr κ).toProgram 37 3 .ready none (fK (bz 63) [(0,gC ds rs),(1, .ptr 0 0 [] 0),(2, .lit (.pointer none)),(3, .ptr 3 0 [] 0),(7, .ptr 0 0 [0] 0),(8, .ad 61 ds),(9, .int ds.length),(10, .ar 1 0 ds.length),(11, .agg [.ar 1 0 ds.length, .nil]),(12, .ptr 2 0 [] 0),(13,gC ds rs),(14, .bI 114 [.ptr 4 0 [] 0])]))
noncomputable abbrev oY(κ:Kp)(ds rs:List AV):List Dn.Obj:=[.box 25 (gC ds rs),JG (List.replicate ds.length []), .box 122 (.agg [.ar 1 0 ds.length, .nil]), .box 87 (.ptr 2 0 [] 0), .box 25 (gC ds rs),R4 κ ds rs]
noncomputable abbrev A0(κ:Kp)(ds rs:List AV)(ls:List (List Value)):List Dn.Obj:=[.box 25 (gC ds rs),JG ls, .box 122 (.agg [.ar 1 0 ds.length, .nil]), .box 87 (.ptr 2 0 [] 0), .dead,R4 κ ds rs]
theorem sGf(κ:Kp)(ds rs:List AV)(Q:List Dn.Obj->Prop):(tidy (Pr κ).toProgram 6 (dO (oY κ ds rs) (ct (oY κ ds rs) [.ptr 4 0 [] 0])) Q)=(
 Q [Obj.box 25 (AV.agg [AV.ad 61 ds,AV.ad 66 rs]),Obj.rows 38 3 (List.replicate ds.length []) none,Obj.box 122 (AV.agg [AV.ar 1 0 ds.length,AV.nil]),Obj.box
 87 (AV.ptr 2 0 [] 0),Obj.dead,Dn.Obj.loop (fR Tryz.prog 37 3 LoopState.ready none (fK (bz 63) [(0,AV.agg [AV.ad 61 ds,AV.ad 66 rs]),(1,AV.ptr 0 0 [] 0),
 (2,AV.lit (Value.pointer none)),(3,AV.ptr 3 0 [] 0),(7,AV.ptr 0 0 [0] 0),(8,AV.ad 61 ds),(9,AV.int (↑(ds.length):Int)),(10,AV.ar 1 0 ds.length),
 (11,AV.agg [AV.ar 1 0 ds.length,AV.nil]),(12,AV.ptr 2 0 [] 0),(13,AV.agg [AV.ad 61 ds,AV.ad 66 rs]),(14,AV.bI 114 [AV.ptr 4 0 [] 0])]))]):=by kernel_rfl
theorem rGf(κ:Kp)(ds rs:List AV)(ls:List (List Value))(a b:Int)(Q:List Dn.Obj->Prop)(K2:List Dn.Obj->Prop):(gG (vc (Ow κ) 12) 5 [.int a, .int b] (A0 κ ds rs ls) (fun r st''=>match r with| .lit (.bool true)=>tidy (Pr κ).toProgram 6 st'' Q| .lit (.bool false)=>K2 st''|_=>False))=(
 letI z2:=fR Tryz.prog 37 3 LoopState.ready none (fK (bz 63) [(0,AV.agg [AV.ad 61 ds,AV.ad 66 rs]),(1,AV.ptr 0 0 [] 0),(2,AV.lit (Value.pointer none)),
  (3,AV.ptr 3 0 [] 0),(7,AV.ptr 0 0 [0] 0),(8,AV.ad 61 ds),(9,AV.int (↑(ds.length):Int)),(10,AV.ar 1 0 ds.length),(11,AV.agg [AV.ar 1 0 ds.length,
  AV.nil]),(12,AV.ptr 2 0 [] 0),(13,AV.agg [AV.ad 61 ds,AV.ad 66 rs]),(14,AV.bI 114 [AV.ptr 4 0 [] 0])])
 letI z4:=decide ((0:Int)<=a)&&decide (a<(↑(ds.length):Int))
 letI z5:=bQ ls a.toNat
 letI z3:=decide (List.length z5=List.length z5)&&decide ((List.length z5+1+1)*9<=70368744177664)
 letI z6:=Dn.jw ls a.toNat (bQ ls a.toNat++[Value.int IntKind.i64 b])
 letI z7:=List.map AV.lit (List.take (List.length z5) z5)
 letI z8:=AV.agg [AV.ar 1 0 ds.length,AV.nil]
 letI z9:=AV.agg [AV.ad 61 ds,AV.ad 66 rs]
 letI z1:=a7 z4 (a7 (decide (a.toNat=a.toNat)&&decide (a.toNat=a.toNat)&&decide (List.length z5+1=List.length (bQ z6 a.toNat))) (Q [Obj.box 25 z9,
  Obj.rows 38 3 z6 none,Obj.box 122 z8,Obj.box 87 (AV.ptr 2 0 [] 0),Obj.dead,Dn.Obj.loop z2]))
 a7 z4 (a7 (decide (List.length z7<=9223372036854775807)) (aD (!QL b z7) (a7 z4 (a7 z3 z1/\a7 z3 z1)) (Q [Obj.box 25 z9,Obj.rows 38 3 ls none,Obj.box 122 z8,
 Obj.box 87 (AV.ptr 2 0 [] 0),Obj.dead,Dn.Obj.loop z2])))):=by kernel_rfl
theorem kGf(κ:Kp)(ds rs xs:List AV):(AV.cu 0::fM (ju (ct (oY κ ds rs) [.ptr 4 0 [] 0])) [.ptr 4 0 [] 0],Obj.ext (some xs)::fZ (ju (ct (oY κ ds rs) [.ptr 4 0 [] 0])) (gE (oY κ ds rs) (ct (oY κ ds rs) [.ptr 4 0 [] 0])))=([.cu 0, .ptr 1 0 [] 0],[.ext (some xs), .box 25 (gC ds rs)]):=by kernel_rfl
theorem oGf(κ:Kp)(ds rs:List AV):mV (oY κ ds rs) [.ptr 4 0 [] 0]=true:=by kernel_rfl
theorem A5: ∀(L:Gr) (k:Nat) (x:List Int),Dn.jw (dt L) k (x.map fV)=dt (L.set k x)
 |[],k,x=>by cases k<;>rfl
 |_::_,0,x=>rfl
 |a::L,k+1,x=>by
  have ih:=A5 L k x
  simp only[dt,ac1,Dn.jw,List.set_cons_succ] at ih⊢
  rw[ih]
theorem L5(n:Nat):dt (List.replicate n [])=List.replicate n []:=by simp[dt]
structure sK(ds rs:List AV):Prop where
 hd:ds.length<=60
 hr:rs.length<=200
 bs: ∀r,r∈rs->(ai (ae r 1)).length<=20
 ed:So ds rs
theorem Fu(ds:List AV)(a:Int): ∀bl:List AV,(Du ds a bl).length<=bl.length
 |[]=>Nat.le_refl _
 |l::bl=>by
  have ih:=Fu ds a bl
  rw[Du]
  cases dN (toInt (ae l 0)) with
  |true=>rw[aa8];simp only[List.length_cons];omega
  |false=>rw[aa6];simp only[List.length_cons];omega
theorem yw(ds:List AV): ∀rs:List AV,(∀r,r∈rs->(ai (ae r 1)).length<=20)->(wm ds rs).length<=rs.length*20
 |[],_=>Nat.le_refl _
 |r::rs,h=>by
  have ih:=yw ds rs fun x hx=>h x (by simp[hx])
  have h1:=Fu ds (bt (toStr (ae (ae r 0) 0)) ds) (ai (ae r 1))
  have h2:=h r (by simp)
  simp only[wm,List.flatMap_cons,ab9,List.length_cons,Xm] at ih h1⊢
  omega
noncomputable def PR(κ:Kp):dv:=fun caps st K=>∃x:qB,(caps,st)=([AV.ptr 4 0 [] 0],oY κ x.1 x.2)/\sK x.1 x.2/\K (A0 κ x.1 x.2 (dt (rn x.1.length (wm x.1 x.2))))
theorem He(κ:Kp):(PR κ).iT:=by
 rintro caps st K K' hK ⟨a,h1,h2,h3⟩
 exact⟨a,h1,h2,hK _ h3⟩
theorem P3(κ:Kp)(args:List AV)(st:List Dn.Obj)(K:AV->List Dn.Obj->Prop)(h:aM Qt Dw Jn args st K):(Ow κ).call 114 args st K:=h
theorem gfr(κ:Kp):kP (Ow κ) 12 114 (PR κ):=by
 rintro caps st K ⟨⟨ds,rs⟩,h1,hf,h5⟩
 obtain⟨rfl,rfl⟩:=Prod.mk.inj h1
 simp only at hf h5
 have hd:=hf.hd
 have hr:=hf.hr
 have hl:=yw ds rs hf.bs
 refine⟨Ab (wm ds rs),fun items st'=>∃E1 E2,items=Ab E2/\st'=A0 κ ds rs (dt (rn ds.length E1))/\E1++E2=wm ds rs,⟨oGf κ ds rs,?_,?_,?_,?_⟩⟩
 ·refine P3 κ _ _ _ ⟨(ds,rs),?_,⟨by simp only[aR];omega,by simp only[aR];omega,fun r hr=>?_⟩,fun st' h=>h⟩
  ·rw[kGf];rfl
  ·have:=hf.bs r hr;simp only[aR];omega
 ·rw[show(Ow κ).P=Pr κ from rfl,show(oY κ ds rs).length=6 from rfl,sGf]
  refine⟨[],wm ds rs,rfl,?_,rfl⟩
  rw[rn,List.foldl_nil,L5]
 ·rintro us rest st' ⟨E1,E2,e1,rfl,e3⟩
  cases E2 with
  |nil=>cases e1
  | cons e E2=>
   obtain⟨a,b⟩:=e
   obtain⟨hu,rfl⟩:=List.cons.inj e1
   obtain rfl:=AV.ba.inj hu
   rw[show(Ow κ).P=Pr κ from rfl,show(oY κ ds rs).length=6 from rfl]
   refine Eq.mpr (rGf κ ds rs _ a b _ _) ?_
   have hab:=hf.ed (a,b) (by rw[←e3];simp)
   simp only at hab
   have hg:rn ds.length (E1++[(a,b)])=nK (rn ds.length E1) (a,b):=by simp[rn,List.foldl_append]
   have hlen:(rn ds.length E1).length=ds.length:=by unfold rn;rw[rM];simp
   have hle:((rn ds.length E1).at a).length<=E1.length:=by
    have:=KN E1 (List.replicate ds.length []) a
    rw[DU] at this
    simpa[rn] using this
   have hE:E1.length<=(wm ds rs).length:=by rw[←e3];simp
   have next: ∀st',st'=A0 κ ds rs (dt (nK (rn ds.length E1) (a,b)))->∃F1 F2,Ab E2=Ab F2/\st'=A0 κ ds rs (dt (rn ds.length F1))/\F1++F2=wm ds rs:=fun st' h=>⟨E1++[(a,b)],E2,rfl,by rw[hg,h],by rw[←e3];simp⟩
   rw[Dq,CQ,lY,show[Value.int IntKind.i64 b]=[b].map fV from rfl,←List.map_append,A5]
   have e4:(bQ (dt ((rn ds.length E1).set a.toNat ((rn ds.length E1).at a++[b]))) a.toNat).length=((rn ds.length E1).at a).length+1:=by
    rw[lY,Cw _ _ _ _ (by omega),if_pos rfl];simp
   rw[e4]
   simp only[an,ah,aa2,aa1,List.length_map,fP]
   refine⟨⟨by omega,by omega⟩,by omega,fun e=>⟨⟨by omega,by omega⟩,?_⟩,fun e=>next _ ?_⟩
   ·have e:((rn ds.length E1).at a).contains b=false:=by simpa using e
    have e5:nK (rn ds.length E1) (a,b)=(rn ds.length E1).set a.toNat ((rn ds.length E1).at a++[b]):=by
     unfold nK;rw[e,aa6]
    rw[e5] at next
    exact⟨⟨⟨trivial,by omega⟩,⟨by omega,by omega⟩,⟨⟨trivial,trivial⟩,trivial⟩,next _ rfl⟩,⟨trivial,by omega⟩,⟨by omega,by omega⟩,⟨⟨trivial,trivial⟩,trivial⟩,next _ rfl⟩
   ·have e:((rn ds.length E1).at a).contains b=true:=by simpa using e
    unfold nK;rw[e,aa8]
 ·rintro st' ⟨E1,E2,e1,rfl,e3⟩
  obtain rfl:E2=[]:=by cases E2 with|nil=>rfl|cons _ _=>cases e1
  rw[List.append_nil] at e3
  rw[e3];exact h5
noncomputable def J4(κ:Kp):Env:=((Ow κ).addRange 37 3 114 (PR κ)).dn (fun f=>jM f OV)
theorem eOr(κ:Kp):aB (J4 κ):=((Zz κ).addRange (WU κ) (gfr κ)).dn _
theorem W9(κ:Kp):aj (J4 κ):=((WU κ).addRange (He κ)).dn _
theorem Z0(κ:Kp)(N i:Nat)(ls:List (List Value))(fs:List AV)(I:Nat->S->Prop)(n:Nat)(K:Exit->S->Prop):(vc (J4 κ) 12 37 none 0 (af (Pr κ).toProgram 37 8) (sp 63 [(3, .ptr 0 0 [] 0),(45, .int N),(46, .int i)] [.box 87 (.ptr 1 0 [] 0), .box 122 (.agg [.ar 2 0 N, .ar 3 0 fs.length]),JG ls, .row 89 fs]) (bH (J4 κ) 37 8 0 I n K))=(
 letI z1:=AV.ptr 1 0 [] 0
 letI z2:=AV.agg [AV.ar 2 0 N,AV.ar 3 0 fs.length]
 aD (decide ((↑i:Int)<(↑N:Int))) (∃(e2:O1),([AV.ptr 0 0 [] 0,AV.int (↑i:Int)],[Obj.box 122 (AV.agg [AV.ar 1 0 N,AV.ar 2 0 fs.length]),Obj.rows 38
 3 ls none,Obj.row 89 fs])=([AV.ptr 0 0 [] 0,AV.int e2.a],[Obj.box 122 (AV.agg [AV.ar 1 0 e2.n,AV.ar 2 0 e2.fs.length]),Obj.rows 38 3 (dt e2.L) none,
 Obj.row 89 e2.fs])/\(WG e2.n e2.m e2.L/\(e2.n+1)*e2.m<=1000000000/\(0:Int)<=e2.a/\e2.a<(↑(e2.n):Int))/\(Obj.box 87 z1=Obj.box 87 z1/\Obj.box
 122 (AV.agg [AV.ar 2 0 e2.n,AV.ar 3 0 e2.fs.length])=Obj.box 122 z2/\Obj.rows 38 3 (dt e2.L) none=Obj.rows 38 3 ls none/\True)/\a7 (decide ((fs.length+
 1+1)*9<=70368744177664)) (∃(e1:Nat),e1<n/\I e1 (sp 63 [(3,AV.ptr 0 0 [] 0),(45,AV.int (↑N:Int)),(46,AV.int (IntKind.wrap IntKind.i64 ((↑i:
 Int)+(1:Int))))] [Obj.box 87 z1,Obj.box 122 (AV.agg [AV.ar 2 0 e2.n,AV.ar 3 0 (fs.length+1)]),Obj.rows 38 3 (dt e2.L) none,Obj.row 89 (List.take
 fs.length e2.fs++[AV.js 3 4 (List.map fV (iv e2.n e2.m e2.L e2.a)) (List.map (fun(e0:Int)=>AV.bool true) (iv e2.n e2.m e2.L e2.a))])]))) (K (Exit.exit 2)
 (sp 63 [(3,AV.ptr 0 0 [] 0)] [Obj.box 87 z1,Obj.box 122 z2,Obj.rows 38 3 ls none,Obj.row 89 fs]))):=by kernel_rfl
theorem xOb(κ:Kp)(N:Nat)(ls:List (List Value))(I:Nat->S->Prop)(n:Nat)(K:Exit->S->Prop):(vc (J4 κ) 12 37 none 0 (af (Pr κ).toProgram 37 8) (sp 63 [(3, .ptr 0 0 [] 0),(45, .int N),(46, .int 0)] [.box 87 (.ptr 1 0 [] 0), .box 122 (.agg [.ar 2 0 N, .nil]),JG ls]) (bH (J4 κ) 37 8 0 I n K))=(
 letI z1:=AV.ptr 1 0 [] 0
 letI z2:=AV.agg [AV.ar 2 0 N,AV.nil]
 aD (decide ((0:Int)<(↑N:Int))) (∃(e2:O1),([AV.ptr 0 0 [] 0,AV.int 0],[Obj.box 122 (AV.agg [AV.ar 1 0 N,AV.nil]),Obj.rows 38 3 ls none])=([AV.ptr
 0 0 [] 0,AV.int e2.a],[Obj.box 122 (AV.agg [AV.ar 1 0 e2.n,AV.nil]),Obj.rows 38 3 (dt e2.L) none])/\(WG e2.n e2.m e2.L/\(e2.n+1)*e2.m<=1000000000/\
 (0:Int)<=e2.a/\e2.a<(↑(e2.n):Int))/\(Obj.box 87 z1=Obj.box 87 z1/\Obj.box 122 (AV.agg [AV.ar 2 0 e2.n,AV.nil])=Obj.box 122 z2/\Obj.rows 38 3 (dt
 e2.L) none=Obj.rows 38 3 ls none/\True)/\∃(e1:Nat),e1<n/\I e1 (sp 63 [(3,AV.ptr 0 0 [] 0),(45,AV.int (↑N:Int)),(46,AV.int 1)] [Obj.box 87 z1,
 Obj.box 122 (AV.agg [AV.ar 2 0 e2.n,AV.ar 3 0 1]),Obj.rows 38 3 (dt e2.L) none,Obj.row 89 [AV.js 3 4 (List.map fV (iv e2.n e2.m e2.L e2.a)) (List.map (fun
 (e0:Int)=>AV.bool true) (iv e2.n e2.m e2.L e2.a))]])) (K (Exit.exit 2) (sp 63 [(3,AV.ptr 0 0 [] 0)] [Obj.box 87 z1,Obj.box 122 z2,Obj.rows 38 3 ls
 none]))):=by kernel_rfl
def bn(n m:Nat)(L:Gr)(k:Nat):List AV:=(List.range k).map fun(a:Nat)=>QC (iv n m L a)
theorem kn(n m:Nat)(L:Gr)(k:Nat):(bn n m L k).length=k:=by simp[bn]
theorem G3(n m:Nat)(L:Gr)(k:Nat):bn n m L (k+1)=bn n m L k++[QC (iv n m L k)]:=by
 simp[bn,List.range_succ]
structure Uf where
 n:Nat
 m:Nat
 L:Gr
 i:Nat
abbrev O2(n m:Nat)(L:Gr):Nat->List Dn.Obj
 |0=>[.box 87 (.ptr 1 0 [] 0), .box 122 (.agg [.ar 2 0 n, .nil]),JG (dt L)]
 |k+1=>[.box 87 (.ptr 1 0 [] 0), .box 122 (.agg [.ar 2 0 n, .ar 3 0 (bn n m L (k+1)).length]),JG (dt L), .row 89 (bn n m L (k+1))]
abbrev NN(x:Uf):S:=sp 63 [(3, .ptr 0 0 [] 0),(45, .int x.n),(46, .int x.i)] (O2 x.n x.m x.L x.i)
def Iw(x:Uf):Prop:=WG x.n x.m x.L/\(x.n+1)*x.m<=1000000000/\x.i<=x.n/\x.n<=60
def Of(x:Uf):Out (Exit×S):= .aD (Nat.beq x.n 0)
 (.one (.exit 2,sp 63 [(3, .ptr 0 0 [] 0)] [.box 87 (.ptr 1 0 [] 0), .box 122 (.agg [.ar 2 0 x.n, .nil]),JG (dt x.L)]))
 (.one (.exit 2,sp 63 [(3, .ptr 0 0 [] 0)] [.box 87 (.ptr 1 0 [] 0), .box 122 (.agg [.ar 2 0 x.n, .ar 3 0 (bn x.n x.m x.L x.n).length]),JG (dt x.L), .row 89 (bn x.n x.m x.L x.n)]))
theorem lOa(κ:Kp):bh (J4 κ) 12 37 8 (aP 0 NN Iw Of):=by
 refine aL (fun x=>x.n - x.i) ?_
 rintro⟨n,m,L,i⟩ K ⟨hG,hb,hi,hn⟩ ho
 simp only at hG hb hi hn
 rw[show(J4 κ).P=Pr κ from rfl]
 cases i with
 | zero=>
  refine Eq.mpr (xOb κ n (dt L) _ _ K) ?_
  rw[ah,aa1,aa3]
  refine⟨fun h=>⟨⟨n,m,L,[],0⟩,rfl,⟨hG,hb,by simp only;omega,h⟩,⟨rfl,rfl,rfl,trivial⟩,_,?_,⟨n,m,L,1⟩,rfl,⟨hG,hb,?_,hn⟩,rfl,ho⟩,fun h=>?_⟩
  ·simp only;omega
  ·simp only;omega
  ·obtain rfl:n=0:=by omega
   exact ho
 | succ k=>
  refine Eq.mpr (Z0 κ n (k+1) (dt L) (bn n m L (k+1)) _ _ K) ?_
  rw[ah,aa1,aa3]
  refine⟨fun h=>⟨⟨n,m,L,bn n m L (k+1),((k+1:Nat):Int)⟩,rfl,⟨hG,hb,by simp only;omega,h⟩,⟨rfl,rfl,rfl,trivial⟩,?_⟩,fun h=>?_⟩
  ·have e:sp 63 [(3, .ptr 0 0 [] 0),(45, .int n),(46, .int (((k+1:Nat):Int)+1))] [.box 87 (.ptr 1 0 [] 0), .box 122 (.agg [.ar 2 0 n, .ar 3 0 ((bn n m L (k+1)).length+1)]),JG (dt L), .row 89 (List.take (bn n m L (k+1)).length (bn n m L (k+1))++[QC (iv n m L ((k+1:Nat):Int))])]=NN ⟨n,m,L,k+2⟩:=by
    rw[List.take_length,←G3]
    simp only[NN,O2,kn]
    rfl
   rw[an,aa1,aW (n:=((k+1:Nat):Int)+1) (by omega) (by omega)]
   refine⟨by rw[kn];omega,_,?_,⟨n,m,L,k+2⟩,e,⟨hG,hb,?_,hn⟩,rfl,ho⟩
   ·simp only;omega
   ·simp only;omega
  ·obtain rfl:n=k+1:=by omega
   exact ho
noncomputable def QY(κ:Kp):Env:=(J4 κ).ak 37 8 (aP 0 NN Iw Of)
theorem eOa(κ:Kp):aB (QY κ):=(eOr κ).ak (W9 κ) (lOa κ)
theorem Yl(κ:Kp):aj (QY κ):=(W9 κ).ak aF
theorem yOg(κ:Kp)(ds rs:List AV)(K:AV->List Dn.Obj->Prop):(a9 (QY κ) 12 37 [gC ds rs] [] K)=(
 letI z1:=Int.toNat (↑(ds.length):Int)
 letI z2:=AV.agg [AV.ad 61 ds,AV.ad 66 rs]
 letI z3:=Pg.toProgram (Env.P (J4 κ))
 a7 (true&&decide ((↑(ds.length):Int)<=(↑(ds.length):Int))&&decide ((Int.toNat (↑(ds.length):Int)+1)*25<=70368744177664)&&true) (∃(e1:qB),
 ([AV.ptr 4 0 [] 0],[Obj.box 25 z2,Obj.rows 38 3 (List.replicate z1 []) none,Obj.box 122 (AV.agg [AV.ar 1 0 z1,AV.nil]),Obj.box 87 (AV.ptr 2 0 [] 0),
 Obj.box 25 z2,Dn.Obj.loop (fR Tryz.prog 37 3 LoopState.ready none (fK (bz 63) [(0,AV.agg [AV.ad 61 ds,AV.ad 66 rs]),(1,AV.ptr 0 0 [] 0),(2,AV.lit
 (Value.pointer none)),(3,AV.ptr 3 0 [] 0),(7,AV.ptr 0 0 [0] 0),(8,AV.ad 61 ds),(9,AV.int (↑(ds.length):Int)),(10,AV.ar 1 0 z1),(11,AV.agg [AV.ar 1
 0 z1,AV.nil]),(12,AV.ptr 2 0 [] 0),(13,AV.agg [AV.ad 61 ds,AV.ad 66 rs]),(14,AV.bI 114 [AV.ptr 4 0 [] 0])]))])=([AV.ptr 4 0 [] 0],[Obj.box 25 (AV.agg
 [AV.ad 61 e1.1,AV.ad 66 e1.2]),Obj.rows 38 3 (List.replicate e1.1.length []) none,Obj.box 122 (AV.agg [AV.ar 1 0 e1.1.length,AV.nil]),Obj.box 87 (AV.ptr 2
 0 [] 0),Obj.box 25 (AV.agg [AV.ad 61 e1.1,AV.ad 66 e1.2]),Dn.Obj.loop (fR Tryz.prog 37 3 LoopState.ready none (fK (bz 63) [(0,AV.agg [AV.ad 61 e1.1,AV.ad
 66 e1.2]),(1,AV.ptr 0 0 [] 0),(2,AV.lit (Value.pointer none)),(3,AV.ptr 3 0 [] 0),(7,AV.ptr 0 0 [0] 0),(8,AV.ad 61 e1.1),(9,AV.int (↑(e1.1.length):
 Int)),(10,AV.ar 1 0 e1.1.length),(11,AV.agg [AV.ar 1 0 e1.1.length,AV.nil]),(12,AV.ptr 2 0 [] 0),(13,AV.agg [AV.ad 61 e1.1,AV.ad 66 e1.2]),(14,AV.bI
 114 [AV.ptr 4 0 [] 0])]))])/\sK e1.1 e1.2/\af z3 37 8=af z3 37 8/\∃(e0:Uf),sp 63 [(3,AV.ptr 0 0 [] 0),(45,AV.int (↑(e1.1.length):Int)),(46,
 AV.int 0)] [Obj.box 87 (AV.ptr 1 0 [] 0),Obj.box 122 (AV.agg [AV.ar 2 0 e1.1.length,AV.nil]),Obj.rows 38 3 (dt (rn e1.1.length (wm e1.1 e1.2))) none]=sp 63
 [(3,AV.ptr 0 0 [] 0),(45,AV.int (↑(e0.n):Int)),(46,AV.int (↑(e0.i):Int))] (O2 e0.n e0.m e0.L e0.i)/\(WG e0.n e0.m e0.L/\(e0.n+1)*e0.m<=
 1000000000/\e0.i<=e0.n/\e0.n<=60)/\aD (Nat.beq e0.n 0) (K (AV.ptr 0 0 [] 0) [Obj.box 122 (AV.agg [AV.ar 1 0 e0.n,AV.nil]),Obj.rows 38 3 (dt e0.L) none])
 (K (AV.ptr 0 0 [] 0) [Obj.box 122 (AV.agg [AV.ar 1 0 e0.n,AV.ar 2 0 (List.length (bn e0.n e0.m e0.L e0.n))]),Obj.rows 38 3 (dt e0.L) none,Obj.row 89 (bn e0.n
 e0.m e0.L e0.n)]))):=by kernel_rfl
def pr(ds rs:List AV):Gr:=rn ds.length (wm ds rs)
def jE(ds rs:List AV):Nat:=(wm ds rs).length
def MY(x:qB):List AV×List Dn.Obj:=([gC x.1 x.2],[])
def Ir(x:qB):Out (AV×List Dn.Obj):= .aD (Nat.beq x.1.length 0)
 (.one (.ptr 0 0 [] 0,wB x.1.length (dt (pr x.1 x.2))))
 (.one (.ptr 0 0 [] 0,sL x.1.length (dt (pr x.1 x.2)) (bn x.1.length (jE x.1 x.2) (pr x.1 x.2) x.1.length)))
theorem sK.le{ds rs:List AV}(h:sK ds rs):(ds.length+1)*jE ds rs<=1000000000:=by
 have h1:=h.hd
 have h2:=h.hr
 have h3:=yw ds rs h.bs
 refine Nat.le_trans (Nat.mul_le_mul (show ds.length+1<=61 by omega) (show jE ds rs<=4000 by unfold jE;omega)) (by omega)
theorem sK.wg{ds rs:List AV}(h:sK ds rs):WG ds.length (jE ds rs) (pr ds rs):=Qv h.ed
theorem cOg(κ:Kp):bq (QY κ) 12 37 (aM MY (fun x=>sK x.1 x.2) Ir):=by
 refine aZ ?_
 rintro⟨ds,rs⟩ K hf ho
 simp only at hf
 refine Eq.mpr (yOg κ ds rs K) ?_
 have hd:=hf.hd
 simp only[Ir,Out.run] at ho
 simp only[an,aa2,aa1,Int.toNat_natCast]
 exact⟨⟨⟨⟨trivial,by omega⟩,by omega⟩,trivial⟩,(ds,rs),rfl,hf,trivial,⟨ds.length,jE ds rs,pr ds rs,0⟩,rfl,⟨hf.wg,hf.le,Nat.zero_le _,hd⟩,ho⟩
noncomputable def QV(κ:Kp):Env:=(QY κ).ay 37 (aM MY (fun x=>sK x.1 x.2) Ir)
theorem eOf(κ:Kp):aB (QV κ):=(eOa κ).ay (Yl κ) (cOg κ)
theorem XM(κ:Kp):aj (QV κ):=(Yl κ).ay aJ
end Go.Proofs.YthaiinlfnommnaaGreatDoor
