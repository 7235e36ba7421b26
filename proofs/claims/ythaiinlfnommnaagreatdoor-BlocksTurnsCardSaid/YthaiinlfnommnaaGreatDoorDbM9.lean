import Derived.Test.YthaiinlfnommnaaGreatDoorDbM1
import Derived.Test.YthaiinlfnommnaaGreatDoorDbM7
namespace Go.Rl
open Go Go.Dn
abbrev Gr:=List (List Int)
def Gr.at(L:Gr)(a:Int):List Int:=L.getD a.toNat []
def nG(L:Gr)(e:Int×Int):Gr:=bif (L.at e.1).contains e.2 then L else L.set e.1.toNat (L.at e.1++[e.2])
def rn(n:Nat)(E:List (Int×Int)):Gr:=E.foldl nG (List.replicate n [])
theorem Cj(L:Gr)(e:Int×Int):(nG L e).length=L.length:=by
 unfold nG;cases(L.at e.1).contains e.2<;>simp
theorem rE: ∀(E:List (Int×Int)) (L:Gr),(E.foldl nG L).length=L.length
 |[],_=>rfl
 |e::E,L=>by rw[List.foldl_cons,rE E,Cj]
theorem Dg(L:Gr)(a b:Int)(x:List Int)(ha:a.toNat<L.length):Gr.at (L.set a.toNat x) b=if a.toNat=b.toNat then x else L.at b:=by
 unfold Gr.at
 rw[List.getD_eq_getElem?_getD,List.getElem?_set]
 by_cases h:a.toNat=b.toNat
 ·rw[if_pos h,if_pos h,if_pos ha];rfl
 ·rw[if_neg h,if_neg h];rfl
theorem Jy(L:Gr)(e:Int×Int)(he:0<=e.1/\e.1.toNat<L.length)(a b:Int)(h0:0<=a):b∈(nG L e).at a↔b∈L.at a\/(a,b)=e:=by
 obtain⟨c,d⟩:=e
 simp only at he
 unfold nG
 cases h:(L.at c).contains d with
 |true=>
  rw[aa8]
  refine⟨.inl,?_⟩
  rintro(h1|h1)
  ·exact h1
  ·cases h1;simpa using h
 | false=>
  rw[aa6,Dg L c a _ he.2]
  by_cases hc:c.toNat=a.toNat
  ·have:c=a:=by omega
   subst this
   simp
  ·rw[if_neg hc]
   refine⟨.inl,?_⟩
   rintro(h1|h1)
   ·exact h1
   ·cases h1;exact absurd rfl hc
theorem xX: ∀(E:List (Int×Int)) (L:Gr),(∀e,e∈E->0<=e.1/\e.1.toNat<L.length)->∀a b:Int,0<=a->(b∈Gr.at (E.foldl nG L) a↔b∈L.at a\/(a,b)∈E)
 |[],L,_,a,b,_=>by simp
 |e::E,L,h,a,b,h0=>by
  rw[List.foldl_cons,xX E (nG L e) (fun x hx=>by rw[Cj];exact h x (by simp[hx])) a b h0,Jy L e (h e (by simp)) a b h0,ac3,or_assoc]
theorem Lm: ∀(E:List (Int×Int)) (L:Gr) (a:Int),(Gr.at (E.foldl nG L) a).length<=(L.at a).length+E.length
 |[],L,a=>by simp
 | e ::E,L,a=>by
  rw[List.foldl_cons]
  refine Nat.le_trans (Lm E (nG L e) a) ?_
  have:((nG L e).at a).length<=(L.at a).length+1:=by
   unfold nG
   cases(L.at e.1).contains e.2 with
   |true=>rw[aa8];omega
   | false=>
    rw[aa6]
    by_cases hl:e.1.toNat<L.length
    ·rw[Dg L e.1 a _ hl]
     by_cases hc:e.1.toNat=a.toNat
     ·rw[if_pos hc,ab9,List.length_singleton]
      have:L.at e.1=L.at a:=by unfold Gr.at;rw[hc]
      rw[this];omega
     ·rw[if_neg hc];omega
    ·rw[List.set_eq_of_length_le (by omega)];omega
  simp only[List.length_cons];omega
theorem DJ(n:Nat)(a:Int):Gr.at (List.replicate n []) a=[]:=by
 unfold Gr.at
 rw[List.getD_eq_getElem?_getD]
 by_cases h:a.toNat<n<;>simp[h]
structure WG(n m:Nat)(L:Gr):Prop where
 len:L.length=n
 le: ∀a,(L.at a).length<=m
 kZ: ∀a,0<=a->∀b,b∈L.at a->0<=b/\b<n
theorem NV{n:Nat}{E:List (Int×Int)}(h: ∀e,e∈E->(0<=e.1/\e.1<n)/\0<=e.2/\e.2<n){a b:Int}(h0:0<=a):b∈(rn n E).at a↔(a,b)∈E:=by
 unfold rn
 rw[xX E _ (fun e he=>⟨(h e he).1.1,by have:=(h e he).1;simp;omega⟩) a b h0,DJ]
 simp
theorem Qz{n:Nat}{E:List (Int×Int)}(h: ∀e,e∈E->(0<=e.1/\e.1<n)/\0<=e.2/\e.2<n):WG n E.length (rn n E):=by
 refine⟨by unfold rn;rw[rE];simp,fun a=>?_,fun a h0 b hb=>?_⟩
 ·have:=Lm E (List.replicate n []) a
  rw[DJ] at this
  simpa[rn] using this
 ·exact(h _ ((NV h h0).1 hb)).2
inductive wV (L:Gr):Int->Int->Prop
 |refl (a:Int):wV L a a
 |step {a b c:Int} (h:b∈L.at a) (k:wV L b c):wV L a c
def Rc(L:Gr)(a b:Int):Prop:=∃c,c∈L.at a/\wV L c b
theorem wV.trans{L:Gr}{a b c:Int}(h:wV L a b)(k:wV L b c):wV L a c:=by
 induction h with
 |refl=>exact k
 |step h _ ih=>exact .step h (ih k)
theorem Rc.trans{L:Gr}{a b c:Int}(h:Rc L a b)(k:Rc L b c):Rc L a c:=by
 obtain⟨d,h1,h2⟩:=h
 obtain⟨e,k1,k2⟩:=k
 exact⟨d,h1,h2.trans (.step k1 k2)⟩
theorem Rc.step{L:Gr}{a b c:Int}(h:Rc L a b)(k:c∈L.at b):Rc L a c:=h.trans ⟨c,k, .refl c⟩
theorem Rc.mono{L M:Gr}(h: ∀a b,0<=a->b∈L.at a->b∈M.at a/\0<=b){a b:Int}(h0:0<=a)(k:Rc L a b):Rc M a b:=by
 obtain⟨c,h1,h2⟩:=k
 have st: ∀{x y:Int},wV L x y->0<=x->wV M x y:=fun{x y} k=>by
  induction k with
  |refl=>intro _;exact .refl _
  |step h' _ ih=>intro hx;exact .step (h _ _ hx h').1 (ih (h _ _ hx h').2)
 exact⟨c,(h a c h0 h1).1,st h2 (h a c h0 h1).2⟩
theorem Rc.kZ{n m:Nat}{L:Gr}(hG:WG n m L){a b:Int}(h0:0<=a)(h:Rc L a b):0<=b/\b<n:=by
 obtain⟨c,h1,h2⟩:=h
 have:=hG.kZ a h0 c h1
 clear h1
 induction h2 with
 |refl=>exact this
 |step h _ ih=>exact ih (hG.kZ _ this.1 _ h)
def eL(l:List Int):Int:=l.getLastD 0
def HB(L:Gr):Nat->List Int->List Int->List Int
 |0,_,met=>met
 |_+1,[],met=>met
 |f+1,t::todo,met=>bif met.contains (eL (t::todo)) then HB L f (t::todo).dropLast met else HB L f ((t::todo).dropLast++L.at (eL (t::todo))) (met++[eL (t::todo)])
def iQ(n:Nat):List Int:=(List.range n).map fun(k:Nat)=>(k:Int)
theorem nS{n:Nat}{a:Int}:a∈iQ n↔0<=a/\a<n:=by
 simp only[iQ,List.mem_map,List.mem_range]
 refine⟨?_,fun h=>⟨a.toNat,by omega,by omega⟩⟩
 rintro⟨k,h,rfl⟩
 omega
theorem oJ{α:Type}{p q:α->Bool}: ∀{l:List α},(∀x,x∈l->p x=true->q x=true)->(∃x,x∈l/\q x=true/\p x=false)->l.countP p<l.countP q
 |[],_,h=>by obtain⟨x,hx,_⟩:=h;cases hx
 | a::l,h,⟨x,hx,h1,h2⟩=>by
  have hm:=List.countP_mono_left (l:=l) (p:=p) (q:=q) fun y hy=>h y (by simp[hy])
  simp only[List.countP_cons]
  rcases List.mem_cons.1 hx with rfl|hx
  ·rw[h1,h2];simp;omega
  ·have ih:=oJ (l:=l) (fun y hy=>h y (by simp[hy])) ⟨x,hx,h1,h2⟩
   cases hp:p a with
   |true=>rw[h a (by simp) hp];simp;omega
   |false=>cases q a<;>simp<;>omega
def zD(n:Nat)(met:List Int):Nat:=(iQ n).countP fun x=>!met.contains x
theorem E4(n:Nat)(met:List Int):zD n met<=n:=by
 have:=List.countP_le_length (l:=iQ n) (p:=fun x=>!met.contains x)
 simpa[zD,iQ] using this
theorem FH{n:Nat}{met:List Int}{b:Int}(hb:0<=b/\b<n)(hn:met.contains b=false)(l:List Int)(hl:b∈l):zD n (met++l)<zD n met:=by
 refine oJ (fun x _ h=>?_) ⟨b,nS.2 hb,by simpa using hn,by simp[hl]⟩
 simp only[Bool.not_eq_true',List.contains_eq_mem,aa3,List.mem_append,not_or] at h⊢
 exact h.1
def ms(n m:Nat)(todo met:List Int):Nat:=zD n met*(m+1)+todo.length
theorem ny{t:Int}{todo:List Int}:eL (t::todo)∈t::todo:=by
 unfold eL
 rw[List.getLastD_cons]
 cases todo with
 |nil=>simp
 |cons a l=>rw[List.getLastD_eq_getLast?,List.getLast?_eq_some_getLast (by simp)];simp
theorem x3{t:Int}{todo:List Int}:(t::todo).dropLast++[eL (t::todo)]=t::todo:=by
 have:eL (t::todo)=(t::todo).getLast (by simp):=by
  unfold eL
  rw[List.getLastD_eq_getLast?,List.getLast?_eq_some_getLast (by simp)];rfl
 rw[this];exact List.dropLast_concat_getLast (by simp)
theorem zA(n m:Nat)(t:Int)(todo met:List Int):ms n m (t::todo).dropLast met<ms n m (t::todo) met:=by
 unfold ms
 simp
theorem Aw{n m:Nat}{L:Gr}(hG:WG n m L)(t:Int)(todo met:List Int)(hb:0<=eL (t::todo)/\eL (t::todo)<n)(hn:met.contains (eL (t::todo))=false):
  ms n m ((t::todo).dropLast++L.at (eL (t::todo))) (met++[eL (t::todo)])<ms n m (t::todo) met:=by
 unfold ms
 have h1:=FH hb hn [eL (t::todo)] (by simp)
 have h2:=hG.le (eL (t::todo))
 have h3:=Nat.mul_le_mul_right (m+1) (show zD n (met++[eL (t::todo)])+1<=zD n met from h1)
 rw[Nat.add_mul] at h3
 simp only[ab9,List.length_dropLast,List.length_cons]
 omega
structure Sd(n m:Nat)(todo met:List Int):Prop where
 ht: ∀x,x∈todo->0<=x/\x<n
 hm: ∀x,x∈met->0<=x/\x<n
 le:todo.length+zD n met*m<=(n+1)*m
theorem Sd.pop{n m:Nat}{t:Int}{todo met:List Int}(h:Sd n m (t::todo) met):Sd n m (t::todo).dropLast met:=
 ⟨fun x hx=>h.ht x (List.dropLast_subset _ hx),h.hm,by have:=h.le;simp only[List.length_dropLast,List.length_cons] at this⊢;omega⟩
theorem Sd.add{n m:Nat}{L:Gr}(hG:WG n m L){t:Int}{todo met:List Int}(h:Sd n m (t::todo) met)(hn:met.contains (eL (t::todo))=false):Sd n m ((t::todo).dropLast++L.at (eL (t::todo))) (met++[eL (t::todo)]):=by
 have hb:=h.ht _ ny
 refine⟨fun x hx=>?_,fun x hx=>?_,?_⟩
 ·rcases List.mem_append.1 hx with hx|hx
  ·exact h.ht x (List.dropLast_subset _ hx)
  ·exact hG.kZ _ hb.1 x hx
 ·rcases List.mem_append.1 hx with hx|hx
  ·exact h.hm x hx
  ·rw[List.mem_singleton] at hx;rw[hx];exact hb
 ·have h1:=FH hb hn [eL (t::todo)] (by simp)
  have h2:=hG.le (eL (t::todo))
  have h3:=Nat.mul_le_mul_right m (show zD n (met++[eL (t::todo)])+1<=zD n met from h1)
  rw[Nat.add_mul] at h3
  have h4:=h.le
  simp only[ab9,List.length_dropLast,List.length_cons] at h4⊢
  omega
theorem Sd.start{n m:Nat}{L:Gr}(hG:WG n m L){a:Int}(h0:0<=a):Sd n m (L.at a) []:=
 ⟨fun x hx=>hG.kZ a h0 x hx,fun x hx=>(nomatch hx),by
  have h1:=hG.le a
  have h2:=Nat.mul_le_mul_right m (E4 n [])
  rw[Nat.add_mul];omega⟩
theorem qs{n m:Nat}{L:Gr}(hG:WG n m L): ∀(f g:Nat) (todo met:List Int),Sd n m todo met->ms n m todo met<=f->ms n m todo met<=g->HB L f todo met=HB L g todo met
 |0,g,todo,met,_,h,_=>by
  have:todo=[]:=by unfold ms at h;exact List.eq_nil_of_length_eq_zero (by omega)
  subst this
  cases g<;>rfl
 |f+1,0,todo,met,_,_,h=>by
  have:todo=[]:=by unfold ms at h;exact List.eq_nil_of_length_eq_zero (by omega)
  subst this;rfl
 |f+1,g+1,[],met,_,_,_=>rfl
 | f+1,g+1,t::todo,met,hs,h1,h2=>by
  rw[HB,HB]
  cases hc:met.contains (eL (t::todo)) with
  |true=>
   have:=zA n m t todo met
   rw[aa8,aa8]
   exact qs hG f g _ _ hs.pop (by omega) (by omega)
  |false=>
   have:=Aw hG t todo met (hs.ht _ ny) hc
   rw[aa6,aa6]
   exact qs hG f g _ _ (hs.add hG hc) (by omega) (by omega)
def wB(n m:Nat)(L:Gr)(todo met:List Int):List Int:=HB L (ms n m todo met) todo met
theorem BV(n m:Nat)(L:Gr)(met:List Int):wB n m L [] met=met:=by
 unfold wB;cases ms n m [] met<;>rfl
theorem IQ{n m:Nat}{L:Gr}(hG:WG n m L){t:Int}{todo met:List Int}(hs:Sd n m (t::todo) met):
  wB n m L (t::todo) met=bif met.contains (eL (t::todo)) then wB n m L (t::todo).dropLast met else wB n m L ((t::todo).dropLast++L.at (eL (t::todo))) (met++[eL (t::todo)]):=by
 have e:ms n m (t::todo) met=(ms n m (t::todo) met - 1)+1:=by unfold ms;simp only[List.length_cons];omega
 unfold wB
 rw[e,HB]
 cases hc:met.contains (eL (t::todo)) with
 |true=>
  have:=zA n m t todo met
  rw[aa8,aa8]
  exact qs hG _ _ _ _ hs.pop (by omega) (Nat.le_refl _)
 |false=>
  have:=Aw hG t todo met (hs.ht _ ny) hc
  rw[aa6,aa6]
  exact qs hG _ _ _ _ (hs.add hG hc) (by omega) (Nat.le_refl _)
theorem y9{n m:Nat}{L:Gr}(hG:WG n m L)(P:Int->Prop)(hP: ∀x y,P x->y∈L.at x->P y): ∀(f:Nat) (todo met:List Int),Sd n m todo met->ms n m todo met<=f->(∀x,x∈todo\/x∈met->P x)->(∀x,x∈met->∀y,y∈L.at x->y∈met\/y∈todo)->
  (∀x,x∈HB L f todo met->P x)/\(∀x,x∈todo\/x∈met->x∈HB L f todo met)/\(∀x,x∈HB L f todo met->∀y,y∈L.at x->y∈HB L f todo met)
 |0,todo,met,_,h,h1,h2=>by
  have:todo=[]:=by unfold ms at h;exact List.eq_nil_of_length_eq_zero (by omega)
  subst this
  exact⟨fun x hx=>h1 x (.inr hx),fun x hx=>hx.resolve_left (by simp),fun x hx y hy=>(h2 x hx y hy).resolve_right (by simp)⟩
 |f+1,[],met,_,_,h1,h2=>⟨fun x hx=>h1 x (.inr hx),fun x hx=>hx.resolve_left (by simp),fun x hx y hy=>(h2 x hx y hy).resolve_right (by simp)⟩
 | f +1,t::todo,met,hs,h,h1,h2=>by
  have hd: ∀x,x∈t::todo->x∈(t::todo).dropLast\/x=eL (t::todo):=fun x hx=>by
   rw[←x3 (t:=t) (todo:=todo)] at hx
   simpa using hx
  rw[HB]
  cases hc:met.contains (eL (t::todo)) with
  | true=>
   have hm:eL (t::todo)∈met:=by simpa using hc
   have:=zA n m t todo met
   rw[aa8]
   obtain⟨g1,g2,g3⟩:=y9 hG P hP f (t::todo).dropLast met hs.pop (by omega) (fun x hx=>h1 x (hx.imp (fun h=>List.dropLast_subset _ h) id)) (fun x hx y hy=>by
    rcases h2 x hx y hy with h|h
    ·exact .inl h
    ·rcases hd y h with h|rfl
     ·exact .inr h
     ·exact .inl hm)
   refine⟨g1,fun x hx=>?_,g3⟩
   rcases hx with hx|hx
   ·rcases hd x hx with h|rfl
    ·exact g2 x (.inl h)
    ·exact g2 _ (.inr hm)
   ·exact g2 x (.inr hx)
  | false=>
   have:=Aw hG t todo met (hs.ht _ ny) hc
   have hl:=h1 _ (.inl (ny (t:=t) (todo:=todo)))
   rw[aa6]
   obtain⟨g1,g2,g3⟩:=y9 hG P hP f _ _ (hs.add hG hc) (by omega) (fun x hx=>by
    rcases hx with hx|hx
    ·rcases List.mem_append.1 hx with hx|hx
     ·exact h1 x (.inl (List.dropLast_subset _ hx))
     ·exact hP _ _ hl hx
    ·rcases List.mem_append.1 hx with hx|hx
     ·exact h1 x (.inr hx)
     ·rw[List.mem_singleton] at hx;rw[hx];exact hl) (fun x hx y hy=>by
    rcases List.mem_append.1 hx with hx|hx
    ·rcases h2 x hx y hy with h|h
     ·exact .inl (ab5 _ h)
     ·rcases hd y h with h|rfl
      ·exact .inr (ab5 _ h)
      ·exact .inl (by simp)
    ·rw[List.mem_singleton] at hx;subst hx
     exact .inr (ab4 _ hy))
   refine⟨g1,fun x hx=>?_,g3⟩
   rcases hx with hx|hx
   ·rcases hd x hx with h|rfl
    ·exact g2 x (.inl (ab5 _ h))
    ·exact g2 _ (.inr (by simp))
   ·exact g2 x (.inr (ab5 _ hx))
def iJ(n m:Nat)(L:Gr)(a:Int):List Int:=wB n m L (L.at a) []
theorem yD{n m:Nat}{L:Gr}(hG:WG n m L){a b:Int}(h0:0<=a):b∈iJ n m L a↔Rc L a b:=by
 obtain⟨g1,g2,g3⟩:=y9 hG (Rc L a) (fun x y h k=>h.step k) _ (L.at a) [] (Sd.start hG h0) (Nat.le_refl _) (fun x hx=>⟨x,hx.resolve_right (by simp), .refl x⟩) (fun x hx=>by cases hx)
 refine⟨g1 b,?_⟩
 rintro⟨c,h1,h2⟩
 have hc:=g2 c (.inl h1)
 clear h1
 induction h2 with
 |refl=>exact hc
 |step h _ ih=>exact ih (g3 _ hc _ h)
def gD(n m:Nat)(L:Gr)(a b:Int):Bool:=decide (a=b)||((iJ n m L a).contains b&&(iJ n m L b).contains a)
theorem AE{n m:Nat}{L:Gr}(hG:WG n m L){a b:Int}(ha:0<=a)(hb:0<=b):gD n m L a b=true↔a=b\/(Rc L a b/\Rc L b a):=by
 simp only[gD,ab6,aa1,aa2,List.contains_eq_mem,yD hG ha,yD hG hb]
theorem JR(n m:Nat)(L:Gr)(a:Int):gD n m L a a=true:=by simp[gD]
theorem Kl(n m:Nat)(L:Gr)(a b:Int):gD n m L a b=gD n m L b a:=by
 simp only[gD,Bool.and_comm,eq_comm]
theorem IE{n m:Nat}{L:Gr}(hG:WG n m L){a b c:Int}(ha:0<=a)(hb:0<=b)(hc:0<=c)(h:gD n m L a b=true)(k:gD n m L b c=true):gD n m L a c=true:=by
 rw[AE hG ha hb] at h
 rw[AE hG hb hc] at k
 rw[AE hG ha hc]
 rcases h with rfl|⟨h1,h2⟩
 ·exact k
 ·rcases k with rfl|⟨k1,k2⟩
  ·exact .inr ⟨h1,h2⟩
  ·exact .inr ⟨h1.trans k1,k2.trans h2⟩
section
variable {n m:Nat} {L:Gr}
def gO(n m:Nat)(L:Gr)(a:Int):List Int:=(iQ n).filter (gD n m L a)
def jh(n m:Nat)(L:Gr)(done:List Int)(a:Int):Bool:=!done.contains a&&(iJ n m L a).all fun b=>done.contains b||gD n m L a b
def fU(n m:Nat)(L:Gr)(done:List Int):Int:=((iQ n).find? (jh n m L done)).getD (-1)
def uk(done l:List Int):List Int:=l.foldl (fun d b=>bif d.contains b then d else d++[b]) done
def sf(n m:Nat)(L:Gr):Nat->List Int->List (List Int)
 |0,_=>[]
 |f+1,done=>bif decide (fU n m L done<0) then[] else gO n m L (fU n m L done)::sf n m L f (uk done (gO n m L (fU n m L done)))
theorem vD: ∀(l done:List Int) (x:Int),x∈uk done l↔x∈done\/x∈l
 |[],done,x=>by simp[uk]
 | b::l,done,x=>by
  have ih:=vD l (bif done.contains b then done else done++[b]) x
  unfold uk at ih⊢
  rw[List.foldl_cons,ih]
  cases h:done.contains b with
  |true=>
   rw[aa8,ac3]
   have h':b∈done:=by simpa using h
   refine⟨fun h=>h.imp id .inr,?_⟩
   rintro(h|rfl|h)
   ·exact .inl h
   ·exact .inl h'
   ·exact .inr h
  |false=>rw[aa6,List.mem_append,List.mem_singleton,ac3,or_assoc]
theorem yu{done:List Int}(h:0<=fU n m L done):(0<=fU n m L done/\fU n m L done<n)/\jh n m L done (fU n m L done)=true:=by
 unfold fU at h⊢
 cases e:(iQ n).find? (jh n m L done) with
 |none=>rw[e] at h;simp at h
 |some a=>
  have h1:=List.find?_some e
  have h2:=List.mem_of_find?_eq_some e
  exact⟨nS.1 h2,h1⟩
theorem Ar{a b:Int}:b∈gO n m L a↔(0<=b/\b<n)/\gD n m L a b=true:=by
 unfold gO
 rw[List.mem_filter,nS]
theorem zJ{done:List Int}(h:0<=fU n m L done):zD n (uk done (gO n m L (fU n m L done)))<zD n done:=by
 obtain⟨h1,h2⟩:=yu h
 have hn:fU n m L done∉done:=by
  simp only[jh,aa2,Bool.not_eq_true',List.contains_eq_mem,aa3] at h2
  exact h2.1
 refine oJ (fun x _ hx=>?_) ⟨fU n m L done,nS.2 h1,by simpa using hn,?_⟩
 ·simp only[Bool.not_eq_true',List.contains_eq_mem,aa3,vD,not_or] at hx⊢
  exact hx.1
 ·simp only[ab3,List.contains_eq_mem,aa1,vD,Ar]
  exact .inr ⟨h1,JR _ _ _ _⟩
theorem xQ: ∀(f g:Nat) (done:List Int),zD n done<f->zD n done<g->sf n m L f done=sf n m L g done
 |0,_,_,h,_=>by omega
 |_+1,0,_,_,h=>by omega
 | f+1,g+1,done,h1,h2=>by
  rw[sf,sf]
  cases h:decide (fU n m L done<0) with
  |true=>rfl
  |false=>
   have:=zJ (n:=n) (m:=m) (L:=L) (done:=done) (by simpa using h)
   rw[aa6,aa6,xQ f g _ (by omega) (by omega)]
def sJ(n m:Nat)(L:Gr)(done:List Int):List (List Int):=sf n m L (zD n done+1) done
theorem Cy(done:List Int):sJ n m L done=bif decide (fU n m L done<0) then[] else gO n m L (fU n m L done)::sJ n m L (uk done (gO n m L (fU n m L done))):=by
 unfold sJ
 rw[sf]
 cases h:decide (fU n m L done<0) with
 |true=>rfl
 |false=>
  have:=zJ (n:=n) (m:=m) (L:=L) (done:=done) (by simpa using h)
  rw[aa6,aa6,xQ _ _ _ (by omega) (Nat.lt_succ_self _)]
end
end Go.Rl
namespace Go.Proofs.YthaiinlfnommnaaGreatDoor
open Go Go.Dn Go.Rl Go.Proofs
attribute [local irreducible] ba vc
set_option maxRecDepth 20000
def fB(op:Int):Bool:=decide (op=1)
def gH(op:Int):Bool:=bif decide (op=2) then true else decide (op>=7)
def dy(op:Int):Bool:=bif decide (op<3) then true else decide (op>6)
theorem yKa(κ:Kp)(op:Int)(K:AV->List Dn.Obj->Prop):(ba (SJ κ) 12 44 [.int op] [] K)=(
 K (AV.bool (op==(1:Int))) []):=by kernel_rfl
def XK:List AV->Option (Bool×AV)
 |[.lit (.int .i64 op)]=>some (true, .bool (fB op))
 |_=>none
theorem pKa(κ:Kp):cQ (SJ κ) 12 44 XK:=by
 intro args x hh
 unfold XK at hh
 split at hh
 ·rename_i op
  simp only[aa4,ab0,true_and] at hh
  subst hh
  exact⟨_,rfl,rfl,Eq.mpr (yKa κ op _) (by rw[Pf];rfl)⟩
 ·cases hh
noncomputable def TQ(κ:Kp):Env:=(SJ κ).aH 44 XK
theorem eKa(κ:Kp):aB (TQ κ):=(eCs κ).aH (YT κ) (pKa κ)
theorem ZB(κ:Kp):aj (TQ κ):=(YT κ).aH
theorem yKb(κ:Kp)(op:Int)(K:AV->List Dn.Obj->Prop):(ba (TQ κ) 12 73 [.int op] [] K)=(
 aD (op==(2:Int)) (K (AV.bool true) []) (K (AV.bool (decide (op>=(7:Int)))) [])):=by kernel_rfl
def Wp:List AV->Option (Bool×AV)
 |[.lit (.int .i64 op)]=>some (true, .bool (gH op))
 |_=>none
theorem pKb(κ:Kp):cQ (TQ κ) 12 73 Wp:=by
 intro args x hh
 unfold Wp at hh
 split at hh
 ·rename_i op
  simp only[aa4,ab0,true_and] at hh
  subst hh
  refine⟨_,rfl,rfl,Eq.mpr (yKb κ op _) ?_⟩
  simp only[Pf]
  unfold gH
  cases decide (op=2)<;>rfl
 ·cases hh
noncomputable def T6(κ:Kp):Env:=(TQ κ).aH 73 Wp
theorem eKb(κ:Kp):aB (T6 κ):=(eKa κ).aH (ZB κ) (pKb κ)
theorem Y5(κ:Kp):aj (T6 κ):=(ZB κ).aH
theorem yKc(κ:Kp)(a:LA)(K:AV->List Dn.Obj->Prop):(ba (T6 κ) 12 115 [a.av] [] K)=(
 aD (decide (a.op<(3:Int))) (K (AV.bool true) []) (K (AV.bool (decide (a.op>(6:Int)))) [])):=by kernel_rfl
def Xk:List AV->Option (Bool×AV)
 |[.agg [.lit (.int .i64 op), .agg [.lit (.string _), .ad 56 _], .agg [.lit (.int .i64 _), .lit (.string _), .lit (.int .i64 _), .ad 56 _], .agg [.lit (.int .i64 _), .lit (.string _), .lit (.int .i64 _), .ad 56 _]]]=>some (true, .bool (dy op))
 |_=>none
theorem pKc(κ:Kp):cQ (T6 κ) 12 115 Xk:=by
 intro args x hh
 unfold Xk at hh
 split at hh
 ·rename_i op s l o1 s1 n1 l1 o2 s2 n2 l2
  simp only[aa4,ab0,true_and] at hh
  subst hh
  refine⟨_,rfl,rfl,Eq.mpr (yKc κ ⟨op,s,l,o1,s1,n1,l1,o2,s2,n2,l2⟩ _) ?_⟩
  unfold dy
  simp only
  cases decide (op<3)<;>rfl
 ·cases hh
noncomputable def Nt(κ:Kp):Env:=(T6 κ).aH 115 Xk
theorem eKc(κ:Kp):aB (Nt κ):=(eKb κ).aH (Y5 κ) (pKc κ)
theorem Zj(κ:Kp):aj (Nt κ):=(Y5 κ).aH
theorem xKd(κ:Kp)(l:List AV)(k i:Int)(I:Nat->S->Prop)(n:Nat)(K:Exit->S->Prop):(vc (Nt κ) 12 97 none 0 (af (Pr κ).toProgram 97 2) (sp 19 [(0, .ad 3 l),(1, .int k),(7, .int l.length),(8, .int i)] []) (bJ (Nt κ) 97 2 0 I n K))=(
 letI z1:=i<(↑(l.length):Int)
 aD (decide z1) (a7 (decide ((0:Int)<=i)&&decide z1) (aD (k==toInt (nth l i.toNat)) (K Exit.ret (sp 19 [(4,AV.int i)] [])) (∃(e0:Nat),e0<n/\I e0
 (sp 19 [(0,AV.ad 3 l),(1,AV.int k),(7,AV.int (↑(l.length):Int)),(8,AV.int (IntKind.wrap IntKind.i64 (i+(1:Int))))] [])))) (K (Exit.exit 0) (sp 19
 [] []))):=by kernel_rfl
def gX(k:Int):List AV->Int->Int
 |[],_=> -1
 |a::l,i=>bif decide (k=toInt a) then i else gX k l (i+1)
abbrev UD(a:List AV×Int×Int):S:=sp 19 [(0, .ad 3 a.1),(1, .int a.2.1),(7, .int a.1.length),(8, .int a.2.2)] []
def Kz(a:List AV×Int×Int):Prop:=a.1.length<=aR/\0<=a.2.2/\a.2.2<=a.1.length
def Gv(a:List AV×Int×Int):Out (Exit×S):= .aD (decide (gX a.2.1 (a.1.drop a.2.2.toNat) a.2.2>=0)) (.one (.ret,sp 19 [(4, .int (gX a.2.1 (a.1.drop a.2.2.toNat) a.2.2))] [])) (.one (.exit 0,sp 19 [] []))
theorem lKd(κ:Kp):bj (Nt κ) 12 97 2 (aO 0 UD Kz Gv):=by
 refine aK (fun a=>a.1.length - a.2.2.toNat) ?_
 rintro⟨l,s,i⟩ K ⟨h1,h2,h3⟩ ho
 simp only at h1 h2 h3
 rw[show(Nt κ).P=Pr κ from rfl]
 refine Eq.mpr (xKd κ l s i _ _ K) ?_
 simp only[aR] at h1
 simp only[Gv,Out.run,ah] at ho
 simp only[ah,an,aa1,aa3,aa2,beq_iff_eq,beq_eq_false_iff_ne]
 refine⟨fun hi=>⟨⟨h2,hi⟩,fun e=>?_,fun e=>?_⟩,fun hi=>?_⟩
 ·rw[ab2 (show i.toNat<l.length by omega),←bf l i.toNat (by omega),gX,aa7 e,aa8,aa7 (show i>=0 from h2)] at ho
  exact ho.1 rfl
 ·rw[aV (n:=i+1) (by omega) (by omega)]
  refine⟨_,?_,(l,s,i+1),rfl,⟨by simpa[aR] using h1,by simp only;omega,by simp only;omega⟩,rfl,?_⟩
  ·simp only;omega
  ·rw[ab2 (show i.toNat<l.length by omega),←bf l i.toNat (by omega),gX,aa5 e,aa6] at ho
   simp only[Gv,Out.run,ah,show(i+1).toNat=i.toNat+1 by omega]
   exact ho
 ·rw[aa9 (by omega)] at ho
  exact ho.2 rfl
noncomputable def UT(κ:Kp):Env:=(Nt κ).ak 97 2 (aO 0 UD Kz Gv)
theorem eKd(κ:Kp):aB (UT κ):=(eKc κ).ak (Zj κ) (lKd κ)
theorem Za(κ:Kp):aj (UT κ):=(Zj κ).ak aG
theorem yKe(κ:Kp)(l:List AV)(k:Int)(K:AV->List Dn.Obj->Prop):(ba (UT κ) 12 97 [.ad 3 l, .int k] [] K)=(
 af (Pg.toProgram (Env.P (Nt κ))) 97 2=af (Pg.toProgram (Env.P (Nt κ))) 97 2/\∃(a:List AV×Int×Int),sp 19 [(0,AV.ad 3 l),(1,AV.int k),
 (7,AV.int (↑(l.length):Int)),(8,AV.int 0)] []=sp 19 [(0,AV.ad 3 a.1),(1,AV.int a.2.1),(7,AV.int (↑(a.1.length):Int)),(8,AV.int a.2.2)] []/\
 (a.1.length<=9223372036854775807/\(0:Int)<=a.2.2/\a.2.2<=(↑(a.1.length):Int))/\aD (decide (gX a.2.1 (List.drop (Int.toNat a.2.2) a.1) a.2.2>=(0
 :Int))) (K (AV.int (gX a.2.1 (List.drop (Int.toNat a.2.2) a.1) a.2.2)) []) (K (AV.int (-1)) [])):=by kernel_rfl
def XW:List AV->Option (Bool×AV)
 |[.ad 3 l, .lit (.int .i64 k)]=>some (decide (l.length<=aR), .int (gX k l 0))
 |_=>none
theorem uf(s:Int): ∀(l:List AV) (i:Int),¬ gX s l i>=0->0<=i->gX s l i= -1
 |[],_,_,_=>rfl
 |a::l,i,h,h0=>by
  simp only[gX] at h⊢
  cases e:decide (s=toInt a) with
  |true=>rw[e] at h;exact absurd h0 h
  |false=>rw[e] at h;exact uf s l (i+1) h (by omega)
theorem pKe(κ:Kp):cQ (UT κ) 12 97 XW:=by
 intro args x hh
 unfold XW at hh
 split at hh
 ·rename_i l s
  simp only[aa4,ab0,aa1] at hh
  obtain⟨h1,rfl⟩:=hh
  refine⟨_,rfl,rfl,?_⟩
  refine Eq.mpr (yKe κ l s _) ?_
  refine⟨rfl,(l,s,0),rfl,⟨h1,by simp only;omega,by simp only;omega⟩,?_⟩
  simp only[ab8,ab1,ah,aa1,aa3]
  exact⟨fun _=>trivial,fun e=>by rw[uf s l 0 e (by omega)]⟩
 ·cases hh
noncomputable def TG(κ:Kp):Env:=(UT κ).aH 97 XW
theorem eKe(κ:Kp):aB (TG κ):=(eKd κ).aH (Za κ) (pKe κ)
theorem YK(κ:Kp):aj (TG κ):=(Za κ).aH
theorem yKf(κ:Kp)(l:List AV)(k:Int)(K:AV->List Dn.Obj->Prop):(ba (TG κ) 12 57 [.ad 3 l, .int k] [] K)=(
 a7 (decide (l.length<=9223372036854775807)) (K (AV.bool (decide (gX k l (0:Int)>=(0:Int)))) [])):=by kernel_rfl
def Sf(k:Int)(l:List AV):Bool:=decide (gX k l 0>=0)
def We:List AV->Option (Bool×AV)
 |[.ad 3 l, .lit (.int .i64 k)]=>some (decide (l.length<=aR), .bool (Sf k l))
 |_=>none
theorem pKf(κ:Kp):cQ (TG κ) 12 57 We:=by
 intro args x hh
 unfold We at hh
 split at hh
 ·rename_i l s
  simp only[aa4,ab0,aa1] at hh
  obtain⟨h1,rfl⟩:=hh
  refine⟨_,rfl,rfl,?_⟩
  refine Eq.mpr (yKf κ l s _) ?_
  rw[an,aa1]
  exact⟨h1,rfl⟩
 ·cases hh
noncomputable def O3(κ:Kp):Env:=(TG κ).aH 57 We
theorem eKf(κ:Kp):aB (O3 κ):=(eKe κ).aH (YK κ) (pKf κ)
theorem Zk(κ:Kp):aj (O3 κ):=(YK κ).aH
theorem xE(k:Int): ∀(l:List Int) (i:Int),0<=i->(gX k (iA l) i>=0↔k∈l)
 |[],_,_=>by simp[iA,gX]
 | a::l,i,h0=>by
  have ih:=xE k l (i+1) (by omega)
  simp only[iA,ac1,gX] at ih⊢
  by_cases h:k=a
  ·rw[show decide (k=toInt (AV.lit (.int .i64 a)))=true from aa7 h,aa8]
   exact⟨fun _=>by simp[h],fun _=>h0⟩
  ·rw[show decide (k=toInt (AV.lit (.int .i64 a)))=false from aa5 h,aa6,ih]
   simp[h]
theorem Dw(k:Int)(l:List Int):Sf k (iA l)=l.contains k:=by
 unfold Sf
 rw[Bool.eq_iff_iff,aa1,xE k l 0 (by omega)]
 simp
def D2(ds:List AV)(a:Int):List AV->List (Int×Int)
 |[]=>[]
 |l::bl=>bif dy (toInt (ae l 0)) then(a,bw (toStr (ae (ae l 1) 0)) ds)::D2 ds a bl else D2 ds a bl
def Zg(ds:List AV)(r:AV):List (Int×Int):=D2 ds (bw (toStr (ae (ae r 0) 0)) ds) (ai (ae r 1))
def wS(ds rs:List AV):List (Int×Int):=rs.flatMap (Zg ds)
def AR(E:List (Int×Int)):List AV:=E.map fun e=> .bh [.int e.1, .int e.2]
theorem OI(E F:List (Int×Int)):AR (E++F)=AR E++AR F:=by simp[AR]
structure MB where
 ds:List AV
 rs:List AV
 xs:List AV
 more:List AV
 bl:List AV
 a:Int
 i:Int
 j:Int
abbrev KQ(x:MB):S:=sp 53 [(0, .cD 0),(1, .ptr 1 0 [] 0),(5, .int x.a),(12, .ad 66 x.rs),(13, .int x.rs.length),(14, .int x.i),(28, .ad 72 x.bl),(29, .int x.bl.length),(30, .int x.j)] [.ext (some x.xs), .box 25 (gN x.ds x.rs)]
theorem xKg(κ:Kp)(x:MB)(I:Nat->S->Prop)(n:Nat)(K:Exit->S->Prop):(vc (O3 κ) 12 114 none 2 (af (Pr κ).toProgram 114 5) (KQ x) (bJ (O3 κ) 114 5 2 I n K))=(
 letI z1:=AV.agg [AV.ad 61 x.ds,AV.ad 66 x.rs]
 letI z2:=IntKind.wrap IntKind.i64 (x.j+(1:Int))
 letI z3:=x.bl.length
 aD (decide (x.j<(↑z3:Int))) (a7 (decide ((0:Int)<=x.j)&&decide (x.j<(↑z3:Int))) (aD (!dy (toInt (ae (nth x.bl x.j.toNat) 0))) (∃(e0:Nat),e0<n
 /\I e0 (sp 53 [(0,AV.cD 0),(1,AV.ptr 1 0 [] 0),(5,AV.int x.a),(12,AV.ad 66 x.rs),(13,AV.int (↑(x.rs.length):Int)),(14,AV.int x.i),(28,AV.ad 72
 x.bl),(29,AV.int (↑z3:Int)),(30,AV.int z2)] [Obj.ext (some x.xs),Obj.box 25 z1])) (∃(e2:List AV×ByteArray),([AV.ad 61 x.ds,AV.str (toStr (ae (ae
 (nth x.bl x.j.toNat) 1) 0))],aI)=([AV.ad 61 e2.1,AV.str e2.2],aI)/\gL e2/\∃(e1:List AV),x.xs=AV.bh [AV.int x.a,AV.int (bw e2.2 e2.1)]::e1/\(∃
 (e0:Nat),e0<n/\I e0 (sp 53 [(0,AV.cD 0),(1,AV.ptr 1 0 [] 0),(5,AV.int x.a),(12,AV.ad 66 x.rs),(13,AV.int (↑(x.rs.length):Int)),(14,AV.int
 x.i),(28,AV.ad 72 x.bl),(29,AV.int (↑z3:Int)),(30,AV.int z2)] [Obj.ext (some e1),Obj.box 25 z1]))/\K Exit.ret (sp 53 [] [Obj.ext none,Obj.box 25
 z1])))) (K (Exit.exit 2) (sp 53 [(0,AV.cD 0),(1,AV.ptr 1 0 [] 0),(12,AV.ad 66 x.rs),(13,AV.int (↑(x.rs.length):Int)),(14,AV.int x.i)] [Obj.ext (some
 x.xs),Obj.box 25 z1]))):=by kernel_rfl
def De(x:MB):Prop:=x.ds.length<=aR/\x.bl.length<=aR/\0<=x.j/\x.j<=x.bl.length/\x.xs=AR (D2 x.ds x.a (x.bl.drop x.j.toNat))++x.more
def JU(x:MB):Out (Exit×S):= .all (fun _:Bool=>True) fun b=> .aD b
 (.one (.exit 2,sp 53 [(0, .cD 0),(1, .ptr 1 0 [] 0),(12, .ad 66 x.rs),(13, .int x.rs.length),(14, .int x.i)] [.ext (some x.more), .box 25 (gN x.ds x.rs)]))
 (.one (.ret,sp 53 [] [.ext none, .box 25 (gN x.ds x.rs)]))
theorem JY(ds:List AV)(a:Int)(bl:List AV)(k:Nat)(h:k<bl.length):D2 ds a (bl.drop k)=bif dy (toInt (ae (nth bl k) 0)) then(a,bw (toStr (ae (ae (nth bl k) 1) 0)) ds)::D2 ds a (bl.drop (k+1)) else D2 ds a (bl.drop (k+1)):=by
 rw[ab2 h,←bf bl k h,D2]
theorem lKg(κ:Kp):bj (O3 κ) 12 114 5 (aO 2 KQ De JU):=by
 refine aK (fun x=>x.bl.length - x.j.toNat) ?_
 rintro⟨ds,rs,xs,more,bl,a,i,j⟩ K ⟨h0,h1,h2,h3,h4⟩ ho
 simp only at h0 h1 h2 h3 h4
 rw[show(O3 κ).P=Pr κ from rfl]
 refine Eq.mpr (xKg κ ⟨ds,rs,xs,more,bl,a,i,j⟩ _ _ K) ?_
 simp only[aR] at h1
 have ho1:=ho true trivial
 have ho2:=ho false trivial
 simp only[Out.run,aD] at ho1 ho2
 simp only[ah,an,aa1,aa3,aa2]
 refine⟨fun hj=>⟨⟨h2,hj⟩,?_⟩,fun hj=>?_⟩
 ·have hd:=JY ds a bl j.toNat (by omega)
  rw[hd] at h4
  rw[aV (n:=j+1) (by omega) (by omega)]
  have next: ∀ys,ys=AR (D2 ds a (bl.drop (j.toNat+1)))++more->∃m,m<bl.length - j.toNat/\fm KQ De JU (fun x=>x.bl.length - x.j.toNat) K m (KQ ⟨ds,rs,ys,more,bl,a,i,j+1⟩):=fun ys hy=>by
   refine⟨_,?_,⟨ds,rs,ys,more,bl,a,i,j+1⟩,rfl,⟨h0,by simpa[aR] using h1,by simp only;omega,by simp only;omega,?_⟩,rfl,ho⟩
   ·simp only;omega
   ·simp only[show(j+1).toNat=j.toNat+1 by omega];exact hy
  refine⟨fun e=>?_,fun e=>?_⟩
  ·rw[show dy (toInt (ae (nth bl j.toNat) 0))=false by simpa using e] at h4
   exact next _ h4
  ·rw[show dy (toInt (ae (nth bl j.toNat) 0))=true by simpa using e] at h4
   exact⟨(ds,toStr (ae (ae (nth bl j.toNat) 1) 0)),rfl,h0,_,h4,next _ rfl,ho2⟩
 ·rw[aa9 (by omega)] at h4
  have h4:xs=more:=h4
  subst h4
  exact ho1
noncomputable def NQ(κ:Kp):Env:=(O3 κ).ak 114 5 (aO 2 KQ De JU)
theorem eKg(κ:Kp):aB (NQ κ):=(eKf κ).ak (Zk κ) (lKg κ)
theorem Zw(κ:Kp):aj (NQ κ):=(Zk κ).ak aG
abbrev NJ(x:MB):S:=sp 53 [(0, .cD 0),(1, .ptr 1 0 [] 0),(12, .ad 66 x.rs),(13, .int x.rs.length),(14, .int x.i)] [.ext (some x.xs), .box 25 (gN x.ds x.rs)]
theorem xKh(κ:Kp)(x:MB)(I:Nat->S->Prop)(n:Nat)(K:Exit->S->Prop):(vc (NQ κ) 12 114 none 2 (af (Pr κ).toProgram 114 1) (NJ x) (bJ (NQ κ) 114 1 2 I n K))=(
 letI z1:=AV.agg [AV.ad 61 x.ds,AV.ad 66 x.rs]
 letI z2:=nth x.rs x.i.toNat
 letI z3:=x.i<(↑(x.rs.length):Int)
 letI z4:=Pg.toProgram (Env.P (O3 κ))
 aD (decide z3) (a7 (decide ((0:Int)<=x.i)&&decide z3) (∃(e3:List AV×ByteArray),([AV.ad 61 x.ds,AV.str (toStr (ae (ae z2 0) 0))],aI)=([AV.ad 61
 e3.1,AV.str e3.2],aI)/\gL e3/\af z4 114 5=af z4 114 5/\∃(e2:MB),sp 53 [(0,AV.cD 0),(1,AV.ptr 1 0 [] 0),(5,AV.int (bw e3.2 e3.1)),(12,AV.ad 66
 x.rs),(13,AV.int (↑(x.rs.length):Int)),(14,AV.int x.i),(28,AV.ad 72 (ai (ae z2 1))),(29,AV.int (↑(List.length (ai (ae z2 1))):Int)),(30,AV.int 0)]
 [Obj.ext (some x.xs),Obj.box 25 z1]=sp 53 [(0,AV.cD 0),(1,AV.ptr 1 0 [] 0),(5,AV.int e2.a),(12,AV.ad 66 e2.rs),(13,AV.int (↑(e2.rs.length):Int)),
 (14,AV.int e2.i),(28,AV.ad 72 e2.bl),(29,AV.int (↑(e2.bl.length):Int)),(30,AV.int e2.j)] [Obj.ext (some e2.xs),Obj.box 25 (AV.agg [AV.ad 61 e2.ds,
 AV.ad 66 e2.rs])]/\(e2.ds.length<=9223372036854775807/\e2.bl.length<=9223372036854775807/\(0:Int)<=e2.j/\e2.j<=(↑(e2.bl.length):Int)/\e2.xs=AR
 (D2 e2.ds e2.a (List.drop e2.j.toNat e2.bl))++e2.more)/\∀(e1:Bool),True->aD e1 (∃(e0:Nat),e0<n/\I e0 (sp 53 [(0,AV.cD 0),(1,AV.ptr 1 0 [] 0),
 (12,AV.ad 66 e2.rs),(13,AV.int (↑(e2.rs.length):Int)),(14,AV.int (IntKind.wrap IntKind.i64 (e2.i+(1:Int))))] [Obj.ext (some e2.more),Obj.box 25
 (AV.agg [AV.ad 61 e2.ds,AV.ad 66 e2.rs])])) (K Exit.ret (sp 53 [] [Obj.ext none,Obj.box 25 (AV.agg [AV.ad 61 e2.ds,AV.ad 66 e2.rs])])))) (K (Exit.exit 0) (sp
 53 [] [Obj.ext (some x.xs),Obj.box 25 z1]))):=by kernel_rfl
def LP(rs:List AV):Prop:=∀r,r∈rs->(ai (ae r 1)).length<=aR
def Dx(x:MB):Prop:=x.ds.length<=aR/\x.rs.length<=aR/\LP x.rs/\0<=x.i/\x.i<=x.rs.length/\x.xs=AR (wS x.ds (x.rs.drop x.i.toNat))
def LF(x:MB):Out (Exit×S):= .all (fun _:Bool=>True) fun b=> .aD b
 (.one (.exit 0,sp 53 [] [.ext (some []), .box 25 (gN x.ds x.rs)]))
 (.one (.ret,sp 53 [] [.ext none, .box 25 (gN x.ds x.rs)]))
theorem lKh(κ:Kp):bj (NQ κ) 12 114 1 (aO 2 NJ Dx LF):=by
 refine aK (fun x=>x.rs.length - x.i.toNat) ?_
 rintro⟨ds,rs,xs,more,bl,a,i,j⟩ K ⟨h0,h1,h5,h2,h3,h4⟩ ho
 simp only at h0 h1 h2 h3 h4 h5
 rw[show(NQ κ).P=Pr κ from rfl]
 refine Eq.mpr (xKh κ ⟨ds,rs,xs,more,bl,a,i,j⟩ _ _ K) ?_
 simp only[aR] at h1
 have ho1:=ho true trivial
 have ho2:=ho false trivial
 simp only[Out.run,aD] at ho1 ho2
 simp only[ah,an,aa1,aa3,aa2]
 refine⟨fun hi=>⟨⟨h2,hi⟩,(ds,toStr (ae (ae (nth rs i.toNat) 0) 0)),rfl,h0,?_⟩,fun hi=>?_⟩
 ·have hk:i.toNat<rs.length:=by omega
  rw[wS,ab2 hk,←bf rs i.toNat hk,List.flatMap_cons,OI] at h4
  refine⟨trivial,⟨ds,rs,xs,AR (wS ds (rs.drop (i.toNat+1))),ai (ae (nth rs i.toNat) 1),bw (toStr (ae (ae (nth rs i.toNat) 0) 0)) ds,i,0⟩,rfl,⟨h0,?_,by simp only;omega,by simp only;omega,h4⟩,?_⟩
  ·exact h5 _ (by rw[bf _ _ hk];exact List.getElem_mem _)
  ·intro y _
   refine⟨fun _=>?_,fun _=>ho2⟩
   ·show∃m,m<rs.length - i.toNat/\fm NJ Dx LF (fun x=>x.rs.length - x.i.toNat) K m (sp 53 [(0, .cD 0),(1, .ptr 1 0 [] 0),(12, .ad 66 rs),(13, .int rs.length),(14, .int (IntKind.wrap IntKind.i64 (i+1)))] [.ext (some (AR (wS ds (rs.drop (i.toNat+1))))), .box 25 (gN ds rs)])
    rw[aV (n:=i+1) (by omega) (by omega)]
    refine⟨_,?_,⟨ds,rs,_,more,bl,a,i+1,j⟩,rfl,⟨h0,by simpa[aR] using h1,h5,by simp only;omega,by simp only;omega,?_⟩,rfl,ho⟩
    ·simp only;omega
    ·simp only[show(i+1).toNat=i.toNat+1 by omega];rfl
 ·rw[aa9 (by omega)] at h4
  have h4:xs=[]:=h4
  subst h4
  exact ho1
noncomputable def Tp(κ:Kp):Env:=(NQ κ).ak 114 1 (aO 2 NJ Dx LF)
theorem eKh(κ:Kp):aB (Tp κ):=(eKg κ).ak (Zw κ) (lKh κ)
theorem ZJ(κ:Kp):aj (Tp κ):=(Zw κ).ak aG
theorem yKi(κ:Kp)(ds rs xs:List AV)(K:AV->List Dn.Obj->Prop):(ba (Tp κ) 12 114 [.cD 0, .ptr 1 0 [] 0] [.ext (some xs), .box 25 (gN ds rs)] K)=(
 af (Pg.toProgram (Env.P (NQ κ))) 114 1=af (Pg.toProgram (Env.P (NQ κ))) 114 1/\∃(a:MB),sp 53 [(0,AV.cD 0),(1,AV.ptr 1 0 [] 0),(12,
 AV.ad 66 rs),(13,AV.int (↑(rs.length):Int)),(14,AV.int 0)] [Obj.ext (some xs),Obj.box 25 (AV.agg [AV.ad 61 ds,AV.ad 66 rs])]=sp 53 [(0,AV.cD 0),
 (1,AV.ptr 1 0 [] 0),(12,AV.ad 66 a.rs),(13,AV.int (↑(a.rs.length):Int)),(14,AV.int a.i)] [Obj.ext (some a.xs),Obj.box 25 (AV.agg [AV.ad 61 a.ds,
 AV.ad 66 a.rs])]/\(a.ds.length<=9223372036854775807/\a.rs.length<=9223372036854775807/\(∀(r:AV),List.Mem r a.rs->List.length (ai (ae r 1))<=
 9223372036854775807)/\(0:Int)<=a.i/\a.i<=(↑(a.rs.length):Int)/\a.xs=AR (wS a.ds (List.drop a.i.toNat a.rs)))/\∀(y:Bool),True->aD y (K
 (AV.bh []) [Obj.ext (some []),Obj.box 25 (AV.agg [AV.ad 61 a.ds,AV.ad 66 a.rs])]) (K (AV.bh []) [Obj.ext none,Obj.box 25 (AV.agg [AV.ad 61 a.ds,AV.ad
 66 a.rs])])):=by kernel_rfl
def Qw(x:rr):List AV×List Dn.Obj:=([.cD 0, .ptr 1 0 [] 0],[.ext (some (AR (wS x.1 x.2))), .box 25 (gN x.1 x.2)])
def Ds(x:rr):Prop:=x.1.length<=aR/\x.2.length<=aR/\LP x.2
def I7(_:rr):Out (AV×List Dn.Obj):= .all (fun st'=>qH st') fun st'=> .one (.bh [],st')
theorem cKi(κ:Kp):bu (Tp κ) 12 114 (aL Qw Ds I7):=by
 refine aX ?_
 rintro⟨ds,rs⟩ K ⟨h1,h2,h3⟩ ho
 refine Eq.mpr (yKi κ ds rs (AR (wS ds rs)) K) ?_
 refine⟨rfl,⟨ds,rs,AR (wS ds rs),[],[],0,0,0⟩,rfl,⟨h1,h2,h3,by simp only;omega,by simp only;omega,rfl⟩,fun y _=>?_⟩
 cases y
 ·exact ho _ trivial
 ·exact ho _ trivial
set_option maxRecDepth 20000 in
noncomputable def yG(κ:Kp):Env:=(Tp κ).aw 114 (aL Qw Ds I7)
theorem eKi(κ:Kp):aB (yG κ):=(eKh κ).aw (ZJ κ) (cKi κ)
theorem ZG(κ:Kp):aj (yG κ):=(ZJ κ).aw aJ
end Go.Proofs.YthaiinlfnommnaaGreatDoor
namespace Go.Proofs.YthaiinlfnommnaaGreatDoor
open Go Go.Dn Go.Rl Go.Proofs
theorem qQ{f:AV->Int}: ∀{rs:List AV},(GQ f rs).2=0↔ ∀x,x∈rs->f x=0
 |[]=>by simp[GQ]
 |x::l=>by
  rw[GQ]
  by_cases h:f x=0
  ·rw[aa7 h,aa8,qQ];simp[h]
  ·rw[aa5 h,aa6];simp[h]
theorem yF{ds rs:List AV}:(fD ds rs).2=0↔eU ds rs=true/\(PX ds ds 0).2=0/\(∀x,x∈rs->jD ds x=0)/\∀x,x∈rs->jg x=0:=by
 unfold fD wL
 cases eU ds rs with
 |false=>simp
 | true=>
  simp only[aa8,true_and]
  by_cases h:(PX ds ds 0).2=0
  ·rw[aa7 h,aa8]
   by_cases h2:(GQ (jD ds) rs).2=0
   ·rw[aa7 h2,aa8,qQ]
    exact⟨fun h3=>⟨h,qQ.1 h2,h3⟩,fun h3=>h3.2.2⟩
   ·rw[aa5 h2,aa6]
    exact⟨fun h3=>absurd h3 h2,fun h3=>absurd (qQ.2 h3.2.1) h2⟩
  ·rw[aa5 h,aa6,aa5 h,aa6]
   exact⟨fun h3=>absurd h3 h,fun h3=>absurd h3.1 h⟩
theorem Kd{ds:List AV}{a:At}(h:known (cI ds) a=0):0<=bw a.rel ds/\bw a.rel ds<ds.length:=by
 unfold known at h
 cases e:j5 a.rel (cI ds) with
 |none=>rw[e] at h;cases h
 |some k=>obtain⟨_,h2,h3⟩:=ql e;rw[h2];omega
theorem Tz{ds:List AV}{r:cm}(h:(rT (ds,r)).1=0):jJ (cI ds) (aF r)=0:=by
 by_cases e:jJ (cI ds) (aF r)=0
 ·exact e
 ·exfalso
  have hr: ∀n,(fH getM gk (cI ds) (aF r) (n+1) []).1=jJ (cI ds) (aF r):=fun n=>by
   rw[fH,CH _ _ _ e,aa5 e,aa6]
  unfold rT pO at h
  simp only[hr,aa5 e,aa6] at h
  exact e h
theorem u0{ds:List Dc}: ∀{b:List Lt},iN ds b=0->∀l,l∈b->Rl.dy l=true->known ds l.a=0
 |[],_,_,h,_=>nomatch h
 | x::b,hk,l,hl,ha=>by
  rw[iN] at hk
  cases e:Rl.dy x&& !decide (known ds x.a=0) with
  |true=>
   rw[e,aa8] at hk
   rw[hk] at e;simp at e
  |false=>
   rw[e,aa6] at hk
   rcases List.mem_cons.1 hl with rfl|hl
   ·rw[ha] at e;simpa using e
   ·exact u0 hk l hl ha
theorem Cr{ds rs:List AV}(h:(fD ds rs).2=0){r:AV}(hr:r∈rs):(0<=bw (toStr (ae (ae r 0) 0)) ds/\bw (toStr (ae (ae r 0) 0)) ds<ds.length)/\
  ∀l,l∈ai (ae r 1)->dy (toInt (ae l 0))=true->0<=bw (toStr (ae (ae l 1) 0)) ds/\bw (toStr (ae (ae l 1) 0)) ds<ds.length:=by
 obtain⟨h1,_,h2,_⟩:=yF.1 h
 have ht:=h2 r hr
 have hk:jJ (cI ds) (aF (eo r))=0:=by
  refine Tz ?_
  unfold jD at ht
  cases e:eU ds [ar (eo r)] with
  |true=>rw[e,aa8] at ht;exact ht
  |false=>rw[e,aa6] at ht;cases ht
 unfold jJ at hk
 cases e:decide (known (cI ds) (aF (eo r)).head=0) with
 |false=>rw[e,aa6] at hk;simp[hk] at e
 |true=>
  rw[e,aa8] at hk
  refine⟨Kd (a:=(aF (eo r)).head) (by simpa using e),fun l hl ha=>?_⟩
  have hm:cE l∈(aF (eo r)).body:=List.mem_map_of_mem hl
  refine Kd (a:=(cE l).a) (u0 hk _ hm ?_)
  have e1:(cE l).op=toInt (ae l 0):=rfl
  unfold Rl.dy
  rw[e1]
  unfold dy at ha
  cases h3:decide (toInt (ae l 0)<3) with
  |true=>rfl
  |false=>rw[h3,aa6] at ha;simpa using ha
theorem zW{ds:List AV}{a:Int}{e:Int×Int}: ∀{bl:List AV},e∈D2 ds a bl↔ ∃l,l∈bl/\dy (toInt (ae l 0))=true/\e=(a,bw (toStr (ae (ae l 1) 0)) ds)
 |[]=>by simp[D2]
 | x::bl=>by
  rw[D2]
  cases h:dy (toInt (ae x 0)) with
  | true=>
   rw[aa8,ac3,zW]
   constructor
   ·rintro(rfl|⟨l,h1,h2⟩)
    ·exact⟨x,by simp,h,rfl⟩
    ·exact⟨l,by simp[h1],h2⟩
   ·rintro⟨l,h1,h2,h3⟩
    rcases List.mem_cons.1 h1 with rfl|h1
    ·exact .inl h3
    ·exact .inr ⟨l,h1,h2,h3⟩
  | false=>
   rw[aa6,zW]
   constructor
   ·rintro⟨l,h1,h2⟩
    exact⟨l,by simp[h1],h2⟩
   ·rintro⟨l,h1,h2,h3⟩
    rcases List.mem_cons.1 h1 with rfl|h1
    ·rw[h] at h2;cases h2
    ·exact⟨l,h1,h2,h3⟩
theorem NI{ds rs:List AV}{e:Int×Int}:e∈wS ds rs↔ ∃r,r∈rs/\∃l,l∈ai (ae r 1)/\dy (toInt (ae l 0))=true/\e=(bw (toStr (ae (ae r 0) 0)) ds,bw (toStr (ae (ae l 1) 0)) ds):=by
 unfold wS
 rw[List.mem_flatMap]
 exact exists_congr fun r=>and_congr_right fun _=>zW
def TZ(ds rs:List AV):Prop:=∀e,e∈wS ds rs->(0<=e.1/\e.1<ds.length)/\0<=e.2/\e.2<ds.length
theorem Vy{ds rs:List AV}(h:(fD ds rs).2=0):TZ ds rs:=by
 intro e he
 obtain⟨r,h1,l,h2,h3,rfl⟩:=NI.1 he
 have:=Cr h h1
 exact⟨this.1,this.2 l h2 h3⟩
end Go.Proofs.YthaiinlfnommnaaGreatDoor
namespace Go.Rl
open Go Go.Dn
theorem r9(D:List Int)(b:Int): ∃t td,D++[b]=t::td/\(t::td).dropLast=D/\eL (t::td)=b:=by
 cases D with
 |nil=>exact⟨b,[],rfl,rfl,rfl⟩
 | cons t D=>
  refine⟨t,D++[b],rfl,?_,?_⟩
  ·rw[←List.cons_append,List.dropLast_concat]
  ·have:=x3 (t:=t) (todo:=D++[b])
   rw[←List.cons_append,List.dropLast_concat] at this
   simpa using List.append_inj_right this rfl
theorem xO{n m:Nat}{L:Gr}(hG:WG n m L){D met:List Int}{b:Int}(hs:Sd n m (D++[b]) met):
  wB n m L (D++[b]) met=bif met.contains b then wB n m L D met else wB n m L (D++L.at b) (met++[b]):=by
 obtain⟨t,td,e,e1,e2⟩:=r9 D b
 rw[e] at hs⊢
 rw[IQ hG hs,e1,e2]
theorem Sd.Vb{n m:Nat}{D met:List Int}{b:Int}(h:Sd n m (D++[b]) met):Sd n m D met/\ms n m D met<ms n m (D++[b]) met:=by
 obtain⟨t,td,e,e1,e2⟩:=r9 D b
 rw[e] at h⊢
 have h1:=h.pop
 have h2:=zA n m t td met
 rw[e1] at h1 h2
 exact⟨h1,h2⟩
theorem Sd.S0{n m:Nat}{L:Gr}(hG:WG n m L){D met:List Int}{b:Int}(h:Sd n m (D++[b]) met)(hn:met.contains b=false):Sd n m (D++L.at b) (met++[b])/\ms n m (D++L.at b) (met++[b])<ms n m (D++[b]) met:=by
 obtain⟨t,td,e,e1,e2⟩:=r9 D b
 have hb:=h.ht b (by simp)
 rw[e] at h⊢
 rw[←e2] at hn hb
 have h1:=h.add hG hn
 have h2:=Aw hG t td met hb hn
 rw[e1,e2] at h1 h2
 exact⟨h1,h2⟩
end Go.Rl
namespace Go.Proofs.YthaiinlfnommnaaGreatDoor
open Go Go.Dn Go.Rl Go.Proofs
attribute [local irreducible] ba vc
set_option maxRecDepth 20000
abbrev gl(k:Int):Value:= .int .i64 k
def dx(L:Gr):List (List Value):=L.map fun l=>l.map gl
def iv(l:List Int):List (Value×AV):=l.map fun k=>(gl k, .lit (.bool true))
abbrev Sb(l:List Int):AV:= .jG 3 4 (l.map gl) (l.map fun _=> .lit (.bool true))
theorem Fy: ∀(l:List (List Int)) (k:Nat),bW (l.map fun l=>l.map gl) k=(l.getD k []).map gl
 |[],k=>by cases k<;>rfl
 |_::_,0=>rfl
 |_::l,k+1=>by simpa[bW] using Fy l k
theorem lY(L:Gr)(a:Int):bW (dx L) a.toNat=(L.at a).map gl:=Fy L a.toNat
theorem lW(b:Int): ∀l:List Int,dp (iv l) (gl b) (.lit (.bool false))= .lit (.bool (l.contains b))
 |[]=>rfl
 |a::l=>by
  have ih:=lW b l
  simp only[iv,ac1,dp] at ih⊢
  have e:di (gl b) (gl a)=(b==a):=by simp[di]
  rw[e,ih,List.contains_cons]
  cases b==a<;>rfl
theorem qo(b:Int): ∀l:List Int,eR (iv l) (gl b) (.lit (.bool true))=iv (bif l.contains b then l else l++[b])
 |[]=>rfl
 | a::l=>by
  have ih:=qo b l
  simp only[iv,ac1,eR] at ih⊢
  have e:di (gl b) (gl a)=(b==a):=by simp[di]
  rw[e,ih,List.contains_cons]
  cases h:b==a with
  |true=>
   have:b=a:=by simpa using h
   subst this;rfl
  |false=>cases l.contains b<;>rfl
theorem tK(l:List Int):(iv l).map (·.1)=l.map gl:=by simp[iv]
theorem tx(l:List Int):(iv l).map (·.2)=l.map fun _=> .lit (.bool true):=by simp[iv]
abbrev LB(ls:List (List Value)):Dn.Obj:= .rows 38 3 ls none
abbrev tj(n:Nat)(ls:List (List Value))(fs:List AV):List Dn.Obj:=[.box 122 (.agg [.aq 1 0 n, .aq 2 0 fs.length]),LB ls, .row 89 fs]
abbrev w5(n:Nat)(ls:List (List Value)):List Dn.Obj:=[.box 122 (.agg [.aq 1 0 n, .nil]),LB ls]
theorem M5(D tl:List AV)(x:AV):nth (D++x::tl) (0+D.length)=x:=by
 rw[Nat.zero_add]
 induction D with
 |nil=>rfl
 |cons a D ih=>exact ih
theorem FY(D:List Int)(b:Int)(tl:List AV):((D++[b]).length:Int) - 1=D.length/\iA (D++[b])++tl=iA D++AV.int b::tl/\nth (iA D++AV.int b::tl) (0+D.length)=AV.int b/\(iA D++AV.int b::tl).take D.length=iA D/\toInt (AV.int b)=b:=by
 have e2:=M5 (iA D) tl (AV.int b)
 rw[gf] at e2
 exact⟨by simp,by simp[iA],e2,List.take_left' (gf D),rfl⟩
theorem BC(L:Gr)(a:Int):(bW (dx L) a.toNat).length=(L.at a).length:=by rw[lY,List.length_map]
theorem Ey(L:Gr)(a:Int):List.map AV.lit (List.take (bW (dx L) a.toNat).length (bW (dx L) a.toNat))=iA (L.at a):=by
 rw[List.take_length,lY,List.map_map];rfl
structure MD where
 n:Nat
 m:Nat
 L:Gr
 fs:List AV
 todo:List Int
 met:List Int
 tl:List AV
def AJ(x:MD):Prop:=WG x.n x.m x.L/\Sd x.n x.m x.todo x.met/\(x.n+1)*x.m<=1000000000
def jY(x:MD):List Int:=wB x.n x.m x.L x.todo x.met
theorem xRe(κ:Kp)(N:Nat)(ls:List (List Value))(fs:List AV)(es:List (Value×AV))(ws:List AV)(k:Nat)(I:Nat->S->Prop)(n:Nat)(K:Exit->S->Prop):(vc (yG κ) 12 72 none 3 (af (Pr κ).toProgram 72 3) (sp 48 [(0, .ptr 0 0 [] 0),(5, .mp 3),(6, .aq 4 0 k)] (tj N ls fs++[.map 3 4 es, .row 3 ws])) (bJ (yG κ) 72 3 3 I n K))=(
 letI z2:=(↑k:Int) - (1:Int)
 letI z4:=IntKind.wrap IntKind.i64 z2
 letI z1:=nth ws (0+Int.toNat z4)
 letI z5:=AV.agg [AV.aq 1 0 N,AV.aq 2 0 fs.length]
 letI z6:=(0:Int)<=IntKind.wrap IntKind.i64 z2
 letI z7:=Value.int IntKind.i64 (toInt z1)
 letI z8:=bW ls (Int.toNat (toInt z1))
 letI z3:=List.take (List.length z8) z8
 aD (decide ((↑k:Int)>(0:Int))) (a7 (decide z6&&decide (IntKind.wrap IntKind.i64 z2<(↑k:Int))) (a7 (decide z6&&decide (IntKind.wrap IntKind.i64 z2
 <=IntKind.wrap IntKind.i64 z2)&&decide (IntKind.wrap IntKind.i64 z2<=(↑k:Int))) (aD (!Dn.toBool (dp es z7 (AV.bool false))) (a7 (decide ((0:Int)<=toInt
 z1)&&decide (toInt z1<(↑N:Int))) (a7 (decide ((Int.toNat z4+List.length (List.map AV.lit z3)+1)*9<=70368744177664)) (∃(e0:Nat),e0<n/\I e0
 (sp 48 [(0,AV.ptr 0 0 [] 0),(5,AV.mp 3),(6,AV.aq 4 0 (Int.toNat z4+List.length (List.map AV.lit z3)))] [Obj.box 122 z5,Obj.rows 38 3 ls none,Obj.row 89
 fs,Dn.Obj.map 3 4 (eR es z7 (AV.bool true)),Obj.row 3 (List.take (Int.toNat z4) ws++List.map AV.lit z3)])))) (∃(e0:Nat),e0<n/\I e0 (sp 48 [(0,AV.ptr
 0 0 [] 0),(5,AV.mp 3),(6,AV.aq 4 0 (Int.toNat z4))] [Obj.box 122 z5,Obj.rows 38 3 ls none,Obj.row 89 fs,Dn.Obj.map 3 4 es,Obj.row 3 ws]))))) (K
 (Exit.exit 0) (sp 48 [(5,AV.mp 3)] [Obj.box 122 z5,Obj.rows 38 3 ls none,Obj.row 89 fs,Dn.Obj.map 3 4 es]))):=by kernel_rfl
abbrev RJ(x:MD):S:=sp 48 [(0, .ptr 0 0 [] 0),(5, .mp 3),(6, .aq 4 0 x.todo.length)] (tj x.n (dx x.L) x.fs++[.map 3 4 (iv x.met), .row 3 (iA x.todo++x.tl)])
def Cf(x:MD):Out (Exit×S):= .one (.exit 0,sp 48 [(5, .mp 3)] (tj x.n (dx x.L) x.fs++[.map 3 4 (iv (jY x))]))
theorem lRe(κ:Kp):bj (yG κ) 12 72 3 (aO 3 RJ AJ Cf):=by
 refine aK (fun x=>ms x.n x.m x.todo x.met) ?_
 rintro⟨n,m,L,fs,todo,met,tl⟩ K ⟨hG,hS,hb⟩ ho
 simp only at hG hS hb
 rw[show(yG κ).P=Pr κ from rfl]
 refine Eq.mpr (xRe κ n (dx L) fs (iv met) (iA todo++tl) todo.length _ _ K) ?_
 simp only[Cf,jY,Out.run] at ho
 rw[ah,aa1,aa3]
 refine⟨fun h=>?_,fun h=>?_⟩
 ·obtain⟨D,b,rfl⟩: ∃D b,todo=D++[b]:=⟨_,_,(List.dropLast_concat_getLast (by intro e;subst e;simp at h)).symm⟩
  have hle:=hS.le
  have hbr:=hS.ht b (by simp)
  have hlm:=hG.le b
  have hlen:=hG.len
  have hmn:m<=(n+1)*m:=Nat.le_mul_of_pos_left m (Nat.succ_pos n)
  obtain⟨e0,e1,e2,e3,e4⟩:=FY D b tl
  simp only[ab9,List.length_singleton] at hle
  rw[e0,aV (n:=(D.length:Int)) (by omega) (by omega),e1,Int.toNat_natCast,e2,e3,e4,lW,qo,lY,List.take_length,List.map_map]
  rw[xO hG hS] at ho
  simp only[an,ah,aa1,aa2,List.length_map,ab9,List.length_singleton,show Dn.toBool (AV.lit (.bool (met.contains b)))=met.contains b from rfl]
  refine⟨⟨by omega,by omega⟩,⟨⟨by omega,by omega⟩,by omega⟩,fun e=>?_,fun e=>?_⟩
  ·have e:met.contains b=false:=by simpa using e
   obtain⟨h1,h2⟩:=hS.S0 hG e
   rw[e,aa6] at ho
   refine⟨⟨by omega,by omega⟩,by omega,_,h2,⟨n,m,L,fs,D++L.at b,met++[b],[]⟩,?_,⟨hG,h1,hb⟩,rfl,?_⟩
   ·rw[e,aa6]
    simp only[RJ,List.append_nil,ab9,wC]
    rfl
   ·simp only[Cf,jY,Out.run]
    exact ho
  ·have e:met.contains b=true:=by simpa using e
   obtain⟨h1,h2⟩:=hS.Vb
   rw[e,aa8] at ho
   refine⟨_,h2,⟨n,m,L,fs,D,met,AV.int b::tl⟩,rfl,⟨hG,h1,hb⟩,rfl,?_⟩
   simp only[Cf,jY,Out.run]
   exact ho
 ·obtain rfl:todo=[]:=List.eq_nil_of_length_eq_zero (by omega)
  rw[BV] at ho
  exact ho
theorem xRz(κ:Kp)(N:Nat)(ls:List (List Value))(es:List (Value×AV))(ws:List AV)(k:Nat)(I:Nat->S->Prop)(n:Nat)(K:Exit->S->Prop):(vc (yG κ) 12 72 none 2 (af (Pr κ).toProgram 72 3) (sp 48 [(0, .ptr 0 0 [] 0),(5, .mp 2),(6, .aq 3 0 k)] (w5 N ls++[.map 3 4 es, .row 3 ws])) (bJ (yG κ) 72 3 2 I n K))=(
 letI z2:=(↑k:Int) - (1:Int)
 letI z4:=IntKind.wrap IntKind.i64 z2
 letI z1:=nth ws (0+Int.toNat z4)
 letI z5:=AV.agg [AV.aq 1 0 N,AV.nil]
 letI z6:=(0:Int)<=IntKind.wrap IntKind.i64 z2
 letI z7:=Value.int IntKind.i64 (toInt z1)
 letI z8:=bW ls (Int.toNat (toInt z1))
 letI z3:=List.take (List.length z8) z8
 aD (decide ((↑k:Int)>(0:Int))) (a7 (decide z6&&decide (IntKind.wrap IntKind.i64 z2<(↑k:Int))) (a7 (decide z6&&decide (IntKind.wrap IntKind.i64 z2
 <=IntKind.wrap IntKind.i64 z2)&&decide (IntKind.wrap IntKind.i64 z2<=(↑k:Int))) (aD (!Dn.toBool (dp es z7 (AV.bool false))) (a7 (decide ((0:Int)<=toInt
 z1)&&decide (toInt z1<(↑N:Int))) (a7 (decide ((Int.toNat z4+List.length (List.map AV.lit z3)+1)*9<=70368744177664)) (∃(e0:Nat),e0<n/\I e0
 (sp 48 [(0,AV.ptr 0 0 [] 0),(5,AV.mp 2),(6,AV.aq 3 0 (Int.toNat z4+List.length (List.map AV.lit z3)))] [Obj.box 122 z5,Obj.rows 38 3 ls none,Dn.Obj.map
 3 4 (eR es z7 (AV.bool true)),Obj.row 3 (List.take (Int.toNat z4) ws++List.map AV.lit z3)])))) (∃(e0:Nat),e0<n/\I e0 (sp 48 [(0,AV.ptr 0 0 [] 0),(5,
 AV.mp 2),(6,AV.aq 3 0 (Int.toNat z4))] [Obj.box 122 z5,Obj.rows 38 3 ls none,Dn.Obj.map 3 4 es,Obj.row 3 ws]))))) (K (Exit.exit 0) (sp 48 [(5,AV.mp 2)]
 [Obj.box 122 z5,Obj.rows 38 3 ls none,Dn.Obj.map 3 4 es]))):=by kernel_rfl
abbrev Qm(x:MD):S:=sp 48 [(0, .ptr 0 0 [] 0),(5, .mp 2),(6, .aq 3 0 x.todo.length)] (w5 x.n (dx x.L)++[.map 3 4 (iv x.met), .row 3 (iA x.todo++x.tl)])
def Cg(x:MD):Out (Exit×S):= .one (.exit 0,sp 48 [(5, .mp 2)] (w5 x.n (dx x.L)++[.map 3 4 (iv (jY x))]))
theorem lRz(κ:Kp):bj (yG κ) 12 72 3 (aO 2 Qm AJ Cg):=by
 refine aK (fun x=>ms x.n x.m x.todo x.met) ?_
 rintro⟨n,m,L,fs,todo,met,tl⟩ K ⟨hG,hS,hb⟩ ho
 simp only at hG hS hb
 rw[show(yG κ).P=Pr κ from rfl]
 refine Eq.mpr (xRz κ n (dx L) (iv met) (iA todo++tl) todo.length _ _ K) ?_
 simp only[Cg,jY,Out.run] at ho
 rw[ah,aa1,aa3]
 refine⟨fun h=>?_,fun h=>?_⟩
 ·obtain⟨D,b,rfl⟩: ∃D b,todo=D++[b]:=⟨_,_,(List.dropLast_concat_getLast (by intro e;subst e;simp at h)).symm⟩
  have hle:=hS.le
  have hbr:=hS.ht b (by simp)
  have hlm:=hG.le b
  have hlen:=hG.len
  have hmn:m<=(n+1)*m:=Nat.le_mul_of_pos_left m (Nat.succ_pos n)
  obtain⟨e0,e1,e2,e3,e4⟩:=FY D b tl
  simp only[ab9,List.length_singleton] at hle
  rw[e0,aV (n:=(D.length:Int)) (by omega) (by omega),e1,Int.toNat_natCast,e2,e3,e4,lW,qo,lY,List.take_length,List.map_map]
  rw[xO hG hS] at ho
  simp only[an,ah,aa1,aa2,List.length_map,ab9,List.length_singleton,show Dn.toBool (AV.lit (.bool (met.contains b)))=met.contains b from rfl]
  refine⟨⟨by omega,by omega⟩,⟨⟨by omega,by omega⟩,by omega⟩,fun e=>?_,fun e=>?_⟩
  ·have e:met.contains b=false:=by simpa using e
   obtain⟨h1,h2⟩:=hS.S0 hG e
   rw[e,aa6] at ho
   refine⟨⟨by omega,by omega⟩,by omega,_,h2,⟨n,m,L,fs,D++L.at b,met++[b],[]⟩,?_,⟨hG,h1,hb⟩,rfl,?_⟩
   ·rw[e,aa6]
    simp only[Qm,List.append_nil,ab9,wC]
    rfl
   ·simp only[Cg,jY,Out.run]
    exact ho
  ·have e:met.contains b=true:=by simpa using e
   obtain⟨h1,h2⟩:=hS.Vb
   rw[e,aa8] at ho
   refine⟨_,h2,⟨n,m,L,fs,D,met,AV.int b::tl⟩,rfl,⟨hG,h1,hb⟩,rfl,?_⟩
   simp only[Cg,jY,Out.run]
   exact ho
 ·obtain rfl:todo=[]:=List.eq_nil_of_length_eq_zero (by omega)
  rw[BV] at ho
  exact ho
def Ti(s:S):Bool:=Nat.beq s.st.length 5
noncomputable def Ro(κ:Kp):Env:=(yG κ).ak 72 3 (qv Ti (aO 3 RJ AJ Cf) (aO 2 Qm AJ Cg))
theorem eRl(κ:Kp):aB (Ro κ):=(eKi κ).ak (ZG κ) (nJ (lRe κ) (lRz κ))
theorem Zy(κ:Kp):aj (Ro κ):=(ZG κ).ak (kP aG aG)
structure Re where
 n:Nat
 m:Nat
 L:Gr
 fs:List AV
 a:Int
def GX(x:Re):Prop:=WG x.n x.m x.L/\(x.n+1)*x.m<=1000000000/\0<=x.a/\x.a<x.n
theorem yRe(κ:Kp)(N:Nat)(ls:List (List Value))(fs:List AV)(a:Int)(K:AV->List Dn.Obj->Prop):(ba (Ro κ) 12 72 [.ptr 0 0 [] 0, .int a] (tj N ls fs) K)=(
 letI z2:=Pg.toProgram (Env.P (yG κ))
 letI z3:=List.length (bW ls a.toNat)
 letI z1:=List.take z3 (bW ls a.toNat)
 a7 (decide ((0:Int)<=a)&&decide (a<(↑N:Int))) ((Nat.beq z3 0=true->af z2 72 3=af z2 72 3/\∃(e1:MD),sp 48 [(0,AV.ptr 0 0 [] 0),(5,AV.mp 3),
 (6,AV.aq 4 0 0)] [Obj.box 122 (AV.agg [AV.aq 1 0 N,AV.aq 2 0 fs.length]),Obj.rows 38 3 ls none,Obj.row 89 fs,Dn.Obj.map 3 4 [],Obj.row 3 []]=sp 48 [(0,
 AV.ptr 0 0 [] 0),(5,AV.mp 3),(6,AV.aq 4 0 e1.todo.length)] [Obj.box 122 (AV.agg [AV.aq 1 0 e1.n,AV.aq 2 0 e1.fs.length]),Obj.rows 38 3 (dx e1.L) none,
 Obj.row 89 e1.fs,Dn.Obj.map 3 4 (iv e1.met),Obj.row 3 (iA e1.todo++e1.tl)]/\(WG e1.n e1.m e1.L/\Sd e1.n e1.m e1.todo e1.met/\(e1.n+1)*e1.m<=
 1000000000)/\K (AV.jG 3 4 (List.map (fun(e0:Value×AV)=>e0.1) (iv (jY e1))) (List.map (fun(e0:Value×AV)=>e0.2) (iv (jY e1)))) [Obj.box 122 (AV.agg
 [AV.aq 1 0 e1.n,AV.aq 2 0 e1.fs.length]),Obj.rows 38 3 (dx e1.L) none,Obj.row 89 e1.fs])/\a7 (decide ((0+List.length (List.map AV.lit z1)+1)*9<=
 70368744177664)) (af z2 72 3=af z2 72 3/\∃(e1:MD),sp 48 [(0,AV.ptr 0 0 [] 0),(5,AV.mp 3),(6,AV.aq 4 0 (0+List.length (List.map AV.lit z1)))]
 [Obj.box 122 (AV.agg [AV.aq 1 0 N,AV.aq 2 0 fs.length]),Obj.rows 38 3 ls none,Obj.row 89 fs,Dn.Obj.map 3 4 [],Obj.row 3 ([]++List.map AV.lit z1)]=sp 48
 [(0,AV.ptr 0 0 [] 0),(5,AV.mp 3),(6,AV.aq 4 0 e1.todo.length)] [Obj.box 122 (AV.agg [AV.aq 1 0 e1.n,AV.aq 2 0 e1.fs.length]),Obj.rows 38 3 (dx e1.L)
 none,Obj.row 89 e1.fs,Dn.Obj.map 3 4 (iv e1.met),Obj.row 3 (iA e1.todo++e1.tl)]/\(WG e1.n e1.m e1.L/\Sd e1.n e1.m e1.todo e1.met/\(e1.n+1)*e1.m<=
 1000000000)/\K (AV.jG 3 4 (List.map (fun(e0:Value×AV)=>e0.1) (iv (jY e1))) (List.map (fun(e0:Value×AV)=>e0.2) (iv (jY e1)))) [Obj.box 122 (AV.agg
 [AV.aq 1 0 e1.n,AV.aq 2 0 e1.fs.length]),Obj.rows 38 3 (dx e1.L) none,Obj.row 89 e1.fs]))):=by kernel_rfl
def O7(x:Re):List AV×List Dn.Obj:=([.ptr 0 0 [] 0, .int x.a],tj x.n (dx x.L) x.fs)
def DV(x:Re):Out (AV×List Dn.Obj):= .one (Sb (iJ x.n x.m x.L x.a),tj x.n (dx x.L) x.fs)
theorem cRe(κ:Kp):bu (Ro κ) 12 72 (aL O7 GX DV):=by
 refine aX ?_
 rintro⟨n,m,L,fs,a⟩ K ⟨hG,hb,h0,h1⟩ ho
 simp only at hG hb h0 h1
 refine Eq.mpr (yRe κ n (dx L) fs a K) ?_
 simp only[DV,Out.run,iJ] at ho
 have hS:=Sd.start hG h0
 have hle:=hG.le a
 have hmn:m<=(n+1)*m:=Nat.le_mul_of_pos_left m (Nat.succ_pos n)
 rw[Ey,gf,BC,an,an,aa2,aa1,aa1,aa1]
 refine⟨⟨h0,h1⟩,fun e=>⟨rfl,⟨n,m,L,fs,[],[],[]⟩,rfl,⟨hG,?_,hb⟩,?_⟩,by omega,rfl,⟨n,m,L,fs,L.at a,[],[]⟩,?_,⟨hG,hS,hb⟩,?_⟩
 ·have e:L.at a=[]:=List.eq_nil_of_length_eq_zero (Nat.eq_of_beq_eq_true e)
  have h2:=hS
  rw[e] at h2;exact h2
 ·have e:L.at a=[]:=List.eq_nil_of_length_eq_zero (Nat.eq_of_beq_eq_true e)
  rw[e] at ho
  simp only[tK,tx]
  exact ho
 ·simp only[List.append_nil,Nat.zero_add]
  rfl
 ·simp only[tK,tx]
  exact ho
theorem yRz(κ:Kp)(N:Nat)(ls:List (List Value))(a:Int)(K:AV->List Dn.Obj->Prop):(ba (Ro κ) 12 72 [.ptr 0 0 [] 0, .int a] (w5 N ls) K)=(
 letI z2:=Pg.toProgram (Env.P (yG κ))
 letI z3:=List.length (bW ls a.toNat)
 letI z1:=List.take z3 (bW ls a.toNat)
 a7 (decide ((0:Int)<=a)&&decide (a<(↑N:Int))) ((Nat.beq z3 0=true->af z2 72 3=af z2 72 3/\∃(e1:MD),sp 48 [(0,AV.ptr 0 0 [] 0),(5,AV.mp 2),
 (6,AV.aq 3 0 0)] [Obj.box 122 (AV.agg [AV.aq 1 0 N,AV.nil]),Obj.rows 38 3 ls none,Dn.Obj.map 3 4 [],Obj.row 3 []]=sp 48 [(0,AV.ptr 0 0 [] 0),(5,AV.mp
 2),(6,AV.aq 3 0 e1.todo.length)] [Obj.box 122 (AV.agg [AV.aq 1 0 e1.n,AV.nil]),Obj.rows 38 3 (dx e1.L) none,Dn.Obj.map 3 4 (iv e1.met),Obj.row 3 (iA
 e1.todo++e1.tl)]/\(WG e1.n e1.m e1.L/\Sd e1.n e1.m e1.todo e1.met/\(e1.n+1)*e1.m<=1000000000)/\K (AV.jG 3 4 (List.map (fun(e0:Value×AV)=>e0.1)
 (iv (jY e1))) (List.map (fun(e0:Value×AV)=>e0.2) (iv (jY e1)))) [Obj.box 122 (AV.agg [AV.aq 1 0 e1.n,AV.nil]),Obj.rows 38 3 (dx e1.L) none])/\a7
 (decide ((0+List.length (List.map AV.lit z1)+1)*9<=70368744177664)) (af z2 72 3=af z2 72 3/\∃(e1:MD),sp 48 [(0,AV.ptr 0 0 [] 0),(5,AV.mp 2),
 (6,AV.aq 3 0 (0+List.length (List.map AV.lit z1)))] [Obj.box 122 (AV.agg [AV.aq 1 0 N,AV.nil]),Obj.rows 38 3 ls none,Dn.Obj.map 3 4 [],Obj.row 3 ([]++
 List.map AV.lit z1)]=sp 48 [(0,AV.ptr 0 0 [] 0),(5,AV.mp 2),(6,AV.aq 3 0 e1.todo.length)] [Obj.box 122 (AV.agg [AV.aq 1 0 e1.n,AV.nil]),Obj.rows 38 3
 (dx e1.L) none,Dn.Obj.map 3 4 (iv e1.met),Obj.row 3 (iA e1.todo++e1.tl)]/\(WG e1.n e1.m e1.L/\Sd e1.n e1.m e1.todo e1.met/\(e1.n+1)*e1.m<=
 1000000000)/\K (AV.jG 3 4 (List.map (fun(e0:Value×AV)=>e0.1) (iv (jY e1))) (List.map (fun(e0:Value×AV)=>e0.2) (iv (jY e1)))) [Obj.box 122 (AV.agg
 [AV.aq 1 0 e1.n,AV.nil]),Obj.rows 38 3 (dx e1.L) none]))):=by kernel_rfl
def P2(x:Re):List AV×List Dn.Obj:=([.ptr 0 0 [] 0, .int x.a],w5 x.n (dx x.L))
def DF(x:Re):Out (AV×List Dn.Obj):= .one (Sb (iJ x.n x.m x.L x.a),w5 x.n (dx x.L))
theorem cRz(κ:Kp):bu (Ro κ) 12 72 (aL P2 GX DF):=by
 refine aX ?_
 rintro⟨n,m,L,fs,a⟩ K ⟨hG,hb,h0,h1⟩ ho
 simp only at hG hb h0 h1
 refine Eq.mpr (yRz κ n (dx L) a K) ?_
 simp only[DF,Out.run,iJ] at ho
 have hS:=Sd.start hG h0
 have hle:=hG.le a
 have hmn:m<=(n+1)*m:=Nat.le_mul_of_pos_left m (Nat.succ_pos n)
 rw[Ey,gf,BC,an,an,aa2,aa1,aa1,aa1]
 refine⟨⟨h0,h1⟩,fun e=>⟨rfl,⟨n,m,L,fs,[],[],[]⟩,rfl,⟨hG,?_,hb⟩,?_⟩,by omega,rfl,⟨n,m,L,fs,L.at a,[],[]⟩,?_,⟨hG,hS,hb⟩,?_⟩
 ·have e:L.at a=[]:=List.eq_nil_of_length_eq_zero (Nat.eq_of_beq_eq_true e)
  have h2:=hS
  rw[e] at h2;exact h2
 ·have e:L.at a=[]:=List.eq_nil_of_length_eq_zero (Nat.eq_of_beq_eq_true e)
  rw[e] at ho
  simp only[tK,tx]
  exact ho
 ·simp only[List.append_nil,Nat.zero_add]
  rfl
 ·simp only[tK,tx]
  exact ho
def DI(sel:List Dn.Obj->Bool)(a b:dr):dr:=fun args st K=>bif sel st then a args st K else b args st K
theorem sg{sel:List Dn.Obj->Bool}{a b:dr}(ha:a.jf)(hb:b.jf):(DI sel a b).jf:=fun args st K K' hK h=>by
 unfold DI at h⊢
 cases hs:sel st<;>simp only[hs] at h⊢
 ·exact hb _ _ _ _ hK h
 ·exact ha _ _ _ _ hK h
theorem yQ{E:Env}{N f:Nat}{sel:List Dn.Obj->Bool}{a b:dr}(ha:bu E N f a)(hb:bu E N f b):bu E N f (DI sel a b):=fun args st K h=>by
 unfold DI at h
 cases hs:sel st<;>rw[hs] at h
 ·exact hb _ _ _ h
 ·exact ha _ _ _ h
def TK(st:List Dn.Obj):Bool:=Nat.beq st.length 3
noncomputable def PA(κ:Kp):Env:=(Ro κ).aw 72 (DI TK (aL O7 GX DV) (aL P2 GX DF))
theorem eRe(κ:Kp):aB (PA κ):=(eRl κ).aw (Zy κ) (yQ (cRe κ) (cRz κ))
theorem YV(κ:Kp):aj (PA κ):=(Zy κ).aw (sg aJ aJ)
def Qp:List Nat:=114::Oe
noncomputable abbrev Sv(κ:Kp)(ds rs:List AV):Dn.Obj:=
 .loop (gh (Pr κ).toProgram 37 3 .ready none (fV (bF 63) [(0,gN ds rs),(1, .ptr 0 0 [] 0),(2, .lit (.pointer none)),(3, .ptr 3 0 [] 0),(7, .ptr 0 0 [0] 0),(8, .ad 61 ds),(9, .int ds.length),(10, .aq 1 0 ds.length),(11, .agg [.aq 1 0 ds.length, .nil]),(12, .ptr 2 0 [] 0),(13,gN ds rs),(14, .bL 114 [.ptr 4 0 [] 0])]))
noncomputable abbrev pk(κ:Kp)(ds rs:List AV):List Dn.Obj:=[.box 25 (gN ds rs),LB (List.replicate ds.length []), .box 122 (.agg [.aq 1 0 ds.length, .nil]), .box 87 (.ptr 2 0 [] 0), .box 25 (gN ds rs),Sv κ ds rs]
noncomputable abbrev BP(κ:Kp)(ds rs:List AV)(ls:List (List Value)):List Dn.Obj:=[.box 25 (gN ds rs),LB ls, .box 122 (.agg [.aq 1 0 ds.length, .nil]), .box 87 (.ptr 2 0 [] 0), .dead,Sv κ ds rs]
theorem sGf(κ:Kp)(ds rs:List AV)(Q:List Dn.Obj->Prop):(tidy (Pr κ).toProgram 6 (dT (pk κ ds rs) (cy (pk κ ds rs) [.ptr 4 0 [] 0])) Q)=(
 Q [Obj.box 25 (AV.agg [AV.ad 61 ds,AV.ad 66 rs]),Obj.rows 38 3 (List.replicate ds.length []) none,Obj.box 122 (AV.agg [AV.aq 1 0 ds.length,AV.nil]),Obj.box
 87 (AV.ptr 2 0 [] 0),Obj.dead,Dn.Obj.loop (gh Tryz.prog 37 3 LoopState.ready none (fV (bF 63) [(0,AV.agg [AV.ad 61 ds,AV.ad 66 rs]),(1,AV.ptr 0 0 [] 0),
 (2,AV.lit (Value.pointer none)),(3,AV.ptr 3 0 [] 0),(7,AV.ptr 0 0 [0] 0),(8,AV.ad 61 ds),(9,AV.int (↑(ds.length):Int)),(10,AV.aq 1 0 ds.length),
 (11,AV.agg [AV.aq 1 0 ds.length,AV.nil]),(12,AV.ptr 2 0 [] 0),(13,AV.agg [AV.ad 61 ds,AV.ad 66 rs]),(14,AV.bL 114 [AV.ptr 4 0 [] 0])]))]):=by kernel_rfl
theorem rGf(κ:Kp)(ds rs:List AV)(ls:List (List Value))(a b:Int)(Q:List Dn.Obj->Prop)(K2:List Dn.Obj->Prop):(gT (vc (PA κ) 12) 5 [.int a, .int b] (BP κ ds rs ls) (fun r st''=>match r with| .lit (.bool true)=>tidy (Pr κ).toProgram 6 st'' Q| .lit (.bool false)=>K2 st''|_=>False))=(
 letI z2:=gh Tryz.prog 37 3 LoopState.ready none (fV (bF 63) [(0,AV.agg [AV.ad 61 ds,AV.ad 66 rs]),(1,AV.ptr 0 0 [] 0),(2,AV.lit (Value.pointer none)),
  (3,AV.ptr 3 0 [] 0),(7,AV.ptr 0 0 [0] 0),(8,AV.ad 61 ds),(9,AV.int (↑(ds.length):Int)),(10,AV.aq 1 0 ds.length),(11,AV.agg [AV.aq 1 0 ds.length,
  AV.nil]),(12,AV.ptr 2 0 [] 0),(13,AV.agg [AV.ad 61 ds,AV.ad 66 rs]),(14,AV.bL 114 [AV.ptr 4 0 [] 0])])
 letI z4:=decide ((0:Int)<=a)&&decide (a<(↑(ds.length):Int))
 letI z5:=bW ls a.toNat
 letI z3:=decide (List.length z5=List.length z5)&&decide ((List.length z5+1+1)*9<=70368744177664)
 letI z6:=Dn.jC ls a.toNat (bW ls a.toNat++[Value.int IntKind.i64 b])
 letI z7:=List.map AV.lit (List.take (List.length z5) z5)
 letI z8:=AV.agg [AV.aq 1 0 ds.length,AV.nil]
 letI z9:=AV.agg [AV.ad 61 ds,AV.ad 66 rs]
 letI z1:=a7 z4 (a7 (decide (a.toNat=a.toNat)&&decide (a.toNat=a.toNat)&&decide (List.length z5+1=List.length (bW z6 a.toNat))) (Q [Obj.box 25 z9,
  Obj.rows 38 3 z6 none,Obj.box 122 z8,Obj.box 87 (AV.ptr 2 0 [] 0),Obj.dead,Dn.Obj.loop z2]))
 a7 z4 (a7 (decide (List.length z7<=9223372036854775807)) (aD (!Sf b z7) (a7 z4 (a7 z3 z1/\a7 z3 z1)) (Q [Obj.box 25 z9,Obj.rows 38 3 ls none,Obj.box 122 z8,
 Obj.box 87 (AV.ptr 2 0 [] 0),Obj.dead,Dn.Obj.loop z2])))):=by kernel_rfl
theorem kGf(κ:Kp)(ds rs xs:List AV):(AV.cD 0::fS (jH (cy (pk κ ds rs) [.ptr 4 0 [] 0])) [.ptr 4 0 [] 0],Obj.ext (some xs)::gq (jH (cy (pk κ ds rs) [.ptr 4 0 [] 0])) (gR (pk κ ds rs) (cy (pk κ ds rs) [.ptr 4 0 [] 0])))=([.cD 0, .ptr 1 0 [] 0],[.ext (some xs), .box 25 (gN ds rs)]):=by kernel_rfl
theorem oGf(κ:Kp)(ds rs:List AV):nB (pk κ ds rs) [.ptr 4 0 [] 0]=true:=by kernel_rfl
theorem BZ: ∀(L:Gr) (k:Nat) (x:List Int),Dn.jC (dx L) k (x.map gl)=dx (L.set k x)
 |[],k,x=>by cases k<;>rfl
 |_::_,0,x=>rfl
 |a::L,k+1,x=>by
  have ih:=BZ L k x
  simp only[dx,ac1,Dn.jC,List.set_cons_succ] at ih⊢
  rw[ih]
theorem Ox(n:Nat):dx (List.replicate n [])=List.replicate n []:=by simp[dx]
structure rX(ds rs:List AV):Prop where
 hd:ds.length<=60
 hr:rs.length<=200
 bs: ∀r,r∈rs->(ai (ae r 1)).length<=20
 ed:TZ ds rs
theorem GL(ds:List AV)(a:Int): ∀bl:List AV,(D2 ds a bl).length<=bl.length
 |[]=>Nat.le_refl _
 |l::bl=>by
  have ih:=GL ds a bl
  rw[D2]
  cases dy (toInt (ae l 0)) with
  |true=>rw[aa8];simp only[List.length_cons];omega
  |false=>rw[aa6];simp only[List.length_cons];omega
theorem zL(ds:List AV): ∀rs:List AV,(∀r,r∈rs->(ai (ae r 1)).length<=20)->(wS ds rs).length<=rs.length*20
 |[],_=>Nat.le_refl _
 |r::rs,h=>by
  have ih:=zL ds rs fun x hx=>h x (by simp[hx])
  have h1:=GL ds (bw (toStr (ae (ae r 0) 0)) ds) (ai (ae r 1))
  have h2:=h r (by simp)
  simp only[wS,List.flatMap_cons,ab9,List.length_cons,Zg] at ih h1⊢
  omega
noncomputable def Rv(κ:Kp):dB:=fun caps st K=>∃x:rr,(caps,st)=([AV.ptr 4 0 [] 0],pk κ x.1 x.2)/\rX x.1 x.2/\K (BP κ x.1 x.2 (dx (rn x.1.length (wS x.1 x.2))))
theorem Hq(κ:Kp):(Rv κ).jf:=by
 rintro caps st K K' hK ⟨a,h1,h2,h3⟩
 exact⟨a,h1,h2,hK _ h3⟩
theorem QP(κ:Kp)(args:List AV)(st:List Dn.Obj)(K:AV->List Dn.Obj->Prop)(h:aL Qw Ds I7 args st K):(PA κ).call 114 args st K:=h
theorem gfr(κ:Kp):ll (PA κ) 12 114 (Rv κ):=by
 rintro caps st K ⟨⟨ds,rs⟩,h1,hf,h5⟩
 obtain⟨rfl,rfl⟩:=Prod.mk.inj h1
 simp only at hf h5
 have hd:=hf.hd
 have hr:=hf.hr
 have hl:=zL ds rs hf.bs
 refine⟨AR (wS ds rs),fun items st'=>∃E1 E2,items=AR E2/\st'=BP κ ds rs (dx (rn ds.length E1))/\E1++E2=wS ds rs,⟨oGf κ ds rs,?_,?_,?_,?_⟩⟩
 ·refine QP κ _ _ _ ⟨(ds,rs),?_,⟨by simp only[aR];omega,by simp only[aR];omega,fun r hr=>?_⟩,fun st' h=>h⟩
  ·rw[kGf];rfl
  ·have:=hf.bs r hr;simp only[aR];omega
 ·rw[show(PA κ).P=Pr κ from rfl,show(pk κ ds rs).length=6 from rfl,sGf]
  refine⟨[],wS ds rs,rfl,?_,rfl⟩
  rw[rn,List.foldl_nil,Ox]
 ·rintro us rest st' ⟨E1,E2,e1,rfl,e3⟩
  cases E2 with
  |nil=>cases e1
  | cons e E2=>
   obtain⟨a,b⟩:=e
   obtain⟨hu,rfl⟩:=List.cons.inj e1
   obtain rfl:=AV.bh.inj hu
   rw[show(PA κ).P=Pr κ from rfl,show(pk κ ds rs).length=6 from rfl]
   refine Eq.mpr (rGf κ ds rs _ a b _ _) ?_
   have hab:=hf.ed (a,b) (by rw[←e3];simp)
   simp only at hab
   have hg:rn ds.length (E1++[(a,b)])=nG (rn ds.length E1) (a,b):=by simp[rn,List.foldl_append]
   have hlen:(rn ds.length E1).length=ds.length:=by unfold rn;rw[rE];simp
   have hle:((rn ds.length E1).at a).length<=E1.length:=by
    have:=Lm E1 (List.replicate ds.length []) a
    rw[DJ] at this
    simpa[rn] using this
   have hE:E1.length<=(wS ds rs).length:=by rw[←e3];simp
   have next: ∀st',st'=BP κ ds rs (dx (nG (rn ds.length E1) (a,b)))->∃F1 F2,AR E2=AR F2/\st'=BP κ ds rs (dx (rn ds.length F1))/\F1++F2=wS ds rs:=fun st' h=>⟨E1++[(a,b)],E2,rfl,by rw[hg,h],by rw[←e3];simp⟩
   rw[Ey,Dw,lY,show[Value.int IntKind.i64 b]=[b].map gl from rfl,←List.map_append,BZ]
   have e4:(bW (dx ((rn ds.length E1).set a.toNat ((rn ds.length E1).at a++[b]))) a.toNat).length=((rn ds.length E1).at a).length+1:=by
    rw[lY,Dg _ _ _ _ (by omega),if_pos rfl];simp
   rw[e4]
   simp only[an,ah,aa2,aa1,List.length_map,gf]
   refine⟨⟨by omega,by omega⟩,by omega,fun e=>⟨⟨by omega,by omega⟩,?_⟩,fun e=>next _ ?_⟩
   ·have e:((rn ds.length E1).at a).contains b=false:=by simpa using e
    have e5:nG (rn ds.length E1) (a,b)=(rn ds.length E1).set a.toNat ((rn ds.length E1).at a++[b]):=by
     unfold nG;rw[e,aa6]
    rw[e5] at next
    exact⟨⟨⟨trivial,by omega⟩,⟨by omega,by omega⟩,⟨⟨trivial,trivial⟩,trivial⟩,next _ rfl⟩,⟨trivial,by omega⟩,⟨by omega,by omega⟩,⟨⟨trivial,trivial⟩,trivial⟩,next _ rfl⟩
   ·have e:((rn ds.length E1).at a).contains b=true:=by simpa using e
    unfold nG;rw[e,aa8]
 ·rintro st' ⟨E1,E2,e1,rfl,e3⟩
  obtain rfl:E2=[]:=by cases E2 with|nil=>rfl|cons _ _=>cases e1
  rw[List.append_nil] at e3
  rw[e3];exact h5
noncomputable def KV(κ:Kp):Env:=((PA κ).addRange 37 3 114 (Rv κ)).dv (fun f=>jk f Qp)
theorem eOr(κ:Kp):aB (KV κ):=((eRe κ).addRange (YV κ) (gfr κ)).dv _
theorem YI(κ:Kp):aj (KV κ):=((YV κ).addRange (Hq κ)).dv _
theorem xOa(κ:Kp)(N i:Nat)(ls:List (List Value))(fs:List AV)(I:Nat->S->Prop)(n:Nat)(K:Exit->S->Prop):(vc (KV κ) 12 37 none 0 (af (Pr κ).toProgram 37 8) (sp 63 [(3, .ptr 0 0 [] 0),(45, .int N),(46, .int i)] [.box 87 (.ptr 1 0 [] 0), .box 122 (.agg [.aq 2 0 N, .aq 3 0 fs.length]),LB ls, .row 89 fs]) (bJ (KV κ) 37 8 0 I n K))=(
 letI z1:=AV.ptr 1 0 [] 0
 letI z2:=AV.agg [AV.aq 2 0 N,AV.aq 3 0 fs.length]
 aD (decide ((↑i:Int)<(↑N:Int))) (∃(e2:Re),([AV.ptr 0 0 [] 0,AV.int (↑i:Int)],[Obj.box 122 (AV.agg [AV.aq 1 0 N,AV.aq 2 0 fs.length]),Obj.rows 38
 3 ls none,Obj.row 89 fs])=([AV.ptr 0 0 [] 0,AV.int e2.a],[Obj.box 122 (AV.agg [AV.aq 1 0 e2.n,AV.aq 2 0 e2.fs.length]),Obj.rows 38 3 (dx e2.L) none,
 Obj.row 89 e2.fs])/\(WG e2.n e2.m e2.L/\(e2.n+1)*e2.m<=1000000000/\(0:Int)<=e2.a/\e2.a<(↑(e2.n):Int))/\(Obj.box 87 z1=Obj.box 87 z1/\Obj.box
 122 (AV.agg [AV.aq 2 0 e2.n,AV.aq 3 0 e2.fs.length])=Obj.box 122 z2/\Obj.rows 38 3 (dx e2.L) none=Obj.rows 38 3 ls none/\True)/\a7 (decide ((fs.length+
 1+1)*9<=70368744177664)) (∃(e1:Nat),e1<n/\I e1 (sp 63 [(3,AV.ptr 0 0 [] 0),(45,AV.int (↑N:Int)),(46,AV.int (IntKind.wrap IntKind.i64 ((↑i:
 Int)+(1:Int))))] [Obj.box 87 z1,Obj.box 122 (AV.agg [AV.aq 2 0 e2.n,AV.aq 3 0 (fs.length+1)]),Obj.rows 38 3 (dx e2.L) none,Obj.row 89 (List.take
 fs.length e2.fs++[AV.jG 3 4 (List.map gl (iJ e2.n e2.m e2.L e2.a)) (List.map (fun(e0:Int)=>AV.bool true) (iJ e2.n e2.m e2.L e2.a))])]))) (K (Exit.exit 2)
 (sp 63 [(3,AV.ptr 0 0 [] 0)] [Obj.box 87 z1,Obj.box 122 z2,Obj.rows 38 3 ls none,Obj.row 89 fs]))):=by kernel_rfl
theorem xOb(κ:Kp)(N:Nat)(ls:List (List Value))(I:Nat->S->Prop)(n:Nat)(K:Exit->S->Prop):(vc (KV κ) 12 37 none 0 (af (Pr κ).toProgram 37 8) (sp 63 [(3, .ptr 0 0 [] 0),(45, .int N),(46, .int 0)] [.box 87 (.ptr 1 0 [] 0), .box 122 (.agg [.aq 2 0 N, .nil]),LB ls]) (bJ (KV κ) 37 8 0 I n K))=(
 letI z1:=AV.ptr 1 0 [] 0
 letI z2:=AV.agg [AV.aq 2 0 N,AV.nil]
 aD (decide ((0:Int)<(↑N:Int))) (∃(e2:Re),([AV.ptr 0 0 [] 0,AV.int 0],[Obj.box 122 (AV.agg [AV.aq 1 0 N,AV.nil]),Obj.rows 38 3 ls none])=([AV.ptr
 0 0 [] 0,AV.int e2.a],[Obj.box 122 (AV.agg [AV.aq 1 0 e2.n,AV.nil]),Obj.rows 38 3 (dx e2.L) none])/\(WG e2.n e2.m e2.L/\(e2.n+1)*e2.m<=1000000000/\
 (0:Int)<=e2.a/\e2.a<(↑(e2.n):Int))/\(Obj.box 87 z1=Obj.box 87 z1/\Obj.box 122 (AV.agg [AV.aq 2 0 e2.n,AV.nil])=Obj.box 122 z2/\Obj.rows 38 3 (dx
 e2.L) none=Obj.rows 38 3 ls none/\True)/\∃(e1:Nat),e1<n/\I e1 (sp 63 [(3,AV.ptr 0 0 [] 0),(45,AV.int (↑N:Int)),(46,AV.int 1)] [Obj.box 87 z1,
 Obj.box 122 (AV.agg [AV.aq 2 0 e2.n,AV.aq 3 0 1]),Obj.rows 38 3 (dx e2.L) none,Obj.row 89 [AV.jG 3 4 (List.map gl (iJ e2.n e2.m e2.L e2.a)) (List.map (fun
 (e0:Int)=>AV.bool true) (iJ e2.n e2.m e2.L e2.a))]])) (K (Exit.exit 2) (sp 63 [(3,AV.ptr 0 0 [] 0)] [Obj.box 87 z1,Obj.box 122 z2,Obj.rows 38 3 ls
 none]))):=by kernel_rfl
def br(n m:Nat)(L:Gr)(k:Nat):List AV:=(List.range k).map fun(a:Nat)=>Sb (iJ n m L a)
theorem kR(n m:Nat)(L:Gr)(k:Nat):(br n m L k).length=k:=by simp[br]
theorem IV(n m:Nat)(L:Gr)(k:Nat):br n m L (k+1)=br n m L k++[Sb (iJ n m L k)]:=by
 simp[br,List.range_succ]
structure V7 where
 n:Nat
 m:Nat
 L:Gr
 i:Nat
abbrev Ry(n m:Nat)(L:Gr):Nat->List Dn.Obj
 |0=>[.box 87 (.ptr 1 0 [] 0), .box 122 (.agg [.aq 2 0 n, .nil]),LB (dx L)]
 |k+1=>[.box 87 (.ptr 1 0 [] 0), .box 122 (.agg [.aq 2 0 n, .aq 3 0 (br n m L (k+1)).length]),LB (dx L), .row 89 (br n m L (k+1))]
abbrev N4(x:V7):S:=sp 63 [(3, .ptr 0 0 [] 0),(45, .int x.n),(46, .int x.i)] (Ry x.n x.m x.L x.i)
def Lo(x:V7):Prop:=WG x.n x.m x.L/\(x.n+1)*x.m<=1000000000/\x.i<=x.n/\x.n<=60
def PL(x:V7):Out (Exit×S):= .aD (Nat.beq x.n 0)
 (.one (.exit 2,sp 63 [(3, .ptr 0 0 [] 0)] [.box 87 (.ptr 1 0 [] 0), .box 122 (.agg [.aq 2 0 x.n, .nil]),LB (dx x.L)]))
 (.one (.exit 2,sp 63 [(3, .ptr 0 0 [] 0)] [.box 87 (.ptr 1 0 [] 0), .box 122 (.agg [.aq 2 0 x.n, .aq 3 0 (br x.n x.m x.L x.n).length]),LB (dx x.L), .row 89 (br x.n x.m x.L x.n)]))
theorem lOa(κ:Kp):bj (KV κ) 12 37 8 (aO 0 N4 Lo PL):=by
 refine aK (fun x=>x.n - x.i) ?_
 rintro⟨n,m,L,i⟩ K ⟨hG,hb,hi,hn⟩ ho
 simp only at hG hb hi hn
 rw[show(KV κ).P=Pr κ from rfl]
 cases i with
 | zero=>
  refine Eq.mpr (xOb κ n (dx L) _ _ K) ?_
  rw[ah,aa1,aa3]
  refine⟨fun h=>⟨⟨n,m,L,[],0⟩,rfl,⟨hG,hb,by simp only;omega,h⟩,⟨rfl,rfl,rfl,trivial⟩,_,?_,⟨n,m,L,1⟩,rfl,⟨hG,hb,?_,hn⟩,rfl,ho⟩,fun h=>?_⟩
  ·simp only;omega
  ·simp only;omega
  ·obtain rfl:n=0:=by omega
   exact ho
 | succ k=>
  refine Eq.mpr (xOa κ n (k+1) (dx L) (br n m L (k+1)) _ _ K) ?_
  rw[ah,aa1,aa3]
  refine⟨fun h=>⟨⟨n,m,L,br n m L (k+1),((k+1:Nat):Int)⟩,rfl,⟨hG,hb,by simp only;omega,h⟩,⟨rfl,rfl,rfl,trivial⟩,?_⟩,fun h=>?_⟩
  ·have e:sp 63 [(3, .ptr 0 0 [] 0),(45, .int n),(46, .int (((k+1:Nat):Int)+1))] [.box 87 (.ptr 1 0 [] 0), .box 122 (.agg [.aq 2 0 n, .aq 3 0 ((br n m L (k+1)).length+1)]),LB (dx L), .row 89 (List.take (br n m L (k+1)).length (br n m L (k+1))++[Sb (iJ n m L ((k+1:Nat):Int))])]=N4 ⟨n,m,L,k+2⟩:=by
    rw[List.take_length,←IV]
    simp only[N4,Ry,kR]
    rfl
   rw[an,aa1,aV (n:=((k+1:Nat):Int)+1) (by omega) (by omega)]
   refine⟨by rw[kR];omega,_,?_,⟨n,m,L,k+2⟩,e,⟨hG,hb,?_,hn⟩,rfl,ho⟩
   ·simp only;omega
   ·simp only;omega
  ·obtain rfl:n=k+1:=by omega
   exact ho
noncomputable def T8(κ:Kp):Env:=(KV κ).ak 37 8 (aO 0 N4 Lo PL)
theorem eOa(κ:Kp):aB (T8 κ):=(eOr κ).ak (YI κ) (lOa κ)
theorem Zx(κ:Kp):aj (T8 κ):=(YI κ).ak aG
theorem yOg(κ:Kp)(ds rs:List AV)(K:AV->List Dn.Obj->Prop):(ba (T8 κ) 12 37 [gN ds rs] [] K)=(
 letI z1:=Int.toNat (↑(ds.length):Int)
 letI z2:=AV.agg [AV.ad 61 ds,AV.ad 66 rs]
 letI z3:=Pg.toProgram (Env.P (KV κ))
 a7 (true&&decide ((↑(ds.length):Int)<=(↑(ds.length):Int))&&decide ((Int.toNat (↑(ds.length):Int)+1)*25<=70368744177664)&&true) (∃(e1:rr),
 ([AV.ptr 4 0 [] 0],[Obj.box 25 z2,Obj.rows 38 3 (List.replicate z1 []) none,Obj.box 122 (AV.agg [AV.aq 1 0 z1,AV.nil]),Obj.box 87 (AV.ptr 2 0 [] 0),
 Obj.box 25 z2,Dn.Obj.loop (gh Tryz.prog 37 3 LoopState.ready none (fV (bF 63) [(0,AV.agg [AV.ad 61 ds,AV.ad 66 rs]),(1,AV.ptr 0 0 [] 0),(2,AV.lit
 (Value.pointer none)),(3,AV.ptr 3 0 [] 0),(7,AV.ptr 0 0 [0] 0),(8,AV.ad 61 ds),(9,AV.int (↑(ds.length):Int)),(10,AV.aq 1 0 z1),(11,AV.agg [AV.aq 1
 0 z1,AV.nil]),(12,AV.ptr 2 0 [] 0),(13,AV.agg [AV.ad 61 ds,AV.ad 66 rs]),(14,AV.bL 114 [AV.ptr 4 0 [] 0])]))])=([AV.ptr 4 0 [] 0],[Obj.box 25 (AV.agg
 [AV.ad 61 e1.1,AV.ad 66 e1.2]),Obj.rows 38 3 (List.replicate e1.1.length []) none,Obj.box 122 (AV.agg [AV.aq 1 0 e1.1.length,AV.nil]),Obj.box 87 (AV.ptr 2
 0 [] 0),Obj.box 25 (AV.agg [AV.ad 61 e1.1,AV.ad 66 e1.2]),Dn.Obj.loop (gh Tryz.prog 37 3 LoopState.ready none (fV (bF 63) [(0,AV.agg [AV.ad 61 e1.1,AV.ad
 66 e1.2]),(1,AV.ptr 0 0 [] 0),(2,AV.lit (Value.pointer none)),(3,AV.ptr 3 0 [] 0),(7,AV.ptr 0 0 [0] 0),(8,AV.ad 61 e1.1),(9,AV.int (↑(e1.1.length):
 Int)),(10,AV.aq 1 0 e1.1.length),(11,AV.agg [AV.aq 1 0 e1.1.length,AV.nil]),(12,AV.ptr 2 0 [] 0),(13,AV.agg [AV.ad 61 e1.1,AV.ad 66 e1.2]),(14,AV.bL
 114 [AV.ptr 4 0 [] 0])]))])/\rX e1.1 e1.2/\af z3 37 8=af z3 37 8/\∃(e0:V7),sp 63 [(3,AV.ptr 0 0 [] 0),(45,AV.int (↑(e1.1.length):Int)),(46,
 AV.int 0)] [Obj.box 87 (AV.ptr 1 0 [] 0),Obj.box 122 (AV.agg [AV.aq 2 0 e1.1.length,AV.nil]),Obj.rows 38 3 (dx (rn e1.1.length (wS e1.1 e1.2))) none]=sp 63
 [(3,AV.ptr 0 0 [] 0),(45,AV.int (↑(e0.n):Int)),(46,AV.int (↑(e0.i):Int))] (Ry e0.n e0.m e0.L e0.i)/\(WG e0.n e0.m e0.L/\(e0.n+1)*e0.m<=
 1000000000/\e0.i<=e0.n/\e0.n<=60)/\aD (Nat.beq e0.n 0) (K (AV.ptr 0 0 [] 0) [Obj.box 122 (AV.agg [AV.aq 1 0 e0.n,AV.nil]),Obj.rows 38 3 (dx e0.L) none])
 (K (AV.ptr 0 0 [] 0) [Obj.box 122 (AV.agg [AV.aq 1 0 e0.n,AV.aq 2 0 (List.length (br e0.n e0.m e0.L e0.n))]),Obj.rows 38 3 (dx e0.L) none,Obj.row 89 (br e0.n
 e0.m e0.L e0.n)]))):=by kernel_rfl
def nv(ds rs:List AV):Gr:=rn ds.length (wS ds rs)
def iR(ds rs:List AV):Nat:=(wS ds rs).length
def MI(x:rr):List AV×List Dn.Obj:=([gN x.1 x.2],[])
def Jj(x:rr):Out (AV×List Dn.Obj):= .aD (Nat.beq x.1.length 0)
 (.one (.ptr 0 0 [] 0,w5 x.1.length (dx (nv x.1 x.2))))
 (.one (.ptr 0 0 [] 0,tj x.1.length (dx (nv x.1 x.2)) (br x.1.length (iR x.1 x.2) (nv x.1 x.2) x.1.length)))
theorem rX.le{ds rs:List AV}(h:rX ds rs):(ds.length+1)*iR ds rs<=1000000000:=by
 have h1:=h.hd
 have h2:=h.hr
 have h3:=zL ds rs h.bs
 refine Nat.le_trans (Nat.mul_le_mul (show ds.length+1<=61 by omega) (show iR ds rs<=4000 by unfold iR;omega)) (by omega)
theorem rX.wg{ds rs:List AV}(h:rX ds rs):WG ds.length (iR ds rs) (nv ds rs):=Qz h.ed
theorem cOg(κ:Kp):bu (T8 κ) 12 37 (aL MI (fun x=>rX x.1 x.2) Jj):=by
 refine aX ?_
 rintro⟨ds,rs⟩ K hf ho
 simp only at hf
 refine Eq.mpr (yOg κ ds rs K) ?_
 have hd:=hf.hd
 simp only[Jj,Out.run] at ho
 simp only[an,aa2,aa1,Int.toNat_natCast]
 exact⟨⟨⟨⟨trivial,by omega⟩,by omega⟩,trivial⟩,(ds,rs),rfl,hf,trivial,⟨ds.length,iR ds rs,nv ds rs,0⟩,rfl,⟨hf.wg,hf.le,Nat.zero_le _,hd⟩,ho⟩
noncomputable def VC(κ:Kp):Env:=(T8 κ).aw 37 (aL MI (fun x=>rX x.1 x.2) Jj)
theorem eOf(κ:Kp):aB (VC κ):=(eOa κ).aw (Zx κ) (cOg κ)
theorem ZO(κ:Kp):aj (VC κ):=(Zx κ).aw aJ
end Go.Proofs.YthaiinlfnommnaaGreatDoor
