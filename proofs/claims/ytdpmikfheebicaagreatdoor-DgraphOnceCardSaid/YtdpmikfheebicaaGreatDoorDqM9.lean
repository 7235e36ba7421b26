import Derived.Test.YtdpmikfheebicaaGreatDoorDqM1
import Derived.Test.YtdpmikfheebicaaGreatDoorDqM8
namespace Go.Rl
open Go Go.Dn
abbrev Gr:=List (List Int)
def Gr.at(L:Gr)(a:Int):List Int:=L.getD a.toNat []
def mG(L:Gr)(e:Int×Int):Gr:=bif (L.at e.1).contains e.2 then L else L.set e.1.toNat (L.at e.1++[e.2])
def qD(n:Nat)(E:List (Int×Int)):Gr:=E.foldl mG (List.replicate n [])
theorem zt(L:Gr)(e:Int×Int):(mG L e).length=L.length:=by
 unfold mG;cases(L.at e.1).contains e.2<;>simp
theorem qQ: ∀(E:List (Int×Int)) (L:Gr),(E.foldl mG L).length=L.length
 |[],_=>rfl
 |e::E,L=>by rw[List.foldl_cons,qQ E,zt]
theorem Cu(L:Gr)(a b:Int)(x:List Int)(ha:a.toNat<L.length):Gr.at (L.set a.toNat x) b=if a.toNat=b.toNat then x else L.at b:=by
 unfold Gr.at
 rw[List.getD_eq_getElem?_getD,List.getElem?_set]
 by_cases h:a.toNat=b.toNat
 ·rw[if_pos h,if_pos h,if_pos ha];rfl
 ·rw[if_neg h,if_neg h];rfl
theorem H0(L:Gr)(e:Int×Int)(he:0<=e.1/\e.1.toNat<L.length)(a b:Int)(h0:0<=a):b∈(mG L e).at a↔b∈L.at a\/(a,b)=e:=by
 obtain⟨c,d⟩:=e
 simp only at he
 unfold mG
 cases h:(L.at c).contains d with
 |true=>
  rw[aa7]
  refine⟨.inl,?_⟩
  rintro(h1|h1)
  ·exact h1
  ·cases h1;simpa using h
 | false=>
  rw[aa5,Cu L c a _ he.2]
  by_cases hc:c.toNat=a.toNat
  ·have:c=a:=by omega
   subst this
   simp
  ·rw[if_neg hc]
   refine⟨.inl,?_⟩
   rintro(h1|h1)
   ·exact h1
   ·cases h1;exact absurd rfl hc
theorem vU: ∀(E:List (Int×Int)) (L:Gr),(∀e,e∈E->0<=e.1/\e.1.toNat<L.length)->∀a b:Int,0<=a->(b∈Gr.at (E.foldl mG L) a↔b∈L.at a\/(a,b)∈E)
 |[],L,_,a,b,_=>by simp
 |e::E,L,h,a,b,h0=>by
  rw[List.foldl_cons,vU E (mG L e) (fun x hx=>by rw[zt];exact h x (by simp[hx])) a b h0,H0 L e (h e (by simp)) a b h0,ac1,or_assoc]
theorem HX: ∀(E:List (Int×Int)) (L:Gr) (a:Int),(Gr.at (E.foldl mG L) a).length<=(L.at a).length+E.length
 |[],L,a=>by simp
 | e ::E,L,a=>by
  rw[List.foldl_cons]
  refine Nat.le_trans (HX E (mG L e) a) ?_
  have:((mG L e).at a).length<=(L.at a).length+1:=by
   unfold mG
   cases(L.at e.1).contains e.2 with
   |true=>rw[aa7];omega
   | false=>
    rw[aa5]
    by_cases hl:e.1.toNat<L.length
    ·rw[Cu L e.1 a _ hl]
     by_cases hc:e.1.toNat=a.toNat
     ·rw[if_pos hc,ab8,List.length_singleton]
      have:L.at e.1=L.at a:=by unfold Gr.at;rw[hc]
      rw[this];omega
     ·rw[if_neg hc];omega
    ·rw[List.set_eq_of_length_le (by omega)];omega
  simp only[List.length_cons];omega
theorem BR(n:Nat)(a:Int):Gr.at (List.replicate n []) a=[]:=by
 unfold Gr.at
 rw[List.getD_eq_getElem?_getD]
 by_cases h:a.toNat<n<;>simp[h]
structure WG(n m:Nat)(L:Gr):Prop where
 len:L.length=n
 le: ∀a,(L.at a).length<=m
 jO: ∀a,0<=a->∀b,b∈L.at a->0<=b/\b<n
theorem xX{n:Nat}{E:List (Int×Int)}(h: ∀e,e∈E->(0<=e.1/\e.1<n)/\0<=e.2/\e.2<n){a b:Int}(h0:0<=a):b∈(qD n E).at a↔(a,b)∈E:=by
 unfold qD
 rw[vU E _ (fun e he=>⟨(h e he).1.1,by have:=(h e he).1;simp;omega⟩) a b h0,BR]
 simp
theorem N5{n:Nat}{E:List (Int×Int)}(h: ∀e,e∈E->(0<=e.1/\e.1<n)/\0<=e.2/\e.2<n):WG n E.length (qD n E):=by
 refine⟨by unfold qD;rw[qQ];simp,fun a=>?_,fun a h0 b hb=>?_⟩
 ·have:=HX E (List.replicate n []) a
  rw[BR] at this
  simpa[qD] using this
 ·exact(h _ ((xX h h0).1 hb)).2
inductive sg (L:Gr):Int->Int->Prop
 |refl (a:Int):sg L a a
 |step {a b c:Int} (h:b∈L.at a) (k:sg L b c):sg L a c
def Rc(L:Gr)(a b:Int):Prop:=∃c,c∈L.at a/\sg L c b
theorem sg.trans{L:Gr}{a b c:Int}(h:sg L a b)(k:sg L b c):sg L a c:=by
 induction h with
 |refl=>exact k
 |step h _ ih=>exact .step h (ih k)
theorem sg.rc{L:Gr}{a b:Int}(h:sg L a b):a=b\/Rc L a b:=by
 cases h with
 |refl=>exact .inl rfl
 |step h k=>exact .inr ⟨_,h,k⟩
theorem Rc.trans{L:Gr}{a b c:Int}(h:Rc L a b)(k:Rc L b c):Rc L a c:=by
 obtain⟨d,h1,h2⟩:=h
 obtain⟨e,k1,k2⟩:=k
 exact⟨d,h1,h2.trans (.step k1 k2)⟩
theorem Rc.step{L:Gr}{a b c:Int}(h:Rc L a b)(k:c∈L.at b):Rc L a c:=h.trans ⟨c,k, .refl c⟩
theorem Rc.mono{L M:Gr}(h: ∀a b,0<=a->b∈L.at a->b∈M.at a/\0<=b){a b:Int}(h0:0<=a)(k:Rc L a b):Rc M a b:=by
 obtain⟨c,h1,h2⟩:=k
 have st: ∀{x y:Int},sg L x y->0<=x->sg M x y:=fun{x y} k=>by
  induction k with
  |refl=>intro _;exact .refl _
  |step h' _ ih=>intro hx;exact .step (h _ _ hx h').1 (ih (h _ _ hx h').2)
 exact⟨c,(h a c h0 h1).1,st h2 (h a c h0 h1).2⟩
theorem Rc.jO{n m:Nat}{L:Gr}(hG:WG n m L){a b:Int}(h0:0<=a)(h:Rc L a b):0<=b/\b<n:=by
 obtain⟨c,h1,h2⟩:=h
 have:=hG.jO a h0 c h1
 clear h1
 induction h2 with
 |refl=>exact this
 |step h _ ih=>exact ih (hG.jO _ this.1 _ h)
def dU(l:List Int):Int:=l.getLastD 0
def FD(L:Gr):Nat->List Int->List Int->List Int
 |0,_,met=>met
 |_+1,[],met=>met
 |f+1,t::todo,met=>bif met.contains (dU (t::todo)) then FD L f (t::todo).dropLast met else FD L f ((t::todo).dropLast++L.at (dU (t::todo))) (met++[dU (t::todo)])
def eQ(n:Nat):List Int:=(List.range n).map fun(k:Nat)=>(k:Int)
theorem dK{n:Nat}{a:Int}:a∈eQ n↔0<=a/\a<n:=by
 simp only[eQ,List.mem_map,List.mem_range]
 refine⟨?_,fun h=>⟨a.toNat,by omega,by omega⟩⟩
 rintro⟨k,h,rfl⟩
 omega
theorem kR{α:Type}{p q:α->Bool}: ∀{l:List α},(∀x,x∈l->p x=true->q x=true)->(∃x,x∈l/\q x=true/\p x=false)->l.countP p<l.countP q
 |[],_,h=>by obtain⟨x,hx,_⟩:=h;cases hx
 | a::l,h,⟨x,hx,h1,h2⟩=>by
  have hm:=List.countP_mono_left (l:=l) (p:=p) (q:=q) fun y hy=>h y (by simp[hy])
  simp only[List.countP_cons]
  rcases List.mem_cons.1 hx with rfl|hx
  ·rw[h1,h2];simp;omega
  ·have ih:=kR (l:=l) (fun y hy=>h y (by simp[hy])) ⟨x,hx,h1,h2⟩
   cases hp:p a with
   |true=>rw[h a (by simp) hp];simp;omega
   |false=>cases q a<;>simp<;>omega
def sn(n:Nat)(met:List Int):Nat:=(eQ n).countP fun x=>!met.contains x
theorem yt(n:Nat)(met:List Int):sn n met<=n:=by
 have:=List.countP_le_length (l:=eQ n) (p:=fun x=>!met.contains x)
 simpa[sn,eQ] using this
theorem Eg{n:Nat}{met:List Int}{b:Int}(hb:0<=b/\b<n)(hn:met.contains b=false)(l:List Int)(hl:b∈l):sn n (met++l)<sn n met:=by
 refine kR (fun x _ h=>?_) ⟨b,dK.2 hb,by simpa using hn,by simp[hl]⟩
 simp only[Bool.not_eq_true',List.contains_eq_mem,aa2,List.mem_append,not_or] at h⊢
 exact h.1
def ms(n m:Nat)(todo met:List Int):Nat:=sn n met*(m+1)+todo.length
theorem mH{t:Int}{todo:List Int}:dU (t::todo)∈t::todo:=by
 unfold dU
 rw[List.getLastD_cons]
 cases todo with
 |nil=>simp
 |cons a l=>rw[List.getLastD_eq_getLast?,List.getLast?_eq_some_getLast (by simp)];simp
theorem wI{t:Int}{todo:List Int}:(t::todo).dropLast++[dU (t::todo)]=t::todo:=by
 have:dU (t::todo)=(t::todo).getLast (by simp):=by
  unfold dU
  rw[List.getLastD_eq_getLast?,List.getLast?_eq_some_getLast (by simp)];rfl
 rw[this];exact List.dropLast_concat_getLast (by simp)
theorem yG(n m:Nat)(t:Int)(todo met:List Int):ms n m (t::todo).dropLast met<ms n m (t::todo) met:=by
 unfold ms
 simp
theorem yN{n m:Nat}{L:Gr}(hG:WG n m L)(t:Int)(todo met:List Int)(hb:0<=dU (t::todo)/\dU (t::todo)<n)(hn:met.contains (dU (t::todo))=false):
  ms n m ((t::todo).dropLast++L.at (dU (t::todo))) (met++[dU (t::todo)])<ms n m (t::todo) met:=by
 unfold ms
 have h1:=Eg hb hn [dU (t::todo)] (by simp)
 have h2:=hG.le (dU (t::todo))
 have h3:=Nat.mul_le_mul_right (m+1) (show sn n (met++[dU (t::todo)])+1<=sn n met from h1)
 rw[Nat.add_mul] at h3
 simp only[ab8,List.length_dropLast,List.length_cons]
 omega
structure Sd(n m:Nat)(todo met:List Int):Prop where
 ht: ∀x,x∈todo->0<=x/\x<n
 hm: ∀x,x∈met->0<=x/\x<n
 le:todo.length+sn n met*m<=(n+1)*m
theorem Sd.pop{n m:Nat}{t:Int}{todo met:List Int}(h:Sd n m (t::todo) met):Sd n m (t::todo).dropLast met:=
 ⟨fun x hx=>h.ht x (List.dropLast_subset _ hx),h.hm,by have:=h.le;simp only[List.length_dropLast,List.length_cons] at this⊢;omega⟩
theorem Sd.add{n m:Nat}{L:Gr}(hG:WG n m L){t:Int}{todo met:List Int}(h:Sd n m (t::todo) met)(hn:met.contains (dU (t::todo))=false):Sd n m ((t::todo).dropLast++L.at (dU (t::todo))) (met++[dU (t::todo)]):=by
 have hb:=h.ht _ mH
 refine⟨fun x hx=>?_,fun x hx=>?_,?_⟩
 ·rcases List.mem_append.1 hx with hx|hx
  ·exact h.ht x (List.dropLast_subset _ hx)
  ·exact hG.jO _ hb.1 x hx
 ·rcases List.mem_append.1 hx with hx|hx
  ·exact h.hm x hx
  ·rw[List.mem_singleton] at hx;rw[hx];exact hb
 ·have h1:=Eg hb hn [dU (t::todo)] (by simp)
  have h2:=hG.le (dU (t::todo))
  have h3:=Nat.mul_le_mul_right m (show sn n (met++[dU (t::todo)])+1<=sn n met from h1)
  rw[Nat.add_mul] at h3
  have h4:=h.le
  simp only[ab8,List.length_dropLast,List.length_cons] at h4⊢
  omega
theorem Sd.start{n m:Nat}{L:Gr}(hG:WG n m L){a:Int}(h0:0<=a):Sd n m (L.at a) []:=
 ⟨fun x hx=>hG.jO a h0 x hx,fun x hx=>(nomatch hx),by
  have h1:=hG.le a
  have h2:=Nat.mul_le_mul_right m (yt n [])
  rw[Nat.add_mul];omega⟩
theorem pV{n m:Nat}{L:Gr}(hG:WG n m L): ∀(f g:Nat) (todo met:List Int),Sd n m todo met->ms n m todo met<=f->ms n m todo met<=g->FD L f todo met=FD L g todo met
 |0,g,todo,met,_,h,_=>by
  have:todo=[]:=by unfold ms at h;exact List.eq_nil_of_length_eq_zero (by omega)
  subst this
  cases g<;>rfl
 |f+1,0,todo,met,_,_,h=>by
  have:todo=[]:=by unfold ms at h;exact List.eq_nil_of_length_eq_zero (by omega)
  subst this;rfl
 |f+1,g+1,[],met,_,_,_=>rfl
 | f+1,g+1,t::todo,met,hs,h1,h2=>by
  rw[FD,FD]
  cases hc:met.contains (dU (t::todo)) with
  |true=>
   have:=yG n m t todo met
   rw[aa7,aa7]
   exact pV hG f g _ _ hs.pop (by omega) (by omega)
  |false=>
   have:=yN hG t todo met (hs.ht _ mH) hc
   rw[aa5,aa5]
   exact pV hG f g _ _ (hs.add hG hc) (by omega) (by omega)
def tj(n m:Nat)(L:Gr)(todo met:List Int):List Int:=FD L (ms n m todo met) todo met
theorem Bf(n m:Nat)(L:Gr)(met:List Int):tj n m L [] met=met:=by
 unfold tj;cases ms n m [] met<;>rfl
theorem FV{n m:Nat}{L:Gr}(hG:WG n m L){t:Int}{todo met:List Int}(hs:Sd n m (t::todo) met):
  tj n m L (t::todo) met=bif met.contains (dU (t::todo)) then tj n m L (t::todo).dropLast met else tj n m L ((t::todo).dropLast++L.at (dU (t::todo))) (met++[dU (t::todo)]):=by
 have e:ms n m (t::todo) met=(ms n m (t::todo) met - 1)+1:=by unfold ms;simp only[List.length_cons];omega
 unfold tj
 rw[e,FD]
 cases hc:met.contains (dU (t::todo)) with
 |true=>
  have:=yG n m t todo met
  rw[aa7,aa7]
  exact pV hG _ _ _ _ hs.pop (by omega) (Nat.le_refl _)
 |false=>
  have:=yN hG t todo met (hs.ht _ mH) hc
  rw[aa5,aa5]
  exact pV hG _ _ _ _ (hs.add hG hc) (by omega) (Nat.le_refl _)
theorem xV{n m:Nat}{L:Gr}(hG:WG n m L)(P:Int->Prop)(hP: ∀x y,P x->y∈L.at x->P y): ∀(f:Nat) (todo met:List Int),Sd n m todo met->ms n m todo met<=f->(∀x,x∈todo\/x∈met->P x)->(∀x,x∈met->∀y,y∈L.at x->y∈met\/y∈todo)->
  (∀x,x∈FD L f todo met->P x)/\(∀x,x∈todo\/x∈met->x∈FD L f todo met)/\(∀x,x∈FD L f todo met->∀y,y∈L.at x->y∈FD L f todo met)
 |0,todo,met,_,h,h1,h2=>by
  have:todo=[]:=by unfold ms at h;exact List.eq_nil_of_length_eq_zero (by omega)
  subst this
  exact⟨fun x hx=>h1 x (.inr hx),fun x hx=>hx.resolve_left (by simp),fun x hx y hy=>(h2 x hx y hy).resolve_right (by simp)⟩
 |f+1,[],met,_,_,h1,h2=>⟨fun x hx=>h1 x (.inr hx),fun x hx=>hx.resolve_left (by simp),fun x hx y hy=>(h2 x hx y hy).resolve_right (by simp)⟩
 | f +1,t::todo,met,hs,h,h1,h2=>by
  have hd: ∀x,x∈t::todo->x∈(t::todo).dropLast\/x=dU (t::todo):=fun x hx=>by
   rw[←wI (t:=t) (todo:=todo)] at hx
   simpa using hx
  rw[FD]
  cases hc:met.contains (dU (t::todo)) with
  | true=>
   have hm:dU (t::todo)∈met:=by simpa using hc
   have:=yG n m t todo met
   rw[aa7]
   obtain⟨g1,g2,g3⟩:=xV hG P hP f (t::todo).dropLast met hs.pop (by omega) (fun x hx=>h1 x (hx.imp (fun h=>List.dropLast_subset _ h) id)) (fun x hx y hy=>by
    rcases h2 x hx y hy with h|h
    ·exact .inl h
    ·rcases hd y h with h|rfl
     ·exact .inr h
     ·exact .inl hm)
   refine⟨g1,fun x hx=>?_,g3⟩
   rcases hx with hx|hx
   ·rcases hd x hx with h|rfl
    ·exact g2 x (.inl h)
    ·exact g2 _ (.inr hm)
   ·exact g2 x (.inr hx)
  | false=>
   have:=yN hG t todo met (hs.ht _ mH) hc
   have hl:=h1 _ (.inl (mH (t:=t) (todo:=todo)))
   rw[aa5]
   obtain⟨g1,g2,g3⟩:=xV hG P hP f _ _ (hs.add hG hc) (by omega) (fun x hx=>by
    rcases hx with hx|hx
    ·rcases List.mem_append.1 hx with hx|hx
     ·exact h1 x (.inl (List.dropLast_subset _ hx))
     ·exact hP _ _ hl hx
    ·rcases List.mem_append.1 hx with hx|hx
     ·exact h1 x (.inr hx)
     ·rw[List.mem_singleton] at hx;rw[hx];exact hl) (fun x hx y hy=>by
    rcases List.mem_append.1 hx with hx|hx
    ·rcases h2 x hx y hy with h|h
     ·exact .inl (ab4 _ h)
     ·rcases hd y h with h|rfl
      ·exact .inr (ab4 _ h)
      ·exact .inl (by simp)
    ·rw[List.mem_singleton] at hx;subst hx
     exact .inr (ab3 _ hy))
   refine⟨g1,fun x hx=>?_,g3⟩
   rcases hx with hx|hx
   ·rcases hd x hx with h|rfl
    ·exact g2 x (.inl (ab4 _ h))
    ·exact g2 _ (.inr (by simp))
   ·exact g2 x (.inr (ab4 _ hx))
def gp(n m:Nat)(L:Gr)(a:Int):List Int:=tj n m L (L.at a) []
theorem iO{n m:Nat}{L:Gr}(hG:WG n m L){a b:Int}(h0:0<=a):b∈gp n m L a↔Rc L a b:=by
 obtain⟨g1,g2,g3⟩:=xV hG (Rc L a) (fun x y h k=>h.step k) _ (L.at a) [] (Sd.start hG h0) (Nat.le_refl _) (fun x hx=>⟨x,hx.resolve_right (by simp), .refl x⟩) (fun x hx=>by cases hx)
 refine⟨g1 b,?_⟩
 rintro⟨c,h1,h2⟩
 have hc:=g2 c (.inl h1)
 clear h1
 induction h2 with
 |refl=>exact hc
 |step h _ ih=>exact ih (g3 _ hc _ h)
def eI(n m:Nat)(L:Gr)(a b:Int):Bool:=decide (a=b)||((gp n m L a).contains b&&(gp n m L b).contains a)
theorem l3{n m:Nat}{L:Gr}(hG:WG n m L){a b:Int}(ha:0<=a)(hb:0<=b):eI n m L a b=true↔a=b\/(Rc L a b/\Rc L b a):=by
 simp only[eI,ab5,aa0,aa1,List.contains_eq_mem,iO hG ha,iO hG hb]
theorem Hc(n m:Nat)(L:Gr)(a:Int):eI n m L a a=true:=by simp[eI]
theorem ue(n m:Nat)(L:Gr)(a b:Int):eI n m L a b=eI n m L b a:=by
 simp only[eI,Bool.and_comm,eq_comm]
theorem nV{n m:Nat}{L:Gr}(hG:WG n m L){a b c:Int}(ha:0<=a)(hb:0<=b)(hc:0<=c)(h:eI n m L a b=true)(k:eI n m L b c=true):eI n m L a c=true:=by
 rw[l3 hG ha hb] at h
 rw[l3 hG hb hc] at k
 rw[l3 hG ha hc]
 rcases h with rfl|⟨h1,h2⟩
 ·exact k
 ·rcases k with rfl|⟨k1,k2⟩
  ·exact .inr ⟨h1,h2⟩
  ·exact .inr ⟨h1.trans k1,k2.trans h2⟩
section
variable {n m:Nat} {L:Gr}
def dc(n m:Nat)(L:Gr)(a:Int):List Int:=(eQ n).filter (eI n m L a)
def ea(n m:Nat)(L:Gr)(done:List Int)(a:Int):Bool:=!done.contains a&&(gp n m L a).all fun b=>done.contains b||eI n m L a b
def cz(n m:Nat)(L:Gr)(done:List Int):Int:=((eQ n).find? (ea n m L done)).getD (-1)
def pI(done l:List Int):List Int:=l.foldl (fun d b=>bif d.contains b then d else d++[b]) done
def ql(n m:Nat)(L:Gr):Nat->List Int->List (List Int)
 |0,_=>[]
 |f+1,done=>bif decide (cz n m L done<0) then[] else dc n m L (cz n m L done)::ql n m L f (pI done (dc n m L (cz n m L done)))
theorem iY: ∀(l done:List Int) (x:Int),x∈pI done l↔x∈done\/x∈l
 |[],done,x=>by simp[pI]
 | b::l,done,x=>by
  have ih:=iY l (bif done.contains b then done else done++[b]) x
  unfold pI at ih⊢
  rw[List.foldl_cons,ih]
  cases h:done.contains b with
  |true=>
   rw[aa7,ac1]
   have h':b∈done:=by simpa using h
   refine⟨fun h=>h.imp id .inr,?_⟩
   rintro(h|rfl|h)
   ·exact .inl h
   ·exact .inl h'
   ·exact .inr h
  |false=>rw[aa5,List.mem_append,List.mem_singleton,ac1,or_assoc]
theorem kL{done:List Int}(h:0<=cz n m L done):(0<=cz n m L done/\cz n m L done<n)/\ea n m L done (cz n m L done)=true:=by
 unfold cz at h⊢
 cases e:(eQ n).find? (ea n m L done) with
 |none=>rw[e] at h;simp at h
 |some a=>
  have h1:=List.find?_some e
  have h2:=List.mem_of_find?_eq_some e
  exact⟨dK.1 h2,h1⟩
theorem Fk{done:List Int}(h:cz n m L done<0): ∀a:Int,0<=a->a<n->ea n m L done a=false:=by
 intro a h0 h1
 unfold cz at h
 cases e:(eQ n).find? (ea n m L done) with
 |none=>simpa using List.find?_eq_none.1 e a (dK.2 ⟨h0,h1⟩)
 |some b=>
  have h2:=dK.1 (List.mem_of_find?_eq_some e)
  rw[e] at h;simp at h;omega
theorem EE(hG:WG n m L){done:List Int}{a:Int}(h0:0<=a/\a<n)(ha:a∉done):0<=cz n m L done:=by
 let R:Int->Int->Bool:=fun a x=>!done.contains x&&(decide (x=a)||(gp n m L a).contains x)
 have key: ∀(k:Nat) (a:Int),0<=a/\a<n->a∉done->(eQ n).countP (R a)<=k->∃b:Int,(0<=b/\b<n)/\ea n m L done b=true:=by
  intro k
  induction k with
  |zero=>
   intro a h0 ha h
   have:0<(eQ n).countP (R a):=List.countP_pos_iff.2 ⟨a,dK.2 h0,by simp[R,ha]⟩
   omega
  | succ k ih=>
   intro a h0 ha h
   by_cases hf:ea n m L done a=true
   ·exact⟨a,h0,hf⟩
   ·have: ∃b,b∈gp n m L a/\b∉done/\eI n m L a b=false:=by
     simp only[ea,aa1,Bool.not_eq_true',List.all_eq_true,not_and,List.contains_eq_mem,aa2,ab5,aa0] at hf
     have h1:=hf ha
     simp only[Classical.not_forall,not_or,Bool.not_eq_true] at h1
     obtain⟨b,h2,h3⟩:=h1
     exact⟨b,h2,h3⟩
    obtain⟨b,h2,h3,h4⟩:=this
    have h5:=(iO hG h0.1).1 h2
    have hb:=h5.jO hG h0.1
    refine ih b hb h3 (Nat.le_of_lt_succ (Nat.lt_of_lt_of_le (kR (fun x _ hx=>?_) ⟨a,dK.2 h0,by simp[R,ha],?_⟩) h))
    ·simp only[R,aa1,ab5,aa0,List.contains_eq_mem,iO hG h0.1,iO hG hb.1] at hx⊢
     refine⟨hx.1, .inr ?_⟩
     rcases hx.2 with rfl|hx
     ·exact h5
     ·exact h5.trans hx
    ·have hm:=h4
     rw[Bool.eq_false_iff,Ne,l3 hG h0.1 hb.1,not_or] at hm
     rw[Bool.eq_false_iff]
     simp only[R,Ne,aa1,ab5,aa0,List.contains_eq_mem,iO hG hb.1,not_and,not_or]
     exact fun _=>⟨hm.1,fun h=>hm.2 ⟨h5,h⟩⟩
 obtain⟨b,h1,h2⟩:=key _ a h0 ha (Nat.le_refl _)
 rcases Int.lt_or_le (cz n m L done) 0 with h|h
 ·rw[Fk h b h1.1 h1.2] at h2;cases h2
 ·exact h
theorem pP{a b:Int}:b∈dc n m L a↔(0<=b/\b<n)/\eI n m L a b=true:=by
 unfold dc
 rw[List.mem_filter,dK]
theorem n9{done:List Int}(h:0<=cz n m L done):sn n (pI done (dc n m L (cz n m L done)))<sn n done:=by
 obtain⟨h1,h2⟩:=kL h
 have hn:cz n m L done∉done:=by
  simp only[ea,aa1,Bool.not_eq_true',List.contains_eq_mem,aa2] at h2
  exact h2.1
 refine kR (fun x _ hx=>?_) ⟨cz n m L done,dK.2 h1,by simpa using hn,?_⟩
 ·simp only[Bool.not_eq_true',List.contains_eq_mem,aa2,iY,not_or] at hx⊢
  exact hx.1
 ·simp only[ab2,List.contains_eq_mem,aa0,iY,pP]
  exact .inr ⟨h1,Hc _ _ _ _⟩
theorem wi: ∀(f g:Nat) (done:List Int),sn n done<f->sn n done<g->ql n m L f done=ql n m L g done
 |0,_,_,h,_=>by omega
 |_+1,0,_,_,h=>by omega
 | f+1,g+1,done,h1,h2=>by
  rw[ql,ql]
  cases h:decide (cz n m L done<0) with
  |true=>rfl
  |false=>
   have:=n9 (n:=n) (m:=m) (L:=L) (done:=done) (by simpa using h)
   rw[aa5,aa5,wi f g _ (by omega) (by omega)]
def jt(n m:Nat)(L:Gr)(done:List Int):List (List Int):=ql n m L (sn n done+1) done
theorem lz(done:List Int):jt n m L done=bif decide (cz n m L done<0) then[] else dc n m L (cz n m L done)::jt n m L (pI done (dc n m L (cz n m L done))):=by
 unfold jt
 rw[ql]
 cases h:decide (cz n m L done<0) with
 |true=>rfl
 |false=>
  have:=n9 (n:=n) (m:=m) (L:=L) (done:=done) (by simpa using h)
  rw[aa5,aa5,wi _ _ _ (by omega) (Nat.lt_succ_self _)]
def JH(n m:Nat)(L:Gr)(done:List Int):Prop:=∀a b:Int,0<=a->0<=b->b<n->a∈done->eI n m L a b=true->b∈done
theorem zP(hG:WG n m L){done:List Int}(h:JH n m L done)(hn:0<=cz n m L done):JH n m L (pI done (dc n m L (cz n m L done))):=by
 intro a b h0 h1 h2 ha hab
 rw[iY] at ha⊢
 rcases ha with ha|ha
 ·exact .inl (h a b h0 h1 h2 ha hab)
 ·rw[pP] at ha
  exact .inr (pP.2 ⟨⟨h1,h2⟩,nV hG hn h0 h1 ha.2 hab⟩)
end
end Go.Rl
namespace Go.Proofs.YtdpmikfheebicaaGreatDoor
open Go Go.Dn Go.Rl Go.Proofs
attribute [local irreducible] bg vc
set_option maxRecDepth 20000
def gA(op:Int):Bool:=decide (op=1)
def gq(op:Int):Bool:=bif decide (op=2) then true else decide (op>=7)
def dm(op:Int):Bool:=bif decide (op<3) then true else decide (op>6)
theorem YZ(κ:Kp)(op:Int)(K:AV->List Dn.Obj->Prop):(bg (Qs κ) 12 53 [.int op] [] K)=(
 K (AV.bool (op==(1:Int))) []):=by kernel_rfl
def Sz:List AV->Option (Bool×AV)
 |[.lit (.int .i64 op)]=>some (true, .bool (gA op))
 |_=>none
theorem VS(κ:Kp):cy (Qs κ) 12 53 Sz:=by
 intro args x hh
 unfold Sz at hh
 split at hh
 ·rename_i op
  simp only[aa3,aa9,true_and] at hh
  subst hh
  exact⟨_,rfl,rfl,Eq.mpr (YZ κ op _) (by rw[MO];rfl)⟩
 ·cases hh
noncomputable def QC(κ:Kp):Env:=(Qs κ).aF 53 Sz
theorem Ww(κ:Kp):aC (QC κ):=(eCs κ).aF (Tq κ) (VS κ)
theorem TN(κ:Kp):ai (QC κ):=(Tq κ).aF
theorem Xg(κ:Kp)(op:Int)(K:AV->List Dn.Obj->Prop):(bg (QC κ) 12 72 [.int op] [] K)=(
 ax (op==(2:Int)) (K (AV.bool true) []) (K (AV.bool (decide (op>=(7:Int)))) [])):=by kernel_rfl
def Sr:List AV->Option (Bool×AV)
 |[.lit (.int .i64 op)]=>some (true, .bool (gq op))
 |_=>none
theorem Ze(κ:Kp):cy (QC κ) 12 72 Sr:=by
 intro args x hh
 unfold Sr at hh
 split at hh
 ·rename_i op
  simp only[aa3,aa9,true_and] at hh
  subst hh
  refine⟨_,rfl,rfl,Eq.mpr (Xg κ op _) ?_⟩
  simp only[MO]
  unfold gq
  cases decide (op=2)<;>rfl
 ·cases hh
noncomputable def OW(κ:Kp):Env:=(QC κ).aF 72 Sr
theorem YF(κ:Kp):aC (OW κ):=(Ww κ).aF (TN κ) (Ze κ)
theorem UU(κ:Kp):ai (OW κ):=(TN κ).aF
theorem Xb(κ:Kp)(a:LA)(K:AV->List Dn.Obj->Prop):(bg (OW κ) 12 114 [a.av] [] K)=(
 ax (decide (a.op<(3:Int))) (K (AV.bool true) []) (K (AV.bool (decide (a.op>(6:Int)))) [])):=by kernel_rfl
def SA:List AV->Option (Bool×AV)
 |[.agg [.lit (.int .i64 op), .agg [.lit (.string _), .ae 52 _], .agg [.lit (.int .i64 _), .lit (.string _), .lit (.int .i64 _), .ae 52 _], .agg [.lit (.int .i64 _), .lit (.string _), .lit (.int .i64 _), .ae 52 _]]]=>some (true, .bool (dm op))
 |_=>none
theorem V1(κ:Kp):cy (OW κ) 12 114 SA:=by
 intro args x hh
 unfold SA at hh
 split at hh
 ·rename_i op s l o1 s1 n1 l1 o2 s2 n2 l2
  simp only[aa3,aa9,true_and] at hh
  subst hh
  refine⟨_,rfl,rfl,Eq.mpr (Xb κ ⟨op,s,l,o1,s1,n1,l1,o2,s2,n2,l2⟩ _) ?_⟩
  unfold dm
  simp only
  cases decide (op<3)<;>rfl
 ·cases hh
noncomputable def LL(κ:Kp):Env:=(OW κ).aF 114 SA
theorem eKc(κ:Kp):aC (LL κ):=(YF κ).aF (UU κ) (V1 κ)
theorem UK(κ:Kp):ai (LL κ):=(UU κ).aF
theorem XG(κ:Kp)(l:List AV)(k i:Int)(I:Nat->S->Prop)(n:Nat)(K:Exit->S->Prop):(vc (LL κ) 12 75 none 0 (ag (Pr κ).toProgram 75 2) (sp 19 [(0, .ae 3 l),(1, .int k),(7, .int l.length),(8, .int i)] []) (bI (LL κ) 75 2 0 I n K))=(
 letI z1:=i<(↑(l.length):Int)
 ax (decide z1) (aO (decide ((0:Int)<=i)&&decide z1) (ax (k==toInt (nth l i.toNat)) (K Exit.ret (sp 19 [(4,AV.int i)] [])) (∃(e0:Nat),e0<n/\I e0
 (sp 19 [(0,AV.ae 3 l),(1,AV.int k),(7,AV.int (↑(l.length):Int)),(8,AV.int (IntKind.wrap IntKind.i64 (i+(1:Int))))] [])))) (K (Exit.exit 0) (sp 19
 [] []))):=by kernel_rfl
def fV(k:Int):List AV->Int->Int
 |[],_=> -1
 |a::l,i=>bif decide (k=toInt a) then i else fV k l (i+1)
abbrev OT(a:List AV×Int×Int):S:=sp 19 [(0, .ae 3 a.1),(1, .int a.2.1),(7, .int a.1.length),(8, .int a.2.2)] []
def HJ(a:List AV×Int×Int):Prop:=a.1.length<=aP/\0<=a.2.2/\a.2.2<=a.1.length
def C8(a:List AV×Int×Int):Out (Exit×S):= .ax (decide (fV a.2.1 (a.1.drop a.2.2.toNat) a.2.2>=0)) (.one (.ret,sp 19 [(4, .int (fV a.2.1 (a.1.drop a.2.2.toNat) a.2.2))] [])) (.one (.exit 0,sp 19 [] []))
theorem VL(κ:Kp):bn (LL κ) 12 75 2 (aQ 0 OT HJ C8):=by
 refine aR (fun a=>a.1.length - a.2.2.toNat) ?_
 rintro⟨l,s,i⟩ K ⟨h1,h2,h3⟩ ho
 simp only at h1 h2 h3
 rw[show(LL κ).P=Pr κ from rfl]
 refine Eq.mpr (XG κ l s i _ _ K) ?_
 simp only[aP] at h1
 simp only[C8,Out.run,af] at ho
 simp only[af,au,aa0,aa2,aa1,beq_iff_eq,beq_eq_false_iff_ne]
 refine⟨fun hi=>⟨⟨h2,hi⟩,fun e=>?_,fun e=>?_⟩,fun hi=>?_⟩
 ·rw[ab1 (show i.toNat<l.length by omega),←a8 l i.toNat (by omega),fV,aa6 e,aa7,aa6 (show i>=0 from h2)] at ho
  exact ho.1 rfl
 ·rw[a5 (n:=i+1) (by omega) (by omega)]
  refine⟨_,?_,(l,s,i+1),rfl,⟨by simpa[aP] using h1,by simp only;omega,by simp only;omega⟩,rfl,?_⟩
  ·simp only;omega
  ·rw[ab1 (show i.toNat<l.length by omega),←a8 l i.toNat (by omega),fV,aa4 e,aa5] at ho
   simp only[C8,Out.run,af,show(i+1).toNat=i.toNat+1 by omega]
   exact ho
 ·rw[aa8 (by omega)] at ho
  exact ho.2 rfl
noncomputable def Ov(κ:Kp):Env:=(LL κ).aj 75 2 (aQ 0 OT HJ C8)
theorem Z5(κ:Kp):aC (Ov κ):=(eKc κ).aj (UK κ) (VL κ)
theorem Tk(κ:Kp):ai (Ov κ):=(UK κ).aj aG
theorem Zo(κ:Kp)(l:List AV)(k:Int)(K:AV->List Dn.Obj->Prop):(bg (Ov κ) 12 75 [.ae 3 l, .int k] [] K)=(
 ag (Pg.toProgram (Env.P (LL κ))) 75 2=ag (Pg.toProgram (Env.P (LL κ))) 75 2/\∃(a:List AV×Int×Int),sp 19 [(0,AV.ae 3 l),(1,AV.int k),
 (7,AV.int (↑(l.length):Int)),(8,AV.int 0)] []=sp 19 [(0,AV.ae 3 a.1),(1,AV.int a.2.1),(7,AV.int (↑(a.1.length):Int)),(8,AV.int a.2.2)] []/\
 (a.1.length<=9223372036854775807/\(0:Int)<=a.2.2/\a.2.2<=(↑(a.1.length):Int))/\ax (decide (fV a.2.1 (List.drop (Int.toNat a.2.2) a.1) a.2.2>=(0
 :Int))) (K (AV.int (fV a.2.1 (List.drop (Int.toNat a.2.2) a.1) a.2.2)) []) (K (AV.int (-1)) [])):=by kernel_rfl
def S3:List AV->Option (Bool×AV)
 |[.ae 3 l, .lit (.int .i64 k)]=>some (decide (l.length<=aP), .int (fV k l 0))
 |_=>none
theorem tO(s:Int): ∀(l:List AV) (i:Int),¬ fV s l i>=0->0<=i->fV s l i= -1
 |[],_,_,_=>rfl
 |a::l,i,h,h0=>by
  simp only[fV] at h⊢
  cases e:decide (s=toInt a) with
  |true=>rw[e] at h;exact absurd h0 h
  |false=>rw[e] at h;exact tO s l (i+1) h (by omega)
theorem ZF(κ:Kp):cy (Ov κ) 12 75 S3:=by
 intro args x hh
 unfold S3 at hh
 split at hh
 ·rename_i l s
  simp only[aa3,aa9,aa0] at hh
  obtain⟨h1,rfl⟩:=hh
  refine⟨_,rfl,rfl,?_⟩
  refine Eq.mpr (Zo κ l s _) ?_
  refine⟨rfl,(l,s,0),rfl,⟨h1,by simp only;omega,by simp only;omega⟩,?_⟩
  simp only[ab7,ab0,af,aa0,aa2]
  exact⟨fun _=>trivial,fun e=>by rw[tO s l 0 e (by omega)]⟩
 ·cases hh
noncomputable def QN(κ:Kp):Env:=(Ov κ).aF 75 S3
theorem W1(κ:Kp):aC (QN κ):=(Z5 κ).aF (Tk κ) (ZF κ)
theorem UM(κ:Kp):ai (QN κ):=(Tk κ).aF
theorem VZ(κ:Kp)(l:List AV)(k:Int)(K:AV->List Dn.Obj->Prop):(bg (QN κ) 12 48 [.ae 3 l, .int k] [] K)=(
 aO (decide (l.length<=9223372036854775807)) (K (AV.bool (decide (fV k l (0:Int)>=(0:Int)))) [])):=by kernel_rfl
def N9(k:Int)(l:List AV):Bool:=decide (fV k l 0>=0)
def Sw:List AV->Option (Bool×AV)
 |[.ae 3 l, .lit (.int .i64 k)]=>some (decide (l.length<=aP), .bool (N9 k l))
 |_=>none
theorem W8(κ:Kp):cy (QN κ) 12 48 Sw:=by
 intro args x hh
 unfold Sw at hh
 split at hh
 ·rename_i l s
  simp only[aa3,aa9,aa0] at hh
  obtain⟨h1,rfl⟩:=hh
  refine⟨_,rfl,rfl,?_⟩
  refine Eq.mpr (VZ κ l s _) ?_
  rw[au,aa0]
  exact⟨h1,rfl⟩
 ·cases hh
noncomputable def Kf(κ:Kp):Env:=(QN κ).aF 48 Sw
theorem eKf(κ:Kp):aC (Kf κ):=(W1 κ).aF (UM κ) (W8 κ)
theorem Uw(κ:Kp):ai (Kf κ):=(UM κ).aF
theorem wo(k:Int): ∀(l:List Int) (i:Int),0<=i->(fV k (iA l) i>=0↔k∈l)
 |[],_,_=>by simp[iA,fV]
 | a::l,i,h0=>by
  have ih:=wo k l (i+1) (by omega)
  simp only[iA,ac0,fV] at ih⊢
  by_cases h:k=a
  ·rw[show decide (k=toInt (AV.lit (.int .i64 a)))=true from aa6 h,aa7]
   exact⟨fun _=>by simp[h],fun _=>h0⟩
  ·rw[show decide (k=toInt (AV.lit (.int .i64 a)))=false from aa4 h,aa5,ih]
   simp[h]
theorem Ic(k:Int)(l:List Int):N9 k (iA l)=l.contains k:=by
 unfold N9
 rw[Bool.eq_iff_iff,aa0,wo k l 0 (by omega)]
 simp
def CL(ds:List AV)(a:Int):List AV->List (Int×Int)
 |[]=>[]
 |l::bl=>bif dm (toInt (ad l 0)) then(a,de (toStr (ad (ad l 1) 0)) ds)::CL ds a bl else CL ds a bl
def Uc(ds:List AV)(r:AV):List (Int×Int):=CL ds (de (toStr (ad (ad r 0) 0)) ds) (ah (ad r 1))
def sF(ds rs:List AV):List (Int×Int):=rs.flatMap (Uc ds)
def zd(E:List (Int×Int)):List AV:=E.map fun e=> .bp [.int e.1, .int e.2]
theorem Kj(E F:List (Int×Int)):zd (E++F)=zd E++zd F:=by simp[zd]
structure JY where
 ds:List AV
 rs:List AV
 xs:List AV
 more:List AV
 bl:List AV
 a:Int
 i:Int
 j:Int
abbrev I9(x:JY):S:=sp 53 [(0, .cx 0),(1, .ptr 1 0 [] 0),(5, .int x.a),(12, .ae 41 x.rs),(13, .int x.rs.length),(14, .int x.i),(28, .ae 55 x.bl),(29, .int x.bl.length),(30, .int x.j)] [.ext (some x.xs), .box 25 (gz x.ds x.rs)]
theorem ZE(κ:Kp)(x:JY)(I:Nat->S->Prop)(n:Nat)(K:Exit->S->Prop):(vc (Kf κ) 12 113 none 2 (ag (Pr κ).toProgram 113 5) (I9 x) (bI (Kf κ) 113 5 2 I n K))=(
 letI z1:=AV.agg [AV.ae 62 x.ds,AV.ae 41 x.rs]
 letI z2:=IntKind.wrap IntKind.i64 (x.j+(1:Int))
 letI z3:=x.bl.length
 ax (decide (x.j<(↑z3:Int))) (aO (decide ((0:Int)<=x.j)&&decide (x.j<(↑z3:Int))) (ax (!dm (toInt (ad (nth x.bl x.j.toNat) 0))) (∃(e0:Nat),e0<n
 /\I e0 (sp 53 [(0,AV.cx 0),(1,AV.ptr 1 0 [] 0),(5,AV.int x.a),(12,AV.ae 41 x.rs),(13,AV.int (↑(x.rs.length):Int)),(14,AV.int x.i),(28,AV.ae 55
 x.bl),(29,AV.int (↑z3:Int)),(30,AV.int z2)] [Obj.ext (some x.xs),Obj.box 25 z1])) (∃(e2:List AV×ByteArray),([AV.ae 62 x.ds,AV.str (toStr (ad (ad
 (nth x.bl x.j.toNat) 1) 0))],aB)=([AV.ae 62 e2.1,AV.str e2.2],aB)/\iJ e2/\∃(e1:List AV),x.xs=AV.bp [AV.int x.a,AV.int (de e2.2 e2.1)]::e1/\(∃
 (e0:Nat),e0<n/\I e0 (sp 53 [(0,AV.cx 0),(1,AV.ptr 1 0 [] 0),(5,AV.int x.a),(12,AV.ae 41 x.rs),(13,AV.int (↑(x.rs.length):Int)),(14,AV.int
 x.i),(28,AV.ae 55 x.bl),(29,AV.int (↑z3:Int)),(30,AV.int z2)] [Obj.ext (some e1),Obj.box 25 z1]))/\K Exit.ret (sp 53 [] [Obj.ext none,Obj.box 25
 z1])))) (K (Exit.exit 2) (sp 53 [(0,AV.cx 0),(1,AV.ptr 1 0 [] 0),(12,AV.ae 41 x.rs),(13,AV.int (↑(x.rs.length):Int)),(14,AV.int x.i)] [Obj.ext (some
 x.xs),Obj.box 25 z1]))):=by kernel_rfl
def CG(x:JY):Prop:=x.ds.length<=aP/\x.bl.length<=aP/\0<=x.j/\x.j<=x.bl.length/\x.xs=zd (CL x.ds x.a (x.bl.drop x.j.toNat))++x.more
def Ie(x:JY):Out (Exit×S):= .all (fun _:Bool=>True) fun b=> .ax b
 (.one (.exit 2,sp 53 [(0, .cx 0),(1, .ptr 1 0 [] 0),(12, .ae 41 x.rs),(13, .int x.rs.length),(14, .int x.i)] [.ext (some x.more), .box 25 (gz x.ds x.rs)]))
 (.one (.ret,sp 53 [] [.ext none, .box 25 (gz x.ds x.rs)]))
theorem JC(ds:List AV)(a:Int)(bl:List AV)(k:Nat)(h:k<bl.length):CL ds a (bl.drop k)=bif dm (toInt (ad (nth bl k) 0)) then(a,de (toStr (ad (ad (nth bl k) 1) 0)) ds)::CL ds a (bl.drop (k+1)) else CL ds a (bl.drop (k+1)):=by
 rw[ab1 h,←a8 bl k h,CL]
theorem XA(κ:Kp):bn (Kf κ) 12 113 5 (aQ 2 I9 CG Ie):=by
 refine aR (fun x=>x.bl.length - x.j.toNat) ?_
 rintro⟨ds,rs,xs,more,bl,a,i,j⟩ K ⟨h0,h1,h2,h3,h4⟩ ho
 simp only at h0 h1 h2 h3 h4
 rw[show(Kf κ).P=Pr κ from rfl]
 refine Eq.mpr (ZE κ ⟨ds,rs,xs,more,bl,a,i,j⟩ _ _ K) ?_
 simp only[aP] at h1
 have ho1:=ho true trivial
 have ho2:=ho false trivial
 simp only[Out.run,ax] at ho1 ho2
 simp only[af,au,aa0,aa2,aa1]
 refine⟨fun hj=>⟨⟨h2,hj⟩,?_⟩,fun hj=>?_⟩
 ·have hd:=JC ds a bl j.toNat (by omega)
  rw[hd] at h4
  rw[a5 (n:=j+1) (by omega) (by omega)]
  have next: ∀ys,ys=zd (CL ds a (bl.drop (j.toNat+1)))++more->∃m,m<bl.length - j.toNat/\fw I9 CG Ie (fun x=>x.bl.length - x.j.toNat) K m (I9 ⟨ds,rs,ys,more,bl,a,i,j+1⟩):=fun ys hy=>by
   refine⟨_,?_,⟨ds,rs,ys,more,bl,a,i,j+1⟩,rfl,⟨h0,by simpa[aP] using h1,by simp only;omega,by simp only;omega,?_⟩,rfl,ho⟩
   ·simp only;omega
   ·simp only[show(j+1).toNat=j.toNat+1 by omega];exact hy
  refine⟨fun e=>?_,fun e=>?_⟩
  ·rw[show dm (toInt (ad (nth bl j.toNat) 0))=false by simpa using e] at h4
   exact next _ h4
  ·rw[show dm (toInt (ad (nth bl j.toNat) 0))=true by simpa using e] at h4
   exact⟨(ds,toStr (ad (ad (nth bl j.toNat) 1) 0)),rfl,h0,_,h4,next _ rfl,ho2⟩
 ·rw[aa8 (by omega)] at h4
  have h4:xs=more:=h4
  subst h4
  exact ho1
noncomputable def Lq(κ:Kp):Env:=(Kf κ).aj 113 5 (aQ 2 I9 CG Ie)
theorem X4(κ:Kp):aC (Lq κ):=(eKf κ).aj (Uw κ) (XA κ)
theorem T7(κ:Kp):ai (Lq κ):=(Uw κ).aj aG
abbrev LF(x:JY):S:=sp 53 [(0, .cx 0),(1, .ptr 1 0 [] 0),(12, .ae 41 x.rs),(13, .int x.rs.length),(14, .int x.i)] [.ext (some x.xs), .box 25 (gz x.ds x.rs)]
theorem xKh(κ:Kp)(x:JY)(I:Nat->S->Prop)(n:Nat)(K:Exit->S->Prop):(vc (Lq κ) 12 113 none 2 (ag (Pr κ).toProgram 113 1) (LF x) (bI (Lq κ) 113 1 2 I n K))=(
 letI z1:=AV.agg [AV.ae 62 x.ds,AV.ae 41 x.rs]
 letI z2:=nth x.rs x.i.toNat
 letI z3:=x.i<(↑(x.rs.length):Int)
 letI z4:=Pg.toProgram (Env.P (Kf κ))
 ax (decide z3) (aO (decide ((0:Int)<=x.i)&&decide z3) (∃(e3:List AV×ByteArray),([AV.ae 62 x.ds,AV.str (toStr (ad (ad z2 0) 0))],aB)=([AV.ae 62
 e3.1,AV.str e3.2],aB)/\iJ e3/\ag z4 113 5=ag z4 113 5/\∃(e2:JY),sp 53 [(0,AV.cx 0),(1,AV.ptr 1 0 [] 0),(5,AV.int (de e3.2 e3.1)),(12,AV.ae 41
 x.rs),(13,AV.int (↑(x.rs.length):Int)),(14,AV.int x.i),(28,AV.ae 55 (ah (ad z2 1))),(29,AV.int (↑(List.length (ah (ad z2 1))):Int)),(30,AV.int 0)]
 [Obj.ext (some x.xs),Obj.box 25 z1]=sp 53 [(0,AV.cx 0),(1,AV.ptr 1 0 [] 0),(5,AV.int e2.a),(12,AV.ae 41 e2.rs),(13,AV.int (↑(e2.rs.length):Int)),
 (14,AV.int e2.i),(28,AV.ae 55 e2.bl),(29,AV.int (↑(e2.bl.length):Int)),(30,AV.int e2.j)] [Obj.ext (some e2.xs),Obj.box 25 (AV.agg [AV.ae 62 e2.ds,
 AV.ae 41 e2.rs])]/\(e2.ds.length<=9223372036854775807/\e2.bl.length<=9223372036854775807/\(0:Int)<=e2.j/\e2.j<=(↑(e2.bl.length):Int)/\e2.xs=zd
 (CL e2.ds e2.a (List.drop e2.j.toNat e2.bl))++e2.more)/\∀(e1:Bool),True->ax e1 (∃(e0:Nat),e0<n/\I e0 (sp 53 [(0,AV.cx 0),(1,AV.ptr 1 0 [] 0),
 (12,AV.ae 41 e2.rs),(13,AV.int (↑(e2.rs.length):Int)),(14,AV.int (IntKind.wrap IntKind.i64 (e2.i+(1:Int))))] [Obj.ext (some e2.more),Obj.box 25
 (AV.agg [AV.ae 62 e2.ds,AV.ae 41 e2.rs])])) (K Exit.ret (sp 53 [] [Obj.ext none,Obj.box 25 (AV.agg [AV.ae 62 e2.ds,AV.ae 41 e2.rs])])))) (K (Exit.exit 0) (sp
 53 [] [Obj.ext (some x.xs),Obj.box 25 z1]))):=by kernel_rfl
def Ht(rs:List AV):Prop:=∀r,r∈rs->(ah (ad r 1)).length<=aP
def C6(x:JY):Prop:=x.ds.length<=aP/\x.rs.length<=aP/\Ht x.rs/\0<=x.i/\x.i<=x.rs.length/\x.xs=zd (sF x.ds (x.rs.drop x.i.toNat))
def Jm(x:JY):Out (Exit×S):= .all (fun _:Bool=>True) fun b=> .ax b
 (.one (.exit 0,sp 53 [] [.ext (some []), .box 25 (gz x.ds x.rs)]))
 (.one (.ret,sp 53 [] [.ext none, .box 25 (gz x.ds x.rs)]))
theorem W2(κ:Kp):bn (Lq κ) 12 113 1 (aQ 2 LF C6 Jm):=by
 refine aR (fun x=>x.rs.length - x.i.toNat) ?_
 rintro⟨ds,rs,xs,more,bl,a,i,j⟩ K ⟨h0,h1,h5,h2,h3,h4⟩ ho
 simp only at h0 h1 h2 h3 h4 h5
 rw[show(Lq κ).P=Pr κ from rfl]
 refine Eq.mpr (xKh κ ⟨ds,rs,xs,more,bl,a,i,j⟩ _ _ K) ?_
 simp only[aP] at h1
 have ho1:=ho true trivial
 have ho2:=ho false trivial
 simp only[Out.run,ax] at ho1 ho2
 simp only[af,au,aa0,aa2,aa1]
 refine⟨fun hi=>⟨⟨h2,hi⟩,(ds,toStr (ad (ad (nth rs i.toNat) 0) 0)),rfl,h0,?_⟩,fun hi=>?_⟩
 ·have hk:i.toNat<rs.length:=by omega
  rw[sF,ab1 hk,←a8 rs i.toNat hk,List.flatMap_cons,Kj] at h4
  refine⟨trivial,⟨ds,rs,xs,zd (sF ds (rs.drop (i.toNat+1))),ah (ad (nth rs i.toNat) 1),de (toStr (ad (ad (nth rs i.toNat) 0) 0)) ds,i,0⟩,rfl,⟨h0,?_,by simp only;omega,by simp only;omega,h4⟩,?_⟩
  ·exact h5 _ (by rw[a8 _ _ hk];exact List.getElem_mem _)
  ·intro y _
   refine⟨fun _=>?_,fun _=>ho2⟩
   ·show∃m,m<rs.length - i.toNat/\fw LF C6 Jm (fun x=>x.rs.length - x.i.toNat) K m (sp 53 [(0, .cx 0),(1, .ptr 1 0 [] 0),(12, .ae 41 rs),(13, .int rs.length),(14, .int (IntKind.wrap IntKind.i64 (i+1)))] [.ext (some (zd (sF ds (rs.drop (i.toNat+1))))), .box 25 (gz ds rs)])
    rw[a5 (n:=i+1) (by omega) (by omega)]
    refine⟨_,?_,⟨ds,rs,_,more,bl,a,i+1,j⟩,rfl,⟨h0,by simpa[aP] using h1,h5,by simp only;omega,by simp only;omega,?_⟩,rfl,ho⟩
    ·simp only;omega
    ·simp only[show(i+1).toNat=i.toNat+1 by omega];rfl
 ·rw[aa8 (by omega)] at h4
  have h4:xs=[]:=h4
  subst h4
  exact ho1
noncomputable def Qe(κ:Kp):Env:=(Lq κ).aj 113 1 (aQ 2 LF C6 Jm)
theorem Vm(κ:Kp):aC (Qe κ):=(X4 κ).aj (T7 κ) (W2 κ)
theorem U2(κ:Kp):ai (Qe κ):=(T7 κ).aj aG
theorem Vy(κ:Kp)(ds rs xs:List AV)(K:AV->List Dn.Obj->Prop):(bg (Qe κ) 12 113 [.cx 0, .ptr 1 0 [] 0] [.ext (some xs), .box 25 (gz ds rs)] K)=(
 ag (Pg.toProgram (Env.P (Lq κ))) 113 1=ag (Pg.toProgram (Env.P (Lq κ))) 113 1/\∃(a:JY),sp 53 [(0,AV.cx 0),(1,AV.ptr 1 0 [] 0),(12,
 AV.ae 41 rs),(13,AV.int (↑(rs.length):Int)),(14,AV.int 0)] [Obj.ext (some xs),Obj.box 25 (AV.agg [AV.ae 62 ds,AV.ae 41 rs])]=sp 53 [(0,AV.cx 0),
 (1,AV.ptr 1 0 [] 0),(12,AV.ae 41 a.rs),(13,AV.int (↑(a.rs.length):Int)),(14,AV.int a.i)] [Obj.ext (some a.xs),Obj.box 25 (AV.agg [AV.ae 62 a.ds,
 AV.ae 41 a.rs])]/\(a.ds.length<=9223372036854775807/\a.rs.length<=9223372036854775807/\(∀(r:AV),List.Mem r a.rs->List.length (ah (ad r 1))<=
 9223372036854775807)/\(0:Int)<=a.i/\a.i<=(↑(a.rs.length):Int)/\a.xs=zd (sF a.ds (List.drop a.i.toNat a.rs)))/\∀(y:Bool),True->ax y (K
 (AV.bp []) [Obj.ext (some []),Obj.box 25 (AV.agg [AV.ae 62 a.ds,AV.ae 41 a.rs])]) (K (AV.bp []) [Obj.ext none,Obj.box 25 (AV.agg [AV.ae 62 a.ds,AV.ae
 41 a.rs])])):=by kernel_rfl
def Nr(x:ga):List AV×List Dn.Obj:=([.cx 0, .ptr 1 0 [] 0],[.ext (some (zd (sF x.1 x.2))), .box 25 (gz x.1 x.2)])
def CP(x:ga):Prop:=x.1.length<=aP/\x.2.length<=aP/\Ht x.2
def JP(_:ga):Out (AV×List Dn.Obj):= .all (fun st'=>wD st') fun st'=> .one (.bp [],st')
theorem YL(κ:Kp):bz (Qe κ) 12 113 (aZ Nr CP JP):=by
 refine bh ?_
 rintro⟨ds,rs⟩ K ⟨h1,h2,h3⟩ ho
 refine Eq.mpr (Vy κ ds rs (zd (sF ds rs)) K) ?_
 refine⟨rfl,⟨ds,rs,zd (sF ds rs),[],[],0,0,0⟩,rfl,⟨h1,h2,h3,by simp only;omega,by simp only;omega,rfl⟩,fun y _=>?_⟩
 cases y
 ·exact ho _ trivial
 ·exact ho _ trivial
set_option maxRecDepth 20000 in
noncomputable def yV(κ:Kp):Env:=(Qe κ).aw 113 (aZ Nr CP JP)
theorem Xj(κ:Kp):aC (yV κ):=(Vm κ).aw (U2 κ) (YL κ)
theorem Uo(κ:Kp):ai (yV κ):=(U2 κ).aw aI
end Go.Proofs.YtdpmikfheebicaaGreatDoor
namespace Go.Proofs.YtdpmikfheebicaaGreatDoor
open Go Go.Dn Go.Rl Go.Proofs
theorem pK{f:AV->Int}: ∀{rs:List AV},(D1 f rs).2=0↔ ∀x,x∈rs->f x=0
 |[]=>by simp[D1]
 |x::l=>by
  rw[D1]
  by_cases h:f x=0
  ·rw[aa6 h,aa7,pK];simp[h]
  ·rw[aa4 h,aa5];simp[h]
theorem sQ{ds rs:List AV}:(gg ds rs).2=0↔eH ds rs=true/\(MF ds ds 0).2=0/\(∀x,x∈rs->jw ds x=0)/\∀x,x∈rs->kC x=0:=by
 unfold gg sO
 cases eH ds rs with
 |false=>simp
 | true=>
  simp only[aa7,true_and]
  by_cases h:(MF ds ds 0).2=0
  ·rw[aa6 h,aa7]
   by_cases h2:(D1 (jw ds) rs).2=0
   ·rw[aa6 h2,aa7,pK]
    exact⟨fun h3=>⟨h,pK.1 h2,h3⟩,fun h3=>h3.2.2⟩
   ·rw[aa4 h2,aa5]
    exact⟨fun h3=>absurd h3 h2,fun h3=>absurd (pK.2 h3.2.1) h2⟩
  ·rw[aa4 h,aa5,aa4 h,aa5]
   exact⟨fun h3=>absurd h3 h,fun h3=>absurd h3.1 h⟩
theorem Hw{ds:List AV}{a:At}(h:known (cg ds) a=0):0<=de a.rel ds/\de a.rel ds<ds.length:=by
 unfold known at h
 cases e:ju a.rel (cg ds) with
 |none=>rw[e] at h;cases h
 |some k=>obtain⟨_,h2,h3⟩:=qc e;rw[h2];omega
theorem QD{ds:List AV}{r:ba}(h:(rr (ds,r)).1=0):jg (cg ds) (aJ r)=0:=by
 by_cases e:jg (cg ds) (aJ r)=0
 ·exact e
 ·exfalso
  have hr: ∀n,(eV getM ft (cg ds) (aJ r) (n+1) []).1=jg (cg ds) (aJ r):=fun n=>by
   rw[eV,z6 _ _ _ e,aa4 e,aa5]
  unfold rr oZ at h
  simp only[hr,aa4 e,aa5] at h
  exact e h
theorem sK{ds:List Dc}: ∀{b:List Lt},ib ds b=0->∀l,l∈b->Rl.dm l=true->known ds l.a=0
 |[],_,_,h,_=>nomatch h
 | x::b,hk,l,hl,ha=>by
  rw[ib] at hk
  cases e:Rl.dm x&& !decide (known ds x.a=0) with
  |true=>
   rw[e,aa7] at hk
   rw[hk] at e;simp at e
  |false=>
   rw[e,aa5] at hk
   rcases List.mem_cons.1 hl with rfl|hl
   ·rw[ha] at e;simpa using e
   ·exact sK hk l hl ha
theorem zU{ds rs:List AV}(h:(gg ds rs).2=0){r:AV}(hr:r∈rs):(0<=de (toStr (ad (ad r 0) 0)) ds/\de (toStr (ad (ad r 0) 0)) ds<ds.length)/\
  ∀l,l∈ah (ad r 1)->dm (toInt (ad l 0))=true->0<=de (toStr (ad (ad l 1) 0)) ds/\de (toStr (ad (ad l 1) 0)) ds<ds.length:=by
 obtain⟨h1,_,h2,_⟩:=sQ.1 h
 have ht:=h2 r hr
 have hk:jg (cg ds) (aJ (bM r))=0:=by
  refine QD ?_
  unfold jw at ht
  cases e:eH ds [an (bM r)] with
  |true=>rw[e,aa7] at ht;exact ht
  |false=>rw[e,aa5] at ht;cases ht
 unfold jg at hk
 cases e:decide (known (cg ds) (aJ (bM r)).head=0) with
 |false=>rw[e,aa5] at hk;simp[hk] at e
 |true=>
  rw[e,aa7] at hk
  refine⟨Hw (a:=(aJ (bM r)).head) (by simpa using e),fun l hl ha=>?_⟩
  have hm:cm l∈(aJ (bM r)).body:=List.mem_map_of_mem hl
  refine Hw (a:=(cm l).a) (sK hk _ hm ?_)
  have e1:(cm l).op=toInt (ad l 0):=rfl
  unfold Rl.dm
  rw[e1]
  unfold dm at ha
  cases h3:decide (toInt (ad l 0)<3) with
  |true=>rfl
  |false=>rw[h3,aa5] at ha;simpa using ha
theorem xr{ds:List AV}{a:Int}{e:Int×Int}: ∀{bl:List AV},e∈CL ds a bl↔ ∃l,l∈bl/\dm (toInt (ad l 0))=true/\e=(a,de (toStr (ad (ad l 1) 0)) ds)
 |[]=>by simp[CL]
 | x::bl=>by
  rw[CL]
  cases h:dm (toInt (ad x 0)) with
  | true=>
   rw[aa7,ac1,xr]
   constructor
   ·rintro(rfl|⟨l,h1,h2⟩)
    ·exact⟨x,by simp,h,rfl⟩
    ·exact⟨l,by simp[h1],h2⟩
   ·rintro⟨l,h1,h2,h3⟩
    rcases List.mem_cons.1 h1 with rfl|h1
    ·exact .inl h3
    ·exact .inr ⟨l,h1,h2,h3⟩
  | false=>
   rw[aa5,xr]
   constructor
   ·rintro⟨l,h1,h2⟩
    exact⟨l,by simp[h1],h2⟩
   ·rintro⟨l,h1,h2,h3⟩
    rcases List.mem_cons.1 h1 with rfl|h1
    ·rw[h] at h2;cases h2
    ·exact⟨l,h1,h2,h3⟩
theorem yv{ds rs:List AV}{e:Int×Int}:e∈sF ds rs↔ ∃r,r∈rs/\∃l,l∈ah (ad r 1)/\dm (toInt (ad l 0))=true/\e=(de (toStr (ad (ad r 0) 0)) ds,de (toStr (ad (ad l 1) 0)) ds):=by
 unfold sF
 rw[List.mem_flatMap]
 exact exists_congr fun r=>and_congr_right fun _=>xr
def Qj(ds rs:List AV):Prop:=∀e,e∈sF ds rs->(0<=e.1/\e.1<ds.length)/\0<=e.2/\e.2<ds.length
theorem Pt{ds rs:List AV}(h:(gg ds rs).2=0):Qj ds rs:=by
 intro e he
 obtain⟨r,h1,l,h2,h3,rfl⟩:=yv.1 he
 have:=zU h h1
 exact⟨this.1,this.2 l h2 h3⟩
end Go.Proofs.YtdpmikfheebicaaGreatDoor
namespace Go.Rl
open Go Go.Dn
theorem qz(D:List Int)(b:Int): ∃t td,D++[b]=t::td/\(t::td).dropLast=D/\dU (t::td)=b:=by
 cases D with
 |nil=>exact⟨b,[],rfl,rfl,rfl⟩
 | cons t D=>
  refine⟨t,D++[b],rfl,?_,?_⟩
  ·rw[←List.cons_append,List.dropLast_concat]
  ·have:=wI (t:=t) (todo:=D++[b])
   rw[←List.cons_append,List.dropLast_concat] at this
   simpa using List.append_inj_right this rfl
theorem vL{n m:Nat}{L:Gr}(hG:WG n m L){D met:List Int}{b:Int}(hs:Sd n m (D++[b]) met):
  tj n m L (D++[b]) met=bif met.contains b then tj n m L D met else tj n m L (D++L.at b) (met++[b]):=by
 obtain⟨t,td,e,e1,e2⟩:=qz D b
 rw[e] at hs⊢
 rw[FV hG hs,e1,e2]
theorem Sd.Pp{n m:Nat}{D met:List Int}{b:Int}(h:Sd n m (D++[b]) met):Sd n m D met/\ms n m D met<ms n m (D++[b]) met:=by
 obtain⟨t,td,e,e1,e2⟩:=qz D b
 rw[e] at h⊢
 have h1:=h.pop
 have h2:=yG n m t td met
 rw[e1] at h1 h2
 exact⟨h1,h2⟩
theorem Sd.O0{n m:Nat}{L:Gr}(hG:WG n m L){D met:List Int}{b:Int}(h:Sd n m (D++[b]) met)(hn:met.contains b=false):Sd n m (D++L.at b) (met++[b])/\ms n m (D++L.at b) (met++[b])<ms n m (D++[b]) met:=by
 obtain⟨t,td,e,e1,e2⟩:=qz D b
 have hb:=h.ht b (by simp)
 rw[e] at h⊢
 rw[←e2] at hn hb
 have h1:=h.add hG hn
 have h2:=yN hG t td met hb hn
 rw[e1,e2] at h1 h2
 exact⟨h1,h2⟩
end Go.Rl
namespace Go.Proofs.YtdpmikfheebicaaGreatDoor
open Go Go.Dn Go.Rl Go.Proofs
attribute [local irreducible] bg vc
set_option maxRecDepth 20000
abbrev fu(k:Int):Value:= .int .i64 k
def cH(L:Gr):List (List Value):=L.map fun l=>l.map fu
def gD(l:List Int):List (Value×AV):=l.map fun k=>(fu k, .lit (.bool true))
abbrev Oc(l:List Int):AV:= .iZ 3 4 (l.map fu) (l.map fun _=> .lit (.bool true))
theorem Dl: ∀(l:List (List Int)) (k:Nat),bB (l.map fun l=>l.map fu) k=(l.getD k []).map fu
 |[],k=>by cases k<;>rfl
 |_::_,0=>rfl
 |_::l,k+1=>by simpa[bB] using Dl l k
theorem lu(L:Gr)(a:Int):bB (cH L) a.toNat=(L.at a).map fu:=Dl L a.toNat
theorem kW(b:Int): ∀l:List Int,cM (gD l) (fu b) (.lit (.bool false))= .lit (.bool (l.contains b))
 |[]=>rfl
 |a::l=>by
  have ih:=kW b l
  simp only[gD,ac0,cM] at ih⊢
  have e:cD (fu b) (fu a)=(b==a):=by simp[cD]
  rw[e,ih,List.contains_cons]
  cases b==a<;>rfl
theorem po(b:Int): ∀l:List Int,eh (gD l) (fu b) (.lit (.bool true))=gD (bif l.contains b then l else l++[b])
 |[]=>rfl
 | a::l=>by
  have ih:=po b l
  simp only[gD,ac0,eh] at ih⊢
  have e:cD (fu b) (fu a)=(b==a):=by simp[cD]
  rw[e,ih,List.contains_cons]
  cases h:b==a with
  |true=>
   have:b=a:=by simpa using h
   subst this;rfl
  |false=>cases l.contains b<;>rfl
theorem sJ(l:List Int):(gD l).map (·.1)=l.map fu:=by simp[gD]
theorem sC(l:List Int):(gD l).map (·.2)=l.map fun _=> .lit (.bool true):=by simp[gD]
abbrev Ir(ls:List (List Value)):Dn.Obj:= .rows 48 3 ls none
abbrev r9(n:Nat)(ls:List (List Value))(fs:List AV):List Dn.Obj:=[.box 82 (.agg [.az 1 0 n, .az 2 0 fs.length]),Ir ls, .row 68 fs]
abbrev vz(n:Nat)(ls:List (List Value)):List Dn.Obj:=[.box 82 (.agg [.az 1 0 n, .nil]),Ir ls]
theorem KL(D tl:List AV)(x:AV):nth (D++x::tl) (0+D.length)=x:=by
 rw[Nat.zero_add]
 induction D with
 |nil=>rfl
 |cons a D ih=>exact ih
theorem DQ(D:List Int)(b:Int)(tl:List AV):((D++[b]).length:Int) - 1=D.length/\iA (D++[b])++tl=iA D++AV.int b::tl/\nth (iA D++AV.int b::tl) (0+D.length)=AV.int b/\(iA D++AV.int b::tl).take D.length=iA D/\toInt (AV.int b)=b:=by
 have e2:=KL (iA D) tl (AV.int b)
 rw[gG] at e2
 exact⟨by simp,by simp[iA],e2,List.take_left' (gG D),rfl⟩
theorem zr(L:Gr)(a:Int):(bB (cH L) a.toNat).length=(L.at a).length:=by rw[lu,List.length_map]
theorem yF(L:Gr)(a:Int):List.map AV.lit (List.take (bB (cH L) a.toNat).length (bB (cH L) a.toNat))=iA (L.at a):=by
 rw[List.take_length,lu,List.map_map];rfl
structure JW where
 n:Nat
 m:Nat
 L:Gr
 fs:List AV
 todo:List Int
 met:List Int
 tl:List AV
def xh(x:JW):Prop:=WG x.n x.m x.L/\Sd x.n x.m x.todo x.met/\(x.n+1)*x.m<=1000000000
def jz(x:JW):List Int:=tj x.n x.m x.L x.todo x.met
theorem Xk(κ:Kp)(N:Nat)(ls:List (List Value))(fs:List AV)(es:List (Value×AV))(ws:List AV)(k:Nat)(I:Nat->S->Prop)(n:Nat)(K:Exit->S->Prop):(vc (yV κ) 12 71 none 3 (ag (Pr κ).toProgram 71 3) (sp 48 [(0, .ptr 0 0 [] 0),(5, .mp 3),(6, .az 4 0 k)] (r9 N ls fs++[.map 3 4 es, .row 3 ws])) (bI (yV κ) 71 3 3 I n K))=(
 letI z2:=(↑k:Int) - (1:Int)
 letI z4:=IntKind.wrap IntKind.i64 z2
 letI z1:=nth ws (0+Int.toNat z4)
 letI z5:=AV.agg [AV.az 1 0 N,AV.az 2 0 fs.length]
 letI z6:=(0:Int)<=IntKind.wrap IntKind.i64 z2
 letI z7:=Value.int IntKind.i64 (toInt z1)
 letI z8:=bB ls (Int.toNat (toInt z1))
 letI z3:=List.take (List.length z8) z8
 ax (decide ((↑k:Int)>(0:Int))) (aO (decide z6&&decide (IntKind.wrap IntKind.i64 z2<(↑k:Int))) (aO (decide z6&&decide (IntKind.wrap IntKind.i64 z2
 <=IntKind.wrap IntKind.i64 z2)&&decide (IntKind.wrap IntKind.i64 z2<=(↑k:Int))) (ax (!Dn.toBool (cM es z7 (AV.bool false))) (aO (decide ((0:Int)<=toInt
 z1)&&decide (toInt z1<(↑N:Int))) (aO (decide ((Int.toNat z4+List.length (List.map AV.lit z3)+1)*9<=70368744177664)) (∃(e0:Nat),e0<n/\I e0
 (sp 48 [(0,AV.ptr 0 0 [] 0),(5,AV.mp 3),(6,AV.az 4 0 (Int.toNat z4+List.length (List.map AV.lit z3)))] [Obj.box 82 z5,Obj.rows 48 3 ls none,Obj.row 68
 fs,Dn.Obj.map 3 4 (eh es z7 (AV.bool true)),Obj.row 3 (List.take (Int.toNat z4) ws++List.map AV.lit z3)])))) (∃(e0:Nat),e0<n/\I e0 (sp 48 [(0,AV.ptr
 0 0 [] 0),(5,AV.mp 3),(6,AV.az 4 0 (Int.toNat z4))] [Obj.box 82 z5,Obj.rows 48 3 ls none,Obj.row 68 fs,Dn.Obj.map 3 4 es,Obj.row 3 ws]))))) (K
 (Exit.exit 0) (sp 48 [(5,AV.mp 3)] [Obj.box 82 z5,Obj.rows 48 3 ls none,Obj.row 68 fs,Dn.Obj.map 3 4 es]))):=by kernel_rfl
abbrev NV(x:JW):S:=sp 48 [(0, .ptr 0 0 [] 0),(5, .mp 3),(6, .az 4 0 x.todo.length)] (r9 x.n (cH x.L) x.fs++[.map 3 4 (gD x.met), .row 3 (iA x.todo++x.tl)])
def Ag(x:JW):Out (Exit×S):= .one (.exit 0,sp 48 [(5, .mp 3)] (r9 x.n (cH x.L) x.fs++[.map 3 4 (gD (jz x))]))
theorem Yg(κ:Kp):bn (yV κ) 12 71 3 (aQ 3 NV xh Ag):=by
 refine aR (fun x=>ms x.n x.m x.todo x.met) ?_
 rintro⟨n,m,L,fs,todo,met,tl⟩ K ⟨hG,hS,hb⟩ ho
 simp only at hG hS hb
 rw[show(yV κ).P=Pr κ from rfl]
 refine Eq.mpr (Xk κ n (cH L) fs (gD met) (iA todo++tl) todo.length _ _ K) ?_
 simp only[Ag,jz,Out.run] at ho
 rw[af,aa0,aa2]
 refine⟨fun h=>?_,fun h=>?_⟩
 ·obtain⟨D,b,rfl⟩: ∃D b,todo=D++[b]:=⟨_,_,(List.dropLast_concat_getLast (by intro e;subst e;simp at h)).symm⟩
  have hle:=hS.le
  have hbr:=hS.ht b (by simp)
  have hlm:=hG.le b
  have hlen:=hG.len
  have hmn:m<=(n+1)*m:=Nat.le_mul_of_pos_left m (Nat.succ_pos n)
  obtain⟨e0,e1,e2,e3,e4⟩:=DQ D b tl
  simp only[ab8,List.length_singleton] at hle
  rw[e0,a5 (n:=(D.length:Int)) (by omega) (by omega),e1,Int.toNat_natCast,e2,e3,e4,kW,po,lu,List.take_length,List.map_map]
  rw[vL hG hS] at ho
  simp only[au,af,aa0,aa1,List.length_map,ab8,List.length_singleton,show Dn.toBool (AV.lit (.bool (met.contains b)))=met.contains b from rfl]
  refine⟨⟨by omega,by omega⟩,⟨⟨by omega,by omega⟩,by omega⟩,fun e=>?_,fun e=>?_⟩
  ·have e:met.contains b=false:=by simpa using e
   obtain⟨h1,h2⟩:=hS.O0 hG e
   rw[e,aa5] at ho
   refine⟨⟨by omega,by omega⟩,by omega,_,h2,⟨n,m,L,fs,D++L.at b,met++[b],[]⟩,?_,⟨hG,h1,hb⟩,rfl,?_⟩
   ·rw[e,aa5]
    simp only[NV,List.append_nil,ab8,yi]
    rfl
   ·simp only[Ag,jz,Out.run]
    exact ho
  ·have e:met.contains b=true:=by simpa using e
   obtain⟨h1,h2⟩:=hS.Pp
   rw[e,aa7] at ho
   refine⟨_,h2,⟨n,m,L,fs,D,met,AV.int b::tl⟩,rfl,⟨hG,h1,hb⟩,rfl,?_⟩
   simp only[Ag,jz,Out.run]
   exact ho
 ·obtain rfl:todo=[]:=List.eq_nil_of_length_eq_zero (by omega)
  rw[Bf] at ho
  exact ho
theorem xRz(κ:Kp)(N:Nat)(ls:List (List Value))(es:List (Value×AV))(ws:List AV)(k:Nat)(I:Nat->S->Prop)(n:Nat)(K:Exit->S->Prop):(vc (yV κ) 12 71 none 2 (ag (Pr κ).toProgram 71 3) (sp 48 [(0, .ptr 0 0 [] 0),(5, .mp 2),(6, .az 3 0 k)] (vz N ls++[.map 3 4 es, .row 3 ws])) (bI (yV κ) 71 3 2 I n K))=(
 letI z2:=(↑k:Int) - (1:Int)
 letI z4:=IntKind.wrap IntKind.i64 z2
 letI z1:=nth ws (0+Int.toNat z4)
 letI z5:=AV.agg [AV.az 1 0 N,AV.nil]
 letI z6:=(0:Int)<=IntKind.wrap IntKind.i64 z2
 letI z7:=Value.int IntKind.i64 (toInt z1)
 letI z8:=bB ls (Int.toNat (toInt z1))
 letI z3:=List.take (List.length z8) z8
 ax (decide ((↑k:Int)>(0:Int))) (aO (decide z6&&decide (IntKind.wrap IntKind.i64 z2<(↑k:Int))) (aO (decide z6&&decide (IntKind.wrap IntKind.i64 z2
 <=IntKind.wrap IntKind.i64 z2)&&decide (IntKind.wrap IntKind.i64 z2<=(↑k:Int))) (ax (!Dn.toBool (cM es z7 (AV.bool false))) (aO (decide ((0:Int)<=toInt
 z1)&&decide (toInt z1<(↑N:Int))) (aO (decide ((Int.toNat z4+List.length (List.map AV.lit z3)+1)*9<=70368744177664)) (∃(e0:Nat),e0<n/\I e0
 (sp 48 [(0,AV.ptr 0 0 [] 0),(5,AV.mp 2),(6,AV.az 3 0 (Int.toNat z4+List.length (List.map AV.lit z3)))] [Obj.box 82 z5,Obj.rows 48 3 ls none,Dn.Obj.map
 3 4 (eh es z7 (AV.bool true)),Obj.row 3 (List.take (Int.toNat z4) ws++List.map AV.lit z3)])))) (∃(e0:Nat),e0<n/\I e0 (sp 48 [(0,AV.ptr 0 0 [] 0),(5,
 AV.mp 2),(6,AV.az 3 0 (Int.toNat z4))] [Obj.box 82 z5,Obj.rows 48 3 ls none,Dn.Obj.map 3 4 es,Obj.row 3 ws]))))) (K (Exit.exit 0) (sp 48 [(5,AV.mp 2)]
 [Obj.box 82 z5,Obj.rows 48 3 ls none,Dn.Obj.map 3 4 es]))):=by kernel_rfl
abbrev M7(x:JW):S:=sp 48 [(0, .ptr 0 0 [] 0),(5, .mp 2),(6, .az 3 0 x.todo.length)] (vz x.n (cH x.L)++[.map 3 4 (gD x.met), .row 3 (iA x.todo++x.tl)])
def Au(x:JW):Out (Exit×S):= .one (.exit 0,sp 48 [(5, .mp 2)] (vz x.n (cH x.L)++[.map 3 4 (gD (jz x))]))
theorem lRz(κ:Kp):bn (yV κ) 12 71 3 (aQ 2 M7 xh Au):=by
 refine aR (fun x=>ms x.n x.m x.todo x.met) ?_
 rintro⟨n,m,L,fs,todo,met,tl⟩ K ⟨hG,hS,hb⟩ ho
 simp only at hG hS hb
 rw[show(yV κ).P=Pr κ from rfl]
 refine Eq.mpr (xRz κ n (cH L) (gD met) (iA todo++tl) todo.length _ _ K) ?_
 simp only[Au,jz,Out.run] at ho
 rw[af,aa0,aa2]
 refine⟨fun h=>?_,fun h=>?_⟩
 ·obtain⟨D,b,rfl⟩: ∃D b,todo=D++[b]:=⟨_,_,(List.dropLast_concat_getLast (by intro e;subst e;simp at h)).symm⟩
  have hle:=hS.le
  have hbr:=hS.ht b (by simp)
  have hlm:=hG.le b
  have hlen:=hG.len
  have hmn:m<=(n+1)*m:=Nat.le_mul_of_pos_left m (Nat.succ_pos n)
  obtain⟨e0,e1,e2,e3,e4⟩:=DQ D b tl
  simp only[ab8,List.length_singleton] at hle
  rw[e0,a5 (n:=(D.length:Int)) (by omega) (by omega),e1,Int.toNat_natCast,e2,e3,e4,kW,po,lu,List.take_length,List.map_map]
  rw[vL hG hS] at ho
  simp only[au,af,aa0,aa1,List.length_map,ab8,List.length_singleton,show Dn.toBool (AV.lit (.bool (met.contains b)))=met.contains b from rfl]
  refine⟨⟨by omega,by omega⟩,⟨⟨by omega,by omega⟩,by omega⟩,fun e=>?_,fun e=>?_⟩
  ·have e:met.contains b=false:=by simpa using e
   obtain⟨h1,h2⟩:=hS.O0 hG e
   rw[e,aa5] at ho
   refine⟨⟨by omega,by omega⟩,by omega,_,h2,⟨n,m,L,fs,D++L.at b,met++[b],[]⟩,?_,⟨hG,h1,hb⟩,rfl,?_⟩
   ·rw[e,aa5]
    simp only[M7,List.append_nil,ab8,yi]
    rfl
   ·simp only[Au,jz,Out.run]
    exact ho
  ·have e:met.contains b=true:=by simpa using e
   obtain⟨h1,h2⟩:=hS.Pp
   rw[e,aa7] at ho
   refine⟨_,h2,⟨n,m,L,fs,D,met,AV.int b::tl⟩,rfl,⟨hG,h1,hb⟩,rfl,?_⟩
   simp only[Au,jz,Out.run]
   exact ho
 ·obtain rfl:todo=[]:=List.eq_nil_of_length_eq_zero (by omega)
  rw[Bf] at ho
  exact ho
def ON(s:S):Bool:=Nat.beq s.st.length 5
noncomputable def Ny(κ:Kp):Env:=(yV κ).aj 71 3 (pn ON (aQ 3 NV xh Ag) (aQ 2 M7 xh Au))
theorem WX(κ:Kp):aC (Ny κ):=(Xj κ).aj (Uo κ) (nw (Yg κ) (lRz κ))
theorem TG(κ:Kp):ai (Ny κ):=(Uo κ).aj (jU aG aG)
structure NX where
 n:Nat
 m:Nat
 L:Gr
 fs:List AV
 a:Int
def D2(x:NX):Prop:=WG x.n x.m x.L/\(x.n+1)*x.m<=1000000000/\0<=x.a/\x.a<x.n
theorem X6(κ:Kp)(N:Nat)(ls:List (List Value))(fs:List AV)(a:Int)(K:AV->List Dn.Obj->Prop):(bg (Ny κ) 12 71 [.ptr 0 0 [] 0, .int a] (r9 N ls fs) K)=(
 letI z2:=Pg.toProgram (Env.P (yV κ))
 letI z3:=List.length (bB ls a.toNat)
 letI z1:=List.take z3 (bB ls a.toNat)
 aO (decide ((0:Int)<=a)&&decide (a<(↑N:Int))) ((Nat.beq z3 0=true->ag z2 71 3=ag z2 71 3/\∃(e1:JW),sp 48 [(0,AV.ptr 0 0 [] 0),(5,AV.mp 3),
 (6,AV.az 4 0 0)] [Obj.box 82 (AV.agg [AV.az 1 0 N,AV.az 2 0 fs.length]),Obj.rows 48 3 ls none,Obj.row 68 fs,Dn.Obj.map 3 4 [],Obj.row 3 []]=sp 48 [(0,
 AV.ptr 0 0 [] 0),(5,AV.mp 3),(6,AV.az 4 0 e1.todo.length)] [Obj.box 82 (AV.agg [AV.az 1 0 e1.n,AV.az 2 0 e1.fs.length]),Obj.rows 48 3 (cH e1.L) none,
 Obj.row 68 e1.fs,Dn.Obj.map 3 4 (gD e1.met),Obj.row 3 (iA e1.todo++e1.tl)]/\(WG e1.n e1.m e1.L/\Sd e1.n e1.m e1.todo e1.met/\(e1.n+1)*e1.m<=
 1000000000)/\K (AV.iZ 3 4 (List.map (fun(e0:Value×AV)=>e0.1) (gD (jz e1))) (List.map (fun(e0:Value×AV)=>e0.2) (gD (jz e1)))) [Obj.box 82 (AV.agg
 [AV.az 1 0 e1.n,AV.az 2 0 e1.fs.length]),Obj.rows 48 3 (cH e1.L) none,Obj.row 68 e1.fs])/\aO (decide ((0+List.length (List.map AV.lit z1)+1)*9<=
 70368744177664)) (ag z2 71 3=ag z2 71 3/\∃(e1:JW),sp 48 [(0,AV.ptr 0 0 [] 0),(5,AV.mp 3),(6,AV.az 4 0 (0+List.length (List.map AV.lit z1)))]
 [Obj.box 82 (AV.agg [AV.az 1 0 N,AV.az 2 0 fs.length]),Obj.rows 48 3 ls none,Obj.row 68 fs,Dn.Obj.map 3 4 [],Obj.row 3 ([]++List.map AV.lit z1)]=sp 48
 [(0,AV.ptr 0 0 [] 0),(5,AV.mp 3),(6,AV.az 4 0 e1.todo.length)] [Obj.box 82 (AV.agg [AV.az 1 0 e1.n,AV.az 2 0 e1.fs.length]),Obj.rows 48 3 (cH e1.L) none,
 Obj.row 68 e1.fs,Dn.Obj.map 3 4 (gD e1.met),Obj.row 3 (iA e1.todo++e1.tl)]/\(WG e1.n e1.m e1.L/\Sd e1.n e1.m e1.todo e1.met/\(e1.n+1)*e1.m<=
 1000000000)/\K (AV.iZ 3 4 (List.map (fun(e0:Value×AV)=>e0.1) (gD (jz e1))) (List.map (fun(e0:Value×AV)=>e0.2) (gD (jz e1)))) [Obj.box 82 (AV.agg
 [AV.az 1 0 e1.n,AV.az 2 0 e1.fs.length]),Obj.rows 48 3 (cH e1.L) none,Obj.row 68 e1.fs]))):=by kernel_rfl
def L5(x:NX):List AV×List Dn.Obj:=([.ptr 0 0 [] 0, .int x.a],r9 x.n (cH x.L) x.fs)
def Bx(x:NX):Out (AV×List Dn.Obj):= .one (Oc (gp x.n x.m x.L x.a),r9 x.n (cH x.L) x.fs)
theorem Yf(κ:Kp):bz (Ny κ) 12 71 (aZ L5 D2 Bx):=by
 refine bh ?_
 rintro⟨n,m,L,fs,a⟩ K ⟨hG,hb,h0,h1⟩ ho
 simp only at hG hb h0 h1
 refine Eq.mpr (X6 κ n (cH L) fs a K) ?_
 simp only[Bx,Out.run,gp] at ho
 have hS:=Sd.start hG h0
 have hle:=hG.le a
 have hmn:m<=(n+1)*m:=Nat.le_mul_of_pos_left m (Nat.succ_pos n)
 rw[yF,gG,zr,au,au,aa1,aa0,aa0,aa0]
 refine⟨⟨h0,h1⟩,fun e=>⟨rfl,⟨n,m,L,fs,[],[],[]⟩,rfl,⟨hG,?_,hb⟩,?_⟩,by omega,rfl,⟨n,m,L,fs,L.at a,[],[]⟩,?_,⟨hG,hS,hb⟩,?_⟩
 ·have e:L.at a=[]:=List.eq_nil_of_length_eq_zero (Nat.eq_of_beq_eq_true e)
  have h2:=hS
  rw[e] at h2;exact h2
 ·have e:L.at a=[]:=List.eq_nil_of_length_eq_zero (Nat.eq_of_beq_eq_true e)
  rw[e] at ho
  simp only[sJ,sC]
  exact ho
 ·simp only[List.append_nil,Nat.zero_add]
  rfl
 ·simp only[sJ,sC]
  exact ho
theorem VT(κ:Kp)(N:Nat)(ls:List (List Value))(a:Int)(K:AV->List Dn.Obj->Prop):(bg (Ny κ) 12 71 [.ptr 0 0 [] 0, .int a] (vz N ls) K)=(
 letI z2:=Pg.toProgram (Env.P (yV κ))
 letI z3:=List.length (bB ls a.toNat)
 letI z1:=List.take z3 (bB ls a.toNat)
 aO (decide ((0:Int)<=a)&&decide (a<(↑N:Int))) ((Nat.beq z3 0=true->ag z2 71 3=ag z2 71 3/\∃(e1:JW),sp 48 [(0,AV.ptr 0 0 [] 0),(5,AV.mp 2),
 (6,AV.az 3 0 0)] [Obj.box 82 (AV.agg [AV.az 1 0 N,AV.nil]),Obj.rows 48 3 ls none,Dn.Obj.map 3 4 [],Obj.row 3 []]=sp 48 [(0,AV.ptr 0 0 [] 0),(5,AV.mp
 2),(6,AV.az 3 0 e1.todo.length)] [Obj.box 82 (AV.agg [AV.az 1 0 e1.n,AV.nil]),Obj.rows 48 3 (cH e1.L) none,Dn.Obj.map 3 4 (gD e1.met),Obj.row 3 (iA
 e1.todo++e1.tl)]/\(WG e1.n e1.m e1.L/\Sd e1.n e1.m e1.todo e1.met/\(e1.n+1)*e1.m<=1000000000)/\K (AV.iZ 3 4 (List.map (fun(e0:Value×AV)=>e0.1)
 (gD (jz e1))) (List.map (fun(e0:Value×AV)=>e0.2) (gD (jz e1)))) [Obj.box 82 (AV.agg [AV.az 1 0 e1.n,AV.nil]),Obj.rows 48 3 (cH e1.L) none])/\aO
 (decide ((0+List.length (List.map AV.lit z1)+1)*9<=70368744177664)) (ag z2 71 3=ag z2 71 3/\∃(e1:JW),sp 48 [(0,AV.ptr 0 0 [] 0),(5,AV.mp 2),
 (6,AV.az 3 0 (0+List.length (List.map AV.lit z1)))] [Obj.box 82 (AV.agg [AV.az 1 0 N,AV.nil]),Obj.rows 48 3 ls none,Dn.Obj.map 3 4 [],Obj.row 3 ([]++
 List.map AV.lit z1)]=sp 48 [(0,AV.ptr 0 0 [] 0),(5,AV.mp 2),(6,AV.az 3 0 e1.todo.length)] [Obj.box 82 (AV.agg [AV.az 1 0 e1.n,AV.nil]),Obj.rows 48 3
 (cH e1.L) none,Dn.Obj.map 3 4 (gD e1.met),Obj.row 3 (iA e1.todo++e1.tl)]/\(WG e1.n e1.m e1.L/\Sd e1.n e1.m e1.todo e1.met/\(e1.n+1)*e1.m<=
 1000000000)/\K (AV.iZ 3 4 (List.map (fun(e0:Value×AV)=>e0.1) (gD (jz e1))) (List.map (fun(e0:Value×AV)=>e0.2) (gD (jz e1)))) [Obj.box 82 (AV.agg
 [AV.az 1 0 e1.n,AV.nil]),Obj.rows 48 3 (cH e1.L) none]))):=by kernel_rfl
def Mu(x:NX):List AV×List Dn.Obj:=([.ptr 0 0 [] 0, .int x.a],vz x.n (cH x.L))
def CD(x:NX):Out (AV×List Dn.Obj):= .one (Oc (gp x.n x.m x.L x.a),vz x.n (cH x.L))
theorem V8(κ:Kp):bz (Ny κ) 12 71 (aZ Mu D2 CD):=by
 refine bh ?_
 rintro⟨n,m,L,fs,a⟩ K ⟨hG,hb,h0,h1⟩ ho
 simp only at hG hb h0 h1
 refine Eq.mpr (VT κ n (cH L) a K) ?_
 simp only[CD,Out.run,gp] at ho
 have hS:=Sd.start hG h0
 have hle:=hG.le a
 have hmn:m<=(n+1)*m:=Nat.le_mul_of_pos_left m (Nat.succ_pos n)
 rw[yF,gG,zr,au,au,aa1,aa0,aa0,aa0]
 refine⟨⟨h0,h1⟩,fun e=>⟨rfl,⟨n,m,L,fs,[],[],[]⟩,rfl,⟨hG,?_,hb⟩,?_⟩,by omega,rfl,⟨n,m,L,fs,L.at a,[],[]⟩,?_,⟨hG,hS,hb⟩,?_⟩
 ·have e:L.at a=[]:=List.eq_nil_of_length_eq_zero (Nat.eq_of_beq_eq_true e)
  have h2:=hS
  rw[e] at h2;exact h2
 ·have e:L.at a=[]:=List.eq_nil_of_length_eq_zero (Nat.eq_of_beq_eq_true e)
  rw[e] at ho
  simp only[sJ,sC]
  exact ho
 ·simp only[List.append_nil,Nat.zero_add]
  rfl
 ·simp only[sJ,sC]
  exact ho
def Bz(sel:List Dn.Obj->Bool)(a b:cX):cX:=fun args st K=>bif sel st then a args st K else b args st K
theorem ru{sel:List Dn.Obj->Bool}{a b:cX}(ha:a.jI)(hb:b.jI):(Bz sel a b).jI:=fun args st K K' hK h=>by
 unfold Bz at h⊢
 cases hs:sel st<;>simp only[hs] at h⊢
 ·exact hb _ _ _ _ hK h
 ·exact ha _ _ _ _ hK h
theorem yx{E:Env}{N f:Nat}{sel:List Dn.Obj->Bool}{a b:cX}(ha:bz E N f a)(hb:bz E N f b):bz E N f (Bz sel a b):=fun args st K h=>by
 unfold Bz at h
 cases hs:sel st<;>rw[hs] at h
 ·exact hb _ _ _ h
 ·exact ha _ _ _ h
def Qx(st:List Dn.Obj):Bool:=Nat.beq st.length 3
noncomputable def Ms(κ:Kp):Env:=(Ny κ).aw 71 (Bz Qx (aZ L5 D2 Bx) (aZ Mu D2 CD))
theorem ZL(κ:Kp):aC (Ms κ):=(WX κ).aw (TG κ) (yx (Yf κ) (V8 κ))
theorem TQ(κ:Kp):ai (Ms κ):=(TG κ).aw (ru aI aI)
def RN:List Nat:=113::Km
noncomputable abbrev Pm(κ:Kp)(ds rs:List AV):Dn.Obj:=
 .loop (il (Pr κ).toProgram 36 3 .ready none (ie (bK 63) [(0,gz ds rs),(1, .ptr 0 0 [] 0),(2, .lit (.pointer none)),(3, .ptr 3 0 [] 0),(7, .ptr 0 0 [0] 0),(8, .ae 62 ds),(9, .int ds.length),(10, .az 1 0 ds.length),(11, .agg [.az 1 0 ds.length, .nil]),(12, .ptr 2 0 [] 0),(13,gz ds rs),(14, .bP 113 [.ptr 4 0 [] 0])]))
noncomputable abbrev oC(κ:Kp)(ds rs:List AV):List Dn.Obj:=[.box 25 (gz ds rs),Ir (List.replicate ds.length []), .box 82 (.agg [.az 1 0 ds.length, .nil]), .box 66 (.ptr 2 0 [] 0), .box 25 (gz ds rs),Pm κ ds rs]
noncomputable abbrev zD(κ:Kp)(ds rs:List AV)(ls:List (List Value)):List Dn.Obj:=[.box 25 (gz ds rs),Ir ls, .box 82 (.agg [.az 1 0 ds.length, .nil]), .box 66 (.ptr 2 0 [] 0), .dead,Pm κ ds rs]
theorem Zp(κ:Kp)(ds rs:List AV)(Q:List Dn.Obj->Prop):(tidy (Pr κ).toProgram 6 (dY (oC κ ds rs) (du (oC κ ds rs) [.ptr 4 0 [] 0])) Q)=(
 Q [Obj.box 25 (AV.agg [AV.ae 62 ds,AV.ae 41 rs]),Obj.rows 48 3 (List.replicate ds.length []) none,Obj.box 82 (AV.agg [AV.az 1 0 ds.length,AV.nil]),Obj.box
 66 (AV.ptr 2 0 [] 0),Obj.dead,Dn.Obj.loop (il Tryz.prog 36 3 LoopState.ready none (ie (bK 63) [(0,AV.agg [AV.ae 62 ds,AV.ae 41 rs]),(1,AV.ptr 0 0 [] 0),
 (2,AV.lit (Value.pointer none)),(3,AV.ptr 3 0 [] 0),(7,AV.ptr 0 0 [0] 0),(8,AV.ae 62 ds),(9,AV.int (↑(ds.length):Int)),(10,AV.az 1 0 ds.length),
 (11,AV.agg [AV.az 1 0 ds.length,AV.nil]),(12,AV.ptr 2 0 [] 0),(13,AV.agg [AV.ae 62 ds,AV.ae 41 rs]),(14,AV.bP 113 [AV.ptr 4 0 [] 0])]))]):=by kernel_rfl
theorem Y9(κ:Kp)(ds rs:List AV)(ls:List (List Value))(a b:Int)(Q:List Dn.Obj->Prop)(K2:List Dn.Obj->Prop):(jf (vc (Ms κ) 12) 5 [.int a, .int b] (zD κ ds rs ls) (fun r st''=>match r with| .lit (.bool true)=>tidy (Pr κ).toProgram 6 st'' Q| .lit (.bool false)=>K2 st''|_=>False))=(
 letI z2:=il Tryz.prog 36 3 LoopState.ready none (ie (bK 63) [(0,AV.agg [AV.ae 62 ds,AV.ae 41 rs]),(1,AV.ptr 0 0 [] 0),(2,AV.lit (Value.pointer none)),
  (3,AV.ptr 3 0 [] 0),(7,AV.ptr 0 0 [0] 0),(8,AV.ae 62 ds),(9,AV.int (↑(ds.length):Int)),(10,AV.az 1 0 ds.length),(11,AV.agg [AV.az 1 0 ds.length,
  AV.nil]),(12,AV.ptr 2 0 [] 0),(13,AV.agg [AV.ae 62 ds,AV.ae 41 rs]),(14,AV.bP 113 [AV.ptr 4 0 [] 0])])
 letI z4:=decide ((0:Int)<=a)&&decide (a<(↑(ds.length):Int))
 letI z5:=bB ls a.toNat
 letI z3:=decide (List.length z5=List.length z5)&&decide ((List.length z5+1+1)*9<=70368744177664)
 letI z6:=Dn.iV ls a.toNat (bB ls a.toNat++[Value.int IntKind.i64 b])
 letI z7:=List.map AV.lit (List.take (List.length z5) z5)
 letI z8:=AV.agg [AV.az 1 0 ds.length,AV.nil]
 letI z9:=AV.agg [AV.ae 62 ds,AV.ae 41 rs]
 letI z1:=aO z4 (aO (decide (a.toNat=a.toNat)&&decide (a.toNat=a.toNat)&&decide (List.length z5+1=List.length (bB z6 a.toNat))) (Q [Obj.box 25 z9,
  Obj.rows 48 3 z6 none,Obj.box 82 z8,Obj.box 66 (AV.ptr 2 0 [] 0),Obj.dead,Dn.Obj.loop z2]))
 aO z4 (aO (decide (List.length z7<=9223372036854775807)) (ax (!N9 b z7) (aO z4 (aO z3 z1/\aO z3 z1)) (Q [Obj.box 25 z9,Obj.rows 48 3 ls none,Obj.box 82 z8,
 Obj.box 66 (AV.ptr 2 0 [] 0),Obj.dead,Dn.Obj.loop z2])))):=by kernel_rfl
theorem Vf(κ:Kp)(ds rs xs:List AV):(AV.cx 0::fB (lj (du (oC κ ds rs) [.ptr 4 0 [] 0])) [.ptr 4 0 [] 0],Obj.ext (some xs)::gJ (lj (du (oC κ ds rs) [.ptr 4 0 [] 0])) (gQ (oC κ ds rs) (du (oC κ ds rs) [.ptr 4 0 [] 0])))=([.cx 0, .ptr 1 0 [] 0],[.ext (some xs), .box 25 (gz ds rs)]):=by kernel_rfl
theorem WM(κ:Kp)(ds rs:List AV):rH (oC κ ds rs) [.ptr 4 0 [] 0]=true:=by kernel_rfl
theorem Am: ∀(L:Gr) (k:Nat) (x:List Int),Dn.iV (cH L) k (x.map fu)=cH (L.set k x)
 |[],k,x=>by cases k<;>rfl
 |_::_,0,x=>rfl
 |a::L,k+1,x=>by
  have ih:=Am L k x
  simp only[cH,ac0,Dn.iV,List.set_cons_succ] at ih⊢
  rw[ih]
theorem Kb(n:Nat):cH (List.replicate n [])=List.replicate n []:=by simp[cH]
structure mm(ds rs:List AV):Prop where
 hd:ds.length<=60
 hr:rs.length<=200
 bs: ∀r,r∈rs->(ah (ad r 1)).length<=20
 ed:Qj ds rs
theorem DJ(ds:List AV)(a:Int): ∀bl:List AV,(CL ds a bl).length<=bl.length
 |[]=>Nat.le_refl _
 |l::bl=>by
  have ih:=DJ ds a bl
  rw[CL]
  cases dm (toInt (ad l 0)) with
  |true=>rw[aa7];simp only[List.length_cons];omega
  |false=>rw[aa5];simp only[List.length_cons];omega
theorem xE(ds:List AV): ∀rs:List AV,(∀r,r∈rs->(ah (ad r 1)).length<=20)->(sF ds rs).length<=rs.length*20
 |[],_=>Nat.le_refl _
 |r::rs,h=>by
  have ih:=xE ds rs fun x hx=>h x (by simp[hx])
  have h1:=DJ ds (de (toStr (ad (ad r 0) 0)) ds) (ah (ad r 1))
  have h2:=h r (by simp)
  simp only[sF,List.flatMap_cons,ab8,List.length_cons,Uc] at ih h1⊢
  omega
noncomputable def NW(κ:Kp):eM:=fun caps st K=>∃x:ga,(caps,st)=([AV.ptr 4 0 [] 0],oC κ x.1 x.2)/\mm x.1 x.2/\K (zD κ x.1 x.2 (cH (qD x.1.length (sF x.1 x.2))))
theorem Gw(κ:Kp):(NW κ).jI:=by
 rintro caps st K K' hK ⟨a,h1,h2,h3⟩
 exact⟨a,h1,h2,hK _ h3⟩
theorem M0(κ:Kp)(args:List AV)(st:List Dn.Obj)(K:AV->List Dn.Obj->Prop)(h:aZ Nr CP JP args st K):(Ms κ).call 113 args st K:=h
theorem ZY(κ:Kp):nT (Ms κ) 12 113 (NW κ):=by
 rintro caps st K ⟨⟨ds,rs⟩,h1,hf,h5⟩
 obtain⟨rfl,rfl⟩:=Prod.mk.inj h1
 simp only at hf h5
 have hd:=hf.hd
 have hr:=hf.hr
 have hl:=xE ds rs hf.bs
 refine⟨zd (sF ds rs),fun items st'=>∃E1 E2,items=zd E2/\st'=zD κ ds rs (cH (qD ds.length E1))/\E1++E2=sF ds rs,⟨WM κ ds rs,?_,?_,?_,?_⟩⟩
 ·refine M0 κ _ _ _ ⟨(ds,rs),?_,⟨by simp only[aP];omega,by simp only[aP];omega,fun r hr=>?_⟩,fun st' h=>h⟩
  ·rw[Vf];rfl
  ·have:=hf.bs r hr;simp only[aP];omega
 ·rw[show(Ms κ).P=Pr κ from rfl,show(oC κ ds rs).length=6 from rfl,Zp]
  refine⟨[],sF ds rs,rfl,?_,rfl⟩
  rw[qD,List.foldl_nil,Kb]
 ·rintro us rest st' ⟨E1,E2,e1,rfl,e3⟩
  cases E2 with
  |nil=>cases e1
  | cons e E2=>
   obtain⟨a,b⟩:=e
   obtain⟨hu,rfl⟩:=List.cons.inj e1
   obtain rfl:=AV.bp.inj hu
   rw[show(Ms κ).P=Pr κ from rfl,show(oC κ ds rs).length=6 from rfl]
   refine Eq.mpr (Y9 κ ds rs _ a b _ _) ?_
   have hab:=hf.ed (a,b) (by rw[←e3];simp)
   simp only at hab
   have hg:qD ds.length (E1++[(a,b)])=mG (qD ds.length E1) (a,b):=by simp[qD,List.foldl_append]
   have hlen:(qD ds.length E1).length=ds.length:=by unfold qD;rw[qQ];simp
   have hle:((qD ds.length E1).at a).length<=E1.length:=by
    have:=HX E1 (List.replicate ds.length []) a
    rw[BR] at this
    simpa[qD] using this
   have hE:E1.length<=(sF ds rs).length:=by rw[←e3];simp
   have next: ∀st',st'=zD κ ds rs (cH (mG (qD ds.length E1) (a,b)))->∃F1 F2,zd E2=zd F2/\st'=zD κ ds rs (cH (qD ds.length F1))/\F1++F2=sF ds rs:=fun st' h=>⟨E1++[(a,b)],E2,rfl,by rw[hg,h],by rw[←e3];simp⟩
   rw[yF,Ic,lu,show[Value.int IntKind.i64 b]=[b].map fu from rfl,←List.map_append,Am]
   have e4:(bB (cH ((qD ds.length E1).set a.toNat ((qD ds.length E1).at a++[b]))) a.toNat).length=((qD ds.length E1).at a).length+1:=by
    rw[lu,Cu _ _ _ _ (by omega),if_pos rfl];simp
   rw[e4]
   simp only[au,af,aa1,aa0,List.length_map,gG]
   refine⟨⟨by omega,by omega⟩,by omega,fun e=>⟨⟨by omega,by omega⟩,?_⟩,fun e=>next _ ?_⟩
   ·have e:((qD ds.length E1).at a).contains b=false:=by simpa using e
    have e5:mG (qD ds.length E1) (a,b)=(qD ds.length E1).set a.toNat ((qD ds.length E1).at a++[b]):=by
     unfold mG;rw[e,aa5]
    rw[e5] at next
    exact⟨⟨⟨trivial,by omega⟩,⟨by omega,by omega⟩,⟨⟨trivial,trivial⟩,trivial⟩,next _ rfl⟩,⟨trivial,by omega⟩,⟨by omega,by omega⟩,⟨⟨trivial,trivial⟩,trivial⟩,next _ rfl⟩
   ·have e:((qD ds.length E1).at a).contains b=true:=by simpa using e
    unfold mG;rw[e,aa7]
 ·rintro st' ⟨E1,E2,e1,rfl,e3⟩
  obtain rfl:E2=[]:=by cases E2 with|nil=>rfl|cons _ _=>cases e1
  rw[List.append_nil] at e3
  rw[e3];exact h5
noncomputable def HB(κ:Kp):Env:=((Ms κ).addRange 36 3 113 (NW κ)).dM (fun f=>kh f RN)
theorem U9(κ:Kp):aC (HB κ):=((ZL κ).addRange (TQ κ) (ZY κ)).dM _
theorem Tf(κ:Kp):ai (HB κ):=((TQ κ).addRange (Gw κ)).dM _
theorem VM(κ:Kp)(N i:Nat)(ls:List (List Value))(fs:List AV)(I:Nat->S->Prop)(n:Nat)(K:Exit->S->Prop):(vc (HB κ) 12 36 none 0 (ag (Pr κ).toProgram 36 8) (sp 63 [(3, .ptr 0 0 [] 0),(45, .int N),(46, .int i)] [.box 66 (.ptr 1 0 [] 0), .box 82 (.agg [.az 2 0 N, .az 3 0 fs.length]),Ir ls, .row 68 fs]) (bI (HB κ) 36 8 0 I n K))=(
 letI z1:=AV.ptr 1 0 [] 0
 letI z2:=AV.agg [AV.az 2 0 N,AV.az 3 0 fs.length]
 ax (decide ((↑i:Int)<(↑N:Int))) (∃(e2:NX),([AV.ptr 0 0 [] 0,AV.int (↑i:Int)],[Obj.box 82 (AV.agg [AV.az 1 0 N,AV.az 2 0 fs.length]),Obj.rows 48
 3 ls none,Obj.row 68 fs])=([AV.ptr 0 0 [] 0,AV.int e2.a],[Obj.box 82 (AV.agg [AV.az 1 0 e2.n,AV.az 2 0 e2.fs.length]),Obj.rows 48 3 (cH e2.L) none,
 Obj.row 68 e2.fs])/\(WG e2.n e2.m e2.L/\(e2.n+1)*e2.m<=1000000000/\(0:Int)<=e2.a/\e2.a<(↑(e2.n):Int))/\(Obj.box 66 z1=Obj.box 66 z1/\Obj.box
 82 (AV.agg [AV.az 2 0 e2.n,AV.az 3 0 e2.fs.length])=Obj.box 82 z2/\Obj.rows 48 3 (cH e2.L) none=Obj.rows 48 3 ls none/\True)/\aO (decide ((fs.length+1
 +1)*9<=70368744177664)) (∃(e1:Nat),e1<n/\I e1 (sp 63 [(3,AV.ptr 0 0 [] 0),(45,AV.int (↑N:Int)),(46,AV.int (IntKind.wrap IntKind.i64 ((↑i:
 Int)+(1:Int))))] [Obj.box 66 z1,Obj.box 82 (AV.agg [AV.az 2 0 e2.n,AV.az 3 0 (fs.length+1)]),Obj.rows 48 3 (cH e2.L) none,Obj.row 68 (List.take
 fs.length e2.fs++[AV.iZ 3 4 (List.map fu (gp e2.n e2.m e2.L e2.a)) (List.map (fun(e0:Int)=>AV.bool true) (gp e2.n e2.m e2.L e2.a))])]))) (K (Exit.exit 2)
 (sp 63 [(3,AV.ptr 0 0 [] 0)] [Obj.box 66 z1,Obj.box 82 z2,Obj.rows 48 3 ls none,Obj.row 68 fs]))):=by kernel_rfl
theorem Y6(κ:Kp)(N:Nat)(ls:List (List Value))(I:Nat->S->Prop)(n:Nat)(K:Exit->S->Prop):(vc (HB κ) 12 36 none 0 (ag (Pr κ).toProgram 36 8) (sp 63 [(3, .ptr 0 0 [] 0),(45, .int N),(46, .int 0)] [.box 66 (.ptr 1 0 [] 0), .box 82 (.agg [.az 2 0 N, .nil]),Ir ls]) (bI (HB κ) 36 8 0 I n K))=(
 letI z1:=AV.ptr 1 0 [] 0
 letI z2:=AV.agg [AV.az 2 0 N,AV.nil]
 ax (decide ((0:Int)<(↑N:Int))) (∃(e2:NX),([AV.ptr 0 0 [] 0,AV.int 0],[Obj.box 82 (AV.agg [AV.az 1 0 N,AV.nil]),Obj.rows 48 3 ls none])=([AV.ptr
 0 0 [] 0,AV.int e2.a],[Obj.box 82 (AV.agg [AV.az 1 0 e2.n,AV.nil]),Obj.rows 48 3 (cH e2.L) none])/\(WG e2.n e2.m e2.L/\(e2.n+1)*e2.m<=1000000000/\(0
 :Int)<=e2.a/\e2.a<(↑(e2.n):Int))/\(Obj.box 66 z1=Obj.box 66 z1/\Obj.box 82 (AV.agg [AV.az 2 0 e2.n,AV.nil])=Obj.box 82 z2/\Obj.rows 48 3 (cH
 e2.L) none=Obj.rows 48 3 ls none/\True)/\∃(e1:Nat),e1<n/\I e1 (sp 63 [(3,AV.ptr 0 0 [] 0),(45,AV.int (↑N:Int)),(46,AV.int 1)] [Obj.box 66 z1,
 Obj.box 82 (AV.agg [AV.az 2 0 e2.n,AV.az 3 0 1]),Obj.rows 48 3 (cH e2.L) none,Obj.row 68 [AV.iZ 3 4 (List.map fu (gp e2.n e2.m e2.L e2.a)) (List.map (fun(e0
 :Int)=>AV.bool true) (gp e2.n e2.m e2.L e2.a))]])) (K (Exit.exit 2) (sp 63 [(3,AV.ptr 0 0 [] 0)] [Obj.box 66 z1,Obj.box 82 z2,Obj.rows 48 3 ls none]))):=by kernel_rfl
def bc(n m:Nat)(L:Gr)(k:Nat):List AV:=(List.range k).map fun(a:Nat)=>Oc (gp n m L a)
theorem jY(n m:Nat)(L:Gr)(k:Nat):(bc n m L k).length=k:=by simp[bc]
theorem FG(n m:Nat)(L:Gr)(k:Nat):bc n m L (k+1)=bc n m L k++[Oc (gp n m L k)]:=by
 simp[bc,List.range_succ]
structure QU where
 n:Nat
 m:Nat
 L:Gr
 i:Nat
abbrev M6(n m:Nat)(L:Gr):Nat->List Dn.Obj
 |0=>[.box 66 (.ptr 1 0 [] 0), .box 82 (.agg [.az 2 0 n, .nil]),Ir (cH L)]
 |k+1=>[.box 66 (.ptr 1 0 [] 0), .box 82 (.agg [.az 2 0 n, .az 3 0 (bc n m L (k+1)).length]),Ir (cH L), .row 68 (bc n m L (k+1))]
abbrev Kq(x:QU):S:=sp 63 [(3, .ptr 0 0 [] 0),(45, .int x.n),(46, .int x.i)] (M6 x.n x.m x.L x.i)
def GP(x:QU):Prop:=WG x.n x.m x.L/\(x.n+1)*x.m<=1000000000/\x.i<=x.n/\x.n<=60
def Mf(x:QU):Out (Exit×S):= .ax (Nat.beq x.n 0)
 (.one (.exit 2,sp 63 [(3, .ptr 0 0 [] 0)] [.box 66 (.ptr 1 0 [] 0), .box 82 (.agg [.az 2 0 x.n, .nil]),Ir (cH x.L)]))
 (.one (.exit 2,sp 63 [(3, .ptr 0 0 [] 0)] [.box 66 (.ptr 1 0 [] 0), .box 82 (.agg [.az 2 0 x.n, .az 3 0 (bc x.n x.m x.L x.n).length]),Ir (cH x.L), .row 68 (bc x.n x.m x.L x.n)]))
theorem Za(κ:Kp):bn (HB κ) 12 36 8 (aQ 0 Kq GP Mf):=by
 refine aR (fun x=>x.n - x.i) ?_
 rintro⟨n,m,L,i⟩ K ⟨hG,hb,hi,hn⟩ ho
 simp only at hG hb hi hn
 rw[show(HB κ).P=Pr κ from rfl]
 cases i with
 | zero=>
  refine Eq.mpr (Y6 κ n (cH L) _ _ K) ?_
  rw[af,aa0,aa2]
  refine⟨fun h=>⟨⟨n,m,L,[],0⟩,rfl,⟨hG,hb,by simp only;omega,h⟩,⟨rfl,rfl,rfl,trivial⟩,_,?_,⟨n,m,L,1⟩,rfl,⟨hG,hb,?_,hn⟩,rfl,ho⟩,fun h=>?_⟩
  ·simp only;omega
  ·simp only;omega
  ·obtain rfl:n=0:=by omega
   exact ho
 | succ k=>
  refine Eq.mpr (VM κ n (k+1) (cH L) (bc n m L (k+1)) _ _ K) ?_
  rw[af,aa0,aa2]
  refine⟨fun h=>⟨⟨n,m,L,bc n m L (k+1),((k+1:Nat):Int)⟩,rfl,⟨hG,hb,by simp only;omega,h⟩,⟨rfl,rfl,rfl,trivial⟩,?_⟩,fun h=>?_⟩
  ·have e:sp 63 [(3, .ptr 0 0 [] 0),(45, .int n),(46, .int (((k+1:Nat):Int)+1))] [.box 66 (.ptr 1 0 [] 0), .box 82 (.agg [.az 2 0 n, .az 3 0 ((bc n m L (k+1)).length+1)]),Ir (cH L), .row 68 (List.take (bc n m L (k+1)).length (bc n m L (k+1))++[Oc (gp n m L ((k+1:Nat):Int))])]=Kq ⟨n,m,L,k+2⟩:=by
    rw[List.take_length,←FG]
    simp only[Kq,M6,jY]
    rfl
   rw[au,aa0,a5 (n:=((k+1:Nat):Int)+1) (by omega) (by omega)]
   refine⟨by rw[jY];omega,_,?_,⟨n,m,L,k+2⟩,e,⟨hG,hb,?_,hn⟩,rfl,ho⟩
   ·simp only;omega
   ·simp only;omega
  ·obtain rfl:n=k+1:=by omega
   exact ho
noncomputable def Qt(κ:Kp):Env:=(HB κ).aj 36 8 (aQ 0 Kq GP Mf)
theorem Wg(κ:Kp):aC (Qt κ):=(U9 κ).aj (Tf κ) (Za κ)
theorem TZ(κ:Kp):ai (Qt κ):=(Tf κ).aj aG
theorem VR(κ:Kp)(ds rs:List AV)(K:AV->List Dn.Obj->Prop):(bg (Qt κ) 12 36 [gz ds rs] [] K)=(
 letI z1:=Int.toNat (↑(ds.length):Int)
 letI z2:=AV.agg [AV.ae 62 ds,AV.ae 41 rs]
 letI z3:=Pg.toProgram (Env.P (HB κ))
 aO (true&&decide ((↑(ds.length):Int)<=(↑(ds.length):Int))&&decide ((Int.toNat (↑(ds.length):Int)+1)*25<=70368744177664)&&true) (∃(e1:ga),
 ([AV.ptr 4 0 [] 0],[Obj.box 25 z2,Obj.rows 48 3 (List.replicate z1 []) none,Obj.box 82 (AV.agg [AV.az 1 0 z1,AV.nil]),Obj.box 66 (AV.ptr 2 0 [] 0),Obj.box
 25 z2,Dn.Obj.loop (il Tryz.prog 36 3 LoopState.ready none (ie (bK 63) [(0,AV.agg [AV.ae 62 ds,AV.ae 41 rs]),(1,AV.ptr 0 0 [] 0),(2,AV.lit (Value.pointer
 none)),(3,AV.ptr 3 0 [] 0),(7,AV.ptr 0 0 [0] 0),(8,AV.ae 62 ds),(9,AV.int (↑(ds.length):Int)),(10,AV.az 1 0 z1),(11,AV.agg [AV.az 1 0 z1,
 AV.nil]),(12,AV.ptr 2 0 [] 0),(13,AV.agg [AV.ae 62 ds,AV.ae 41 rs]),(14,AV.bP 113 [AV.ptr 4 0 [] 0])]))])=([AV.ptr 4 0 [] 0],[Obj.box 25 (AV.agg
 [AV.ae 62 e1.1,AV.ae 41 e1.2]),Obj.rows 48 3 (List.replicate e1.1.length []) none,Obj.box 82 (AV.agg [AV.az 1 0 e1.1.length,AV.nil]),Obj.box 66 (AV.ptr 2 0
 [] 0),Obj.box 25 (AV.agg [AV.ae 62 e1.1,AV.ae 41 e1.2]),Dn.Obj.loop (il Tryz.prog 36 3 LoopState.ready none (ie (bK 63) [(0,AV.agg [AV.ae 62 e1.1,AV.ae 41
 e1.2]),(1,AV.ptr 0 0 [] 0),(2,AV.lit (Value.pointer none)),(3,AV.ptr 3 0 [] 0),(7,AV.ptr 0 0 [0] 0),(8,AV.ae 62 e1.1),(9,AV.int (↑(e1.1.length):
 Int)),(10,AV.az 1 0 e1.1.length),(11,AV.agg [AV.az 1 0 e1.1.length,AV.nil]),(12,AV.ptr 2 0 [] 0),(13,AV.agg [AV.ae 62 e1.1,AV.ae 41 e1.2]),(14,AV.bP
 113 [AV.ptr 4 0 [] 0])]))])/\mm e1.1 e1.2/\ag z3 36 8=ag z3 36 8/\∃(e0:QU),sp 63 [(3,AV.ptr 0 0 [] 0),(45,AV.int (↑(e1.1.length):Int)),(46,
 AV.int 0)] [Obj.box 66 (AV.ptr 1 0 [] 0),Obj.box 82 (AV.agg [AV.az 2 0 e1.1.length,AV.nil]),Obj.rows 48 3 (cH (qD e1.1.length (sF e1.1 e1.2))) none]=sp 63
 [(3,AV.ptr 0 0 [] 0),(45,AV.int (↑(e0.n):Int)),(46,AV.int (↑(e0.i):Int))] (M6 e0.n e0.m e0.L e0.i)/\(WG e0.n e0.m e0.L/\(e0.n+1)*e0.m<=
 1000000000/\e0.i<=e0.n/\e0.n<=60)/\ax (Nat.beq e0.n 0) (K (AV.ptr 0 0 [] 0) [Obj.box 82 (AV.agg [AV.az 1 0 e0.n,AV.nil]),Obj.rows 48 3 (cH e0.L) none])
 (K (AV.ptr 0 0 [] 0) [Obj.box 82 (AV.agg [AV.az 1 0 e0.n,AV.az 2 0 (List.length (bc e0.n e0.m e0.L e0.n))]),Obj.rows 48 3 (cH e0.L) none,Obj.row 68 (bc e0.n
 e0.m e0.L e0.n)]))):=by kernel_rfl
def kg(ds rs:List AV):Gr:=qD ds.length (sF ds rs)
def gE(ds rs:List AV):Nat:=(sF ds rs).length
def P2(x:ga):List AV×List Dn.Obj:=([gz x.1 x.2],[])
def G1(x:ga):Out (AV×List Dn.Obj):= .ax (Nat.beq x.1.length 0)
 (.one (.ptr 0 0 [] 0,vz x.1.length (cH (kg x.1 x.2))))
 (.one (.ptr 0 0 [] 0,r9 x.1.length (cH (kg x.1 x.2)) (bc x.1.length (gE x.1 x.2) (kg x.1 x.2) x.1.length)))
theorem mm.le{ds rs:List AV}(h:mm ds rs):(ds.length+1)*gE ds rs<=1000000000:=by
 have h1:=h.hd
 have h2:=h.hr
 have h3:=xE ds rs h.bs
 refine Nat.le_trans (Nat.mul_le_mul (show ds.length+1<=61 by omega) (show gE ds rs<=4000 by unfold gE;omega)) (by omega)
theorem mm.wg{ds rs:List AV}(h:mm ds rs):WG ds.length (gE ds rs) (kg ds rs):=N5 h.ed
theorem XS(κ:Kp):bz (Qt κ) 12 36 (aZ P2 (fun x=>mm x.1 x.2) G1):=by
 refine bh ?_
 rintro⟨ds,rs⟩ K hf ho
 simp only at hf
 refine Eq.mpr (VR κ ds rs K) ?_
 have hd:=hf.hd
 simp only[G1,Out.run] at ho
 simp only[au,aa1,aa0,Int.toNat_natCast]
 exact⟨⟨⟨⟨trivial,by omega⟩,by omega⟩,trivial⟩,(ds,rs),rfl,hf,trivial,⟨ds.length,gE ds rs,kg ds rs,0⟩,rfl,⟨hf.wg,hf.le,Nat.zero_le _,hd⟩,ho⟩
noncomputable def PJ(κ:Kp):Env:=(Qt κ).aw 36 (aZ P2 (fun x=>mm x.1 x.2) G1)
theorem WK(κ:Kp):aC (PJ κ):=(Wg κ).aw (TZ κ) (XS κ)
theorem TI(κ:Kp):ai (PJ κ):=(TZ κ).aw aI
end Go.Proofs.YtdpmikfheebicaaGreatDoor
