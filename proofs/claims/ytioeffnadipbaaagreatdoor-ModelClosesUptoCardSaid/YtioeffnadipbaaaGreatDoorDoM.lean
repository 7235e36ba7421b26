import Derived.Test.YtioeffnadipbaaaGreatDoorDoJ
import Derived.Test.YtioeffnadipbaaaGreatDoorDoI
import Derived.Shelf.SlMaps.Clone
namespace Go.Dn
open Go Go.Proofs Go.Shelf
def Nn(st:List Obj):List AV->List AV
 |[]=>[]
 | .mp i::l=>(match ay st i with| .map K V b=> .fh K V (b.map (·.1)) (b.map (·.2))|_=> .mp i)::Nn st l
 |a::l=>a::Nn st l
def Po(st:List Obj):List AV->List Nat
 |[]=>[]
 | .mp i::l=>(match ay st i with| .map _ _ _=>i::Po st l|_=>Po st l)
 |_::l=>Po st l
theorem Pp{C h}(o:Inv C)(k:Ext C.st.length C h)(t:h.w=C.w): ∀l g,(∀i,i∈Po C.st l->i<C.st.length->zz C i->h.X (C.ι i).block)->MT C l g->MT h (Nn C.st l) g
 |[],_,_,d=>by simpa[MT,Nn] using d
 |_::_,[],_,d=>by simp[MT] at d
 | a::l,v::g,s,d=>by
  simp only[MT] at d;have m:Rel C a v:=⟨d.1,d.2.1,d.2.2.1⟩
  have e:Nn C.st (a::l)=a::Nn C.st l->Po C.st (a::l)=Po C.st l->MT h (Nn C.st (a::l)) (v::g):=fun r n=>by
   rw[r];have:=m.move k.keeps o.lay some (fun i _ f=>⟨i,rfl,k.refs i f⟩)
   rw[lR] at this;exact⟨this.1,this.2.1,this.2.2,Pp o k t l g (fun i u=>s i (by rw[n];exact u)) d.2.2.2⟩
  cases a with
  | mp i=>
   cases c:ay C.st i with
   |map K V p=>
    have r:Nn C.st (.mp i::l)= .fh K V (p.map (·.1)) (p.map (·.2))::Nn C.st l:=by simp only[Nn,c]
    have n:Po C.st (.mp i::l)=i::Po C.st l:=by simp only[Po,c]
    rw[r];have:=pM (a:= .mp i) (b:= .fh K V (p.map (·.1)) (p.map (·.2))) o k.keeps t (by simp only[cq,c]) (fun j q f x=>s j (by rw[n];simp only[rowsOf,List.mem_singleton] at q;simp[q]) f x) m
    exact⟨this.1,this.2.1,this.2.2,Pp o k t l g (fun j q=>s j (by rw[n];simp[q])) d.2.2.2⟩
   |_=>exact e (by simp only[Nn,c]) (by simp only[Po,c])
  |_=>exact e rfl rfl
theorem Q4{P f args st K}(h:cf P f (Nn st args) (cV st (Po st args)) K):cf P f args st K:=by
 refine⟨h.1,fun C vs hP hI hst hm=>?_⟩;subst hst;obtain⟨C1,a1,a2,_,a4,a5,a6⟩:=nq _ hI;have:=h.2 _ _ (a5.keeps.P.trans hP) a4 a1 (Pp hI a5 a2 _ _ a6 hm)
 rw[a2] at this;refine this.mono ?_;rintro e w' ⟨v,r,C',rfl,rfl,b1,b2,b3,b4,b5⟩;rw[jg] at b4;exact⟨v,r,_,rfl,rfl,b1.trans a5.keeps.P,b2,b3,a5.trans b4 (Nat.le_refl _),b5⟩
def EB.Uc(b:EB){f g}(h:gW b.E.P f g):EB:=⟨_,b.ok.fg h,b.mono.aO⟩
def EB.ZJ(b:EB){f:Nat}{sp:dN}(c:sp.gl)(h: ∀a st K,sp a st K->cf b.E.P f a st K):EB:=⟨_,b.ok.fQ h,b.mono.ax c⟩
def EB.frozen(b:EB){f:Nat}{sp:dN}(e:sp.gl)(h: ∀a st K,sp a st K->cf b.E.P f a st K):EB:=
 ⟨b.E.ax f fun a s K=>sp _ _ K,b.ok.fQ fun _ _ _ c=>Q4 (h _ _ _ c),b.mono.ax fun _ _ _ _ d c=>e _ _ _ _ d c⟩
def tp(P:Program):dN:=fun a st K=>
 match a,st with
 |[.fh b V c d],[]=>aW (!Qp P V) (K (.mp 0) [.map b V (c.zip d)])
 |_,_=>False
theorem GY{P}:(tp P).gl:=fun a st K c b h=>by
 unfold tp at h⊢
 grind [cH]
theorem Ln{P}{ρ:Ren}{f:Nat}(t:ρ.f 5=f)(B: ∃s,P.funcs[f]? =some s/\s.body.isSome=true)(L:SlLaysW.n5 P.toProgram ρ){i st K}(h:tp P.toProgram i st K):cf P f i st K:=by
 subst t;unfold tp at h;split at h
 ·rename_i p V z A
  obtain⟨D,h⟩:=ai.1 h;refine⟨B,fun C r H m l d=>?_⟩;obtain⟨v,rfl,x⟩: ∃v,r= #[v]/\Rel C (.fh p V z A) v:=by
   match e:r.toList,d with
   |[],d=>simp[MT] at d
   |[v],d=>exact⟨v,by simpa using congrArg List.toArray e,by simp only[MT] at d;exact⟨d.1,d.2.1,d.2.2.1⟩⟩
   |_::_::_,d=>simp[MT] at d
  obtain⟨b,c,a,rfl,_,u,k,rfl,y,q⟩:=(wO x).resolve_left (by grind);refine(callsIn_wide.2 (AnyW.maps_Clone L b c a C.w u)).mono ?_;rintro e E ⟨rfl,rfl⟩;have j:=bL C.w (.map c a);have n:=gm m (o:= .map p V _) (g:=⟨C.w.heap.size,0,false⟩)  rfl (by rw[dd];omega) (ia _ _) j
   ⟨fun h=>by have:=m.xs _ h;simp at this,c,a,alloc_heap_new _ _,cF.gI (j1 m j) m.lay (xz _ _ y q),k⟩
  refine⟨_, .mp C.st.length,C.add _ ⟨C.w.heap.size,0,false⟩ (C.w.alloc (.map c a)),rfl,rfl,rfl,n.1,eu rfl rfl ?_ n.1,by rw[←l];exact n.2,by simpa[Ctx.add,l] using h⟩;simp only[M];refine⟨by simp[Ctx.add],_,rfl,rfl,fun p I F n=>?_⟩;rw[bC.2]
 ·exact h.elim
theorem NW{C}: ∀l b,MT C l b->l.length=b.length/\∀i,i<l.length->Rel C (nth l i) (b.getD i undef)
 |[],b,h=>by grind [MT]
 |a::l,[],h=>by grind [MT]
 |a::l,v::b,h=>by
  obtain⟨c,e⟩:=NW l _ h.2.2.2;refine⟨by grind,fun i d=>?_⟩;cases i with
  |zero=>exact⟨h.1,h.2.1,h.2.2.1⟩
  |succ i=>grind [nth]
theorem Vu{C}: ∀l b,l.length=b.length->(∀i,i<l.length->Rel C (nth l i) (b.getD i undef))->MT C l b
 |[],[],_,_=>by rfl
 |[],_::_,h,_=>by grind
 |_::_,[],h,_=>by grind
 |a::l,v::b,h,d=>by
  have c:=d 0 (by simp);have:=Vu l b (by grind) fun i e=>by simpa[nth] using d (i+1) (by grind)
  exact⟨c.1,c.2.1,c.2.2,this⟩
theorem Uk{P f args st K} live(h:cf P f (jH live {bF:=args,st:=st}).bF (jH live {bF:=args,st:=st}).st K):cf P f args st K:=by
 refine⟨h.1,fun C vs hP hI hst hm=>?_⟩;subst hst;obtain⟨m1,m2⟩:=NW _ _ hm;have hs:dr C {bF:=args,st:=C.st} {tmps:=vs,defers:=[]}:=⟨rfl,by grind,by simp_all⟩
 obtain⟨C1,a1,a2,a3,a4⟩:=j5 _ hI hs;have:=h.2 _ _ (a4.keeps.P.trans hP) a2 a3.st (Vu _ _ (by simpa using a3.bF.1) fun i hi=>by simpa using a3.bF.2 i hi)
 rw[a1] at this;refine this.mono ?_;rintro e w' ⟨v,r,C',rfl,rfl,b1,b2,b3,b4,b5⟩;exact⟨v,r,_,rfl,rfl,b1.trans a4.keeps.P,b2,b3,a4.trans (b4.mono (by rw[←a3.st];exact a4.len)) (Nat.le_refl _),b5⟩
def EB.mat(b:EB){f:Nat}{sp:dN}(c:List (Nat×Option TypeId))(e:sp.gl)(h: ∀a st K,sp a st K->cf b.E.P f a st K):EB:=
 ⟨b.E.ax f fun a s K=>sp _ _ K,b.ok.fQ fun _ _ _ d=>Uk c (h _ _ _ d),b.mono.ax fun _ _ _ _ g d=>e _ _ _ _ g d⟩
def EB.Cj(b c:EB){N f k base α}{st:α->S}{d e}(o:b.E.P=c.E.P)(h:aU c.E N f k (aG base st d e)):EB:=
 ⟨_,by
  have p:=c.ok.an c.mono h;refine⟨b.ok.prog,b.ok.iI,b.ok.call,b.ok.ll,fun g j m n base s K a=>?_⟩;have i:=p.loop g j m n base s K;simp only[Env.an] at a i;cases l:Nat.beq g f&&Nat.beq j k with
  |true=>
   rw[l] at a i;show Sound b.E.P _ _ _ _ _
   rw[o] at a⊢;exact i a
  |false=>rw[l] at a;exact b.ok.loop _ _ _ _ _ _ _ a,b.mono.an aK⟩
end Go.Dn
