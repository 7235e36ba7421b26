import Derived.Test.YtioeffnadipbaaaGreatDoorDoJ
import Derived.Test.YtioeffnadipbaaaGreatDoorDoI
import Derived.Shelf.SlMaps.Clone
namespace Go.Dn
open Go Go.Proofs Go.Shelf
def Ly(st:List Obj):List AV->List AV
 |[]=>[]
 | .mp i::l=>(match ay st i with| .map K V b=> .eO K V (b.map (·.1)) (b.map (·.2))|_=> .mp i)::Ly st l
 |a::l=>a::Ly st l
def Ny(st:List Obj):List AV->List Nat
 |[]=>[]
 | .mp i::l=>(match ay st i with| .map _ _ _=>i::Ny st l|_=>Ny st l)
 |_::l=>Ny st l
theorem Nz{C h}(o:Inv C)(k:Ext C.st.length C h)(t:h.w=C.w): ∀l g,(∀i,i∈Ny C.st l->i<C.st.length->yi C i->h.X (C.ι i).block)->MT C l g->MT h (Ly C.st l) g
 |[],_,_,d=>by simpa[MT,Ly] using d
 |_::_,[],_,d=>by simp[MT] at d
 | a::l,v::g,s,d=>by
  simp only[MT] at d;have m:Rel C a v:=⟨d.1,d.2.1,d.2.2.1⟩
  have e:Ly C.st (a::l)=a::Ly C.st l->Ny C.st (a::l)=Ny C.st l->MT h (Ly C.st (a::l)) (v::g):=fun r n=>by
   rw[r];have:=m.move k.keeps o.lay some (fun i _ f=>⟨i,rfl,k.refs i f⟩)
   rw[lb] at this;exact⟨this.1,this.2.1,this.2.2,Nz o k t l g (fun i u=>s i (by rw[n];exact u)) d.2.2.2⟩
  cases a with
  | mp i=>
   cases c:ay C.st i with
   |map K V p=>
    have r:Ly C.st (.mp i::l)= .eO K V (p.map (·.1)) (p.map (·.2))::Ly C.st l:=by simp only[Ly,c]
    have n:Ny C.st (.mp i::l)=i::Ny C.st l:=by simp only[Ny,c]
    rw[r];have:=oP (a:= .mp i) (b:= .eO K V (p.map (·.1)) (p.map (·.2))) o k.keeps t (by simp only[cg,c]) (fun j q f x=>s j (by rw[n];simp only[rowsOf,List.mem_singleton] at q;simp[q]) f x) m
    exact⟨this.1,this.2.1,this.2.2,Nz o k t l g (fun j q=>s j (by rw[n];simp[q])) d.2.2.2⟩
   |_=>exact e (by simp only[Ly,c]) (by simp only[Ny,c])
  |_=>exact e rfl rfl
theorem Ph{P f args st K}(h:b7 P f (Ly st args) (cF st (Ny st args)) K):b7 P f args st K:=by
 refine⟨h.1,fun C vs hP hI hst hm=>?_⟩;subst hst;obtain⟨C1,a1,a2,_,a4,a5,a6⟩:=mr _ hI;have:=h.2 _ _ (a5.keeps.P.trans hP) a4 a1 (Nz hI a5 a2 _ _ a6 hm)
 rw[a2] at this;refine this.mono ?_;rintro e w' ⟨v,r,C',rfl,rfl,b1,b2,b3,b4,b5⟩;rw[iu] at b4;exact⟨v,r,_,rfl,rfl,b1.trans a5.keeps.P,b2,b3,a5.trans b4 (Nat.le_refl _),b5⟩
def EB.RU(b:EB){f g}(h:gq b.E.P f g):EB:=⟨_,b.ok.eK h,b.mono.aK⟩
def EB.Xy(b:EB){f:Nat}{sp:dL}(c:sp.fU)(h: ∀a st K,sp a st K->b7 b.E.P f a st K):EB:=⟨_,b.ok.fK h,b.mono.aw c⟩
def EB.frozen(b:EB){f:Nat}{sp:dL}(e:sp.fU)(h: ∀a st K,sp a st K->b7 b.E.P f a st K):EB:=
 ⟨b.E.aw f fun a s K=>sp _ _ K,b.ok.fK fun _ _ _ c=>Ph (h _ _ _ c),b.mono.aw fun _ _ _ _ d c=>e _ _ _ _ d c⟩
def r9(P:Program):dL:=fun a st K=>
 match a,st with
 |[.eO b V c d],[]=>aV (!Oz P V) (K (.mp 0) [.map b V (c.zip d)])
 |_,_=>False
theorem Fe{P}:(r9 P).fU:=fun a st K c b h=>by
 unfold r9 at h⊢
 grind [cx]
theorem JG{P}{ρ:Ren}{f:Nat}(t:ρ.f 5=f)(B: ∃s,P.funcs[f]? =some s/\s.body.isSome=true)(L:SlLaysW.n5 P.toProgram ρ){i st K}(h:r9 P.toProgram i st K):b7 P f i st K:=by
 subst t;unfold r9 at h;split at h
 ·rename_i p V z A
  obtain⟨D,h⟩:=ai.1 h;refine⟨B,fun C r H m l d=>?_⟩;obtain⟨v,rfl,x⟩: ∃v,r= #[v]/\Rel C (.eO p V z A) v:=by
   match e:r.toList,d with
   |[],d=>simp[MT] at d
   |[v],d=>exact⟨v,by simpa using congrArg List.toArray e,by simp only[MT] at d;exact⟨d.1,d.2.1,d.2.2.1⟩⟩
   |_::_::_,d=>simp[MT] at d
  obtain⟨b,c,a,rfl,_,u,k,rfl,y,q⟩:=(ve x).resolve_left (by grind);refine(callsIn_wide.2 (AnyW.maps_Clone L b c a C.w u)).mono ?_;rintro e E ⟨rfl,rfl⟩;have j:=bI C.w (.map c a);have n:=fL m (o:= .map p V _) (g:=⟨C.w.heap.size,0,false⟩)  rfl (by rw[cW];omega) (gA _ _) j
   ⟨fun h=>by have:=m.xs _ h;simp at this,c,a,alloc_heap_new _ _,cw.gf (jy m j) m.lay (we _ _ y q),k⟩
  refine⟨_, .mp C.st.length,C.add _ ⟨C.w.heap.size,0,false⟩ (C.w.alloc (.map c a)),rfl,rfl,rfl,n.1,dR rfl rfl ?_ n.1,by rw[←l];exact n.2,by simpa[Ctx.add,l] using h⟩;simp only[M];refine⟨by simp[Ctx.add],_,rfl,rfl,fun p I F n=>?_⟩;rw[bw.2]
 ·exact h.elim
theorem Ma{C}: ∀l b,MT C l b->l.length=b.length/\∀i,i<l.length->Rel C (nth l i) (b.getD i undef)
 |[],b,h=>by grind [MT]
 |a::l,[],h=>by grind [MT]
 |a::l,v::b,h=>by
  obtain⟨c,e⟩:=Ma l _ h.2.2.2;refine⟨by grind,fun i d=>?_⟩;cases i with
  |zero=>exact⟨h.1,h.2.1,h.2.2.1⟩
  |succ i=>grind [nth]
theorem S7{C}: ∀l b,l.length=b.length->(∀i,i<l.length->Rel C (nth l i) (b.getD i undef))->MT C l b
 |[],[],_,_=>by rfl
 |[],_::_,h,_=>by grind
 |_::_,[],h,_=>by grind
 |a::l,v::b,h,d=>by
  have c:=d 0 (by simp);have:=S7 l b (by grind) fun i e=>by simpa[nth] using d (i+1) (by grind)
  exact⟨c.1,c.2.1,c.2.2,this⟩
theorem R3{P f args st K} live(h:b7 P f (jg live {bC:=args,st:=st}).bC (jg live {bC:=args,st:=st}).st K):b7 P f args st K:=by
 refine⟨h.1,fun C vs hP hI hst hm=>?_⟩;subst hst;obtain⟨m1,m2⟩:=Ma _ _ hm;have hs:db C {bC:=args,st:=C.st} {tmps:=vs,defers:=[]}:=⟨rfl,by grind,by simp_all⟩
 obtain⟨C1,a1,a2,a3,a4⟩:=jC _ hI hs;have:=h.2 _ _ (a4.keeps.P.trans hP) a2 a3.st (S7 _ _ (by simpa using a3.bC.1) fun i hi=>by simpa using a3.bC.2 i hi)
 rw[a1] at this;refine this.mono ?_;rintro e w' ⟨v,r,C',rfl,rfl,b1,b2,b3,b4,b5⟩;exact⟨v,r,_,rfl,rfl,b1.trans a4.keeps.P,b2,b3,a4.trans (b4.mono (by rw[←a3.st];exact a4.len)) (Nat.le_refl _),b5⟩
def EB.mat(b:EB){f:Nat}{sp:dL}(c:List (Nat×Option TypeId))(e:sp.fU)(h: ∀a st K,sp a st K->b7 b.E.P f a st K):EB:=
 ⟨b.E.aw f fun a s K=>sp _ _ K,b.ok.fK fun _ _ _ d=>R3 c (h _ _ _ d),b.mono.aw fun _ _ _ _ g d=>e _ _ _ _ g d⟩
def EB.AR(b c:EB){N f k base α}{st:α->S}{d e}(o:b.E.P=c.E.P)(h:aU c.E N f k (aG base st d e)):EB:=
 ⟨_,by
  have p:=c.ok.an c.mono h;refine⟨b.ok.prog,b.ok.gV,b.ok.call,b.ok.lp,fun g j m n base s K a=>?_⟩;have i:=p.loop g j m n base s K;simp only[Env.an] at a i;cases l:Nat.beq g f&&Nat.beq j k with
  |true=>
   rw[l] at a i;show Sound b.E.P _ _ _ _ _
   rw[o] at a⊢;exact i a
  |false=>rw[l] at a;exact b.ok.loop _ _ _ _ _ _ _ a,b.mono.an aJ⟩
end Go.Dn
