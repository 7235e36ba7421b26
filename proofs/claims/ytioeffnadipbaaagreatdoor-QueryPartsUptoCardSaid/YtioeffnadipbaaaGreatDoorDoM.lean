import Derived.Test.YtioeffnadipbaaaGreatDoorDoI
import Derived.Shelf.SlMaps.Clone
namespace Go.Dn
open Go Go.Proofs Go.Shelf
def KG(st:List Obj):List AV->List AV
 |[]=>[]
 | .mp i::l=>(match au st i with| .map K V b=> .eO K V (b.map (·.1)) (b.map (·.2))|_=> .mp i)::KG st l
 |a::l=>a::KG st l
def Ms(st:List Obj):List AV->List Nat
 |[]=>[]
 | .mp i::l=>(match au st i with| .map _ _ _=>i::Ms st l|_=>Ms st l)
 |_::l=>Ms st l
theorem Mt{C h}(o:Inv C)(k:Ext C.st.length C h)(t:h.w=C.w): ∀l g,(∀i,i∈Ms C.st l->i<C.st.length->yl C i->h.X (C.ι i).block)->MT C l g->MT h (KG C.st l) g
 |[],_,_,d=>by simpa[MT,KG] using d
 |_::_,[],_,d=>by simp[MT] at d
 | a::l,v::g,s,d=>by
  simp only[MT] at d;have m:Rel C a v:=⟨d.1,d.2.1,d.2.2.1⟩
  have e:KG C.st (a::l)=a::KG C.st l->Ms C.st (a::l)=Ms C.st l->MT h (KG C.st (a::l)) (v::g):=fun r n=>by
   rw[r];have:=m.move k.keeps o.lay some (fun i _ f=>⟨i,rfl,k.refs i f⟩)
   rw[jZ] at this;exact⟨this.1,this.2.1,this.2.2,Mt o k t l g (fun i u=>s i (by rw[n];exact u)) d.2.2.2⟩
  cases a with
  | mp i=>
   cases c:au C.st i with
   |map K V p=>
    have r:KG C.st (.mp i::l)= .eO K V (p.map (·.1)) (p.map (·.2))::KG C.st l:=by simp only[KG,c]
    have n:Ms C.st (.mp i::l)=i::Ms C.st l:=by simp only[Ms,c]
    rw[r];have:=o7 (a:= .mp i) (b:= .eO K V (p.map (·.1)) (p.map (·.2))) o k.keeps t (by simp only[b9,c]) (fun j q f x=>s j (by rw[n];simp only[rowsOf,List.mem_singleton] at q;simp[q]) f x) m
    exact⟨this.1,this.2.1,this.2.2,Mt o k t l g (fun j q=>s j (by rw[n];simp[q])) d.2.2.2⟩
   |_=>exact e (by simp only[KG,c]) (by simp only[Ms,c])
  |_=>exact e rfl rfl
theorem N0{P f args st K}(h:bt P f (KG st args) (cQ st (Ms st args)) K):bt P f args st K:=by
 refine⟨h.1,fun C vs hP hI hst hm=>?_⟩;subst hst;obtain⟨C1,a1,a2,_,a4,a5,a6⟩:=mI _ hI;have:=h.2 _ _ (a5.keeps.P.trans hP) a4 a1 (Mt hI a5 a2 _ _ a6 hm)
 rw[a2] at this;refine this.mono ?_;rintro e w' ⟨v,r,C',rfl,rfl,b1,b2,b3,b4,b5⟩;rw[iD] at b4;exact⟨v,r,_,rfl,rfl,b1.trans a5.keeps.P,b2,b3,a5.trans b4 (Nat.le_refl _),b5⟩
def EB.Bt(b:EB){f g}(h:fG b.E.P f g):EB:=⟨_,b.ok.ej h,b.mono.aV⟩
def EB.Ee(b:EB){f:Nat}{sp:cO}(c:sp.gA)(h: ∀a st K,sp a st K->bt b.E.P f a st K):EB:=⟨_,b.ok.eX h,b.mono.aB c⟩
def EB.frozen(b:EB){f:Nat}{sp:cO}(e:sp.gA)(h: ∀a st K,sp a st K->bt b.E.P f a st K):EB:=
 ⟨b.E.aB f fun a s K=>sp _ _ K,b.ok.eX fun _ _ _ c=>N0 (h _ _ _ c),b.mono.aB fun _ _ _ _ d c=>e _ _ _ _ d c⟩
def sM(P:Program):cO:=fun a st K=>
 match a,st with
 |[.eO b V c d],[]=>aG (!Nv P V) (K (.mp 0) [.map b V (c.zip d)])
 |_,_=>False
theorem EG{P}:(sM P).gA:=fun a st K c b h=>by
 unfold sM at h⊢
 grind [cj]
theorem IY{P}{ρ:Ren}{f:Nat}(t:ρ.f 5=f)(B: ∃s,P.funcs[f]? =some s/\s.body.isSome=true)(L:SlLaysW.n5 P.toProgram ρ){i st K}(h:sM P.toProgram i st K):bt P f i st K:=by
 subst t;unfold sM at h;split at h
 ·rename_i p V z A
  obtain⟨D,h⟩:=ai.1 h;refine⟨B,fun C r H m l d=>?_⟩;obtain⟨v,rfl,x⟩: ∃v,r= #[v]/\Rel C (.eO p V z A) v:=by
   match e:r.toList,d with
   |[],d=>simp[MT] at d
   |[v],d=>exact⟨v,by simpa using congrArg List.toArray e,by simp only[MT] at d;exact⟨d.1,d.2.1,d.2.2.1⟩⟩
   |_::_::_,d=>simp[MT] at d
  obtain⟨b,c,a,rfl,_,u,k,rfl,y,q⟩:=(vw x).resolve_left (by grind);refine(callsIn_wide.2 (AnyW.maps_Clone L b c a C.w u)).mono ?_;rintro e E ⟨rfl,rfl⟩;have j:=bG C.w (.map c a);have n:=gh m (o:= .map p V _) (g:=⟨C.w.heap.size,0,false⟩)  rfl (by rw[db];omega) (gL _ _) j
   ⟨fun h=>by have:=m.xs _ h;simp at this,c,a,alloc_heap_new _ _,cE.gr (jE m j) m.lay (wq _ _ y q),k⟩
  refine⟨_, .mp C.st.length,C.add _ ⟨C.w.heap.size,0,false⟩ (C.w.alloc (.map c a)),rfl,rfl,rfl,n.1,dX rfl rfl ?_ n.1,by rw[←l];exact n.2,by simpa[Ctx.add,l] using h⟩;simp only[M];refine⟨by simp[Ctx.add],_,rfl,rfl,fun p I F n=>?_⟩;rw[br.2]
 ·exact h.elim
theorem Lg{C}: ∀l b,MT C l b->l.length=b.length/\∀i,i<l.length->Rel C (nth l i) (b.getD i undef)
 |[],b,h=>by grind [MT]
 |a::l,[],h=>by grind [MT]
 |a::l,v::b,h=>by
  obtain⟨c,e⟩:=Lg l _ h.2.2.2;refine⟨by grind,fun i d=>?_⟩;cases i with
  |zero=>exact⟨h.1,h.2.1,h.2.2.1⟩
  |succ i=>grind [nth]
theorem RI{C}: ∀l b,l.length=b.length->(∀i,i<l.length->Rel C (nth l i) (b.getD i undef))->MT C l b
 |[],[],_,_=>by rfl
 |[],_::_,h,_=>by grind
 |_::_,[],h,_=>by grind
 |a::l,v::b,h,d=>by
  have c:=d 0 (by simp);have:=RI l b (by grind) fun i e=>by simpa[nth] using d (i+1) (by grind)
  exact⟨c.1,c.2.1,c.2.2,this⟩
theorem QJ{P f args st K} live(h:bt P f (jk live {bz:=args,st:=st}).bz (jk live {bz:=args,st:=st}).st K):bt P f args st K:=by
 refine⟨h.1,fun C vs hP hI hst hm=>?_⟩;subst hst;obtain⟨m1,m2⟩:=Lg _ _ hm;have hs:dh C {bz:=args,st:=C.st} {tmps:=vs,defers:=[]}:=⟨rfl,by grind,by simp_all⟩
 obtain⟨C1,a1,a2,a3,a4⟩:=jH _ hI hs;have:=h.2 _ _ (a4.keeps.P.trans hP) a2 a3.st (RI _ _ (by simpa using a3.bz.1) fun i hi=>by simpa using a3.bz.2 i hi)
 rw[a1] at this;refine this.mono ?_;rintro e w' ⟨v,r,C',rfl,rfl,b1,b2,b3,b4,b5⟩;exact⟨v,r,_,rfl,rfl,b1.trans a4.keeps.P,b2,b3,a4.trans (b4.mono (by rw[←a3.st];exact a4.len)) (Nat.le_refl _),b5⟩
def EB.mat(b:EB){f:Nat}{sp:cO}(c:List (Nat×Option TypeId))(e:sp.gA)(h: ∀a st K,sp a st K->bt b.E.P f a st K):EB:=
 ⟨b.E.aB f fun a s K=>sp _ _ K,b.ok.eX fun _ _ _ d=>QJ c (h _ _ _ d),b.mono.aB fun _ _ _ _ g d=>e _ _ _ _ g d⟩
def EB.AY(b c:EB){N f k base α}{st:α->S}{d e}(o:b.E.P=c.E.P)(h:aP c.E N f k (aI base st d e)):EB:=
 ⟨_,by
  have p:=c.ok.aq c.mono h;refine⟨b.ok.prog,b.ok.fN,b.ok.call,b.ok.lB,fun g j m n base s K a=>?_⟩;have i:=p.loop g j m n base s K;simp only[Env.aq] at a i;cases l:Nat.beq g f&&Nat.beq j k with
  |true=>
   rw[l] at a i;show Sound b.E.P _ _ _ _ _
   rw[o] at a⊢;exact i a
  |false=>rw[l] at a;exact b.ok.loop _ _ _ _ _ _ _ a,b.mono.aq a0⟩
def qe(E:Env)(N:Nat):Nat->FuncId->Nat->Code->Option Nat->Nat->S->(Exit->S->Prop)->Prop
 |0=>fun _ _ _ _ _ _ _=>False
 |n+1=>fun f k c rd base s K=>vc E N f rd base c s (w7 E f k base (fun s'=>qe E N n f k c rd base s' K) K)
def Env.nT(E:Env)(a:FuncId->Bool) N n:=
 {E with loop:=fun f k c b base s K=>bif a f then qe E N n f k c b base s K else E.loop f k c b base s K}
theorem sZ{E}(b:aj E){N}{f k:Nat}{c d base}: ∀n {s K a},(∀e s,K e s->a e s)->qe E N n f k c d base s K->qe E N n f k c d base s a
 |0,_,_,_,_,h=>h
 |n+1,_,_,_,g,h=>qf b N _ _ _ _ _ _ _ (w8 (fun _ i=>sZ b n g i) g) h
theorem Gi{E}(hE:aF E)(hM:aj E){N} n{f k:Nat}{c rd base s K}(h:qe E N n f k c rd base s K):Sound E.P rd base (.loop c) s K:=by
 refine w9 (N:=N) (f:=f) (k:=k) hE hM (fun m s'=>qe E N m f k c _ _ s' K) n h ?_;intro m s' hs;cases m with
 |zero=>exact hs.elim
 |succ m=>
  refine qf hM N _ _ _ _ _ _ _ ?_ hs;intro e s2 h2;cases e<;>simp[w7,bh,jO] at h2⊢ <;>refine cj (fun h=>?_) h2<;>grind
def EB.nT(b:EB)(d:FuncId->Bool)(N n:Nat):EB:=
 ⟨b.E.nT d N n,⟨b.ok.prog,b.ok.fN,b.ok.call,b.ok.lB,fun f k c h base s K a=>by
   simp only[Env.nT] at a;cases e:d f with
   |true=>rw[e] at a;exact Gi b.ok b.mono n a
   |false=>rw[e] at a;exact b.ok.loop _ _ _ _ _ _ _ a⟩,
  ⟨b.mono.call,fun f k c h base s K i g a=>by
   simp only[Env.nT] at a⊢;cases e:d f with
   |true=>rw[e] at a;exact sZ b.mono n g a
   |false=>rw[e] at a;exact b.mono.loop _ _ _ _ _ _ _ _ g a,b.mono.lB⟩⟩
end Go.Dn
