import Derived.Test.YtioeffnadipbaaaGreatDoorDoJ
import Derived.Test.YtioeffnadipbaaaGreatDoorDoI
import Derived.Shelf.SlMaps.Clone
namespace Go.Dn
open Go Go.Proofs Go.Shelf
def Gw(st:List Obj):List AV->List AV
 |[]=>[]
 | .mp i::l=>(match an st i with| .map K V es=> .fJ K V (es.map (·.1)) (es.map (·.2))|_=> .mp i)::Gw st l
 |a::l=>a::Gw st l
def FZ(st:List Obj):List AV->List Nat
 |[]=>[]
 | .mp i::l=>(match an st i with| .map _ _ _=>i::FZ st l|_=>FZ st l)
 |_::l=>FZ st l
theorem IV{C C1:Ctx}(hI:Inv C)(he:Ext C.st.length C C1)(hw:C1.w=C.w): ∀(l:List AV) (vs:List Value),(∀i,i∈FZ C.st l->i<C.st.length->wz C i->C1.X (C.ι i).block)->MT C l vs->MT C1 (Gw C.st l) vs
 |[],_,_,hm=>by simpa[MT,Gw] using hm
 |_::_,[],_,hm=>by simp[MT] at hm
 | a::l,v::vs,hX,hm=>by
  simp only[MT] at hm
  have hra:Rel C a v:=⟨hm.1,hm.2.1,hm.2.2.1⟩
  have same:Gw C.st (a::l)=a::Gw C.st l->FZ C.st (a::l)=FZ C.st l->MT C1 (Gw C.st (a::l)) (v::vs):=fun e1 e2=>by
   rw[e1]
   have:=hra.move he.keeps hI.lay some (fun i _ hlt=>⟨i,rfl,he.refs i hlt⟩)
   rw[jk] at this
   exact⟨this.1,this.2.1,this.2.2,IV hI he hw l vs (fun i hi=>hX i (by rw[e2];exact hi)) hm.2.2.2⟩
  cases a with
  | mp i=>
   cases hst:an C.st i with
   |map K V es=>
    have e1:Gw C.st (.mp i::l)= .fJ K V (es.map (·.1)) (es.map (·.2))::Gw C.st l:=by simp only[Gw,hst]
    have e2:FZ C.st (.mp i::l)=i::FZ C.st l:=by simp only[FZ,hst]
    rw[e1]
    have:=nk (a:= .mp i) (b:= .fJ K V (es.map (·.1)) (es.map (·.2))) hI he.keeps hw (by simp only[bW,hst]) (fun j hj hlt hn=>hX j (by rw[e2];simp only[rowsOf,List.mem_singleton] at hj;simp[hj]) hlt hn) hra
    exact⟨this.1,this.2.1,this.2.2,IV hI he hw l vs (fun j hj=>hX j (by rw[e2];simp[hj])) hm.2.2.2⟩
   |_=>exact same (by simp only[Gw,hst]) (by simp only[FZ,hst])
  |_=>exact same rfl rfl
theorem PF{P:Pg}{f:FuncId}{args:List AV}{st:List Obj}{K:AV->List Obj->Prop}(h:bD P f (Gw st args) (cD st (FZ st args)) K):bD P f args st K:=by
 refine⟨h.1,fun C vs hP hI hst hm=>?_⟩
 subst hst
 obtain⟨C1,a1,a2,_,a4,a5,a6⟩:=lu (FZ C.st args) hI
 have:=h.2 C1 vs (a5.keeps.P.trans hP) a4 a1 (IV hI a5 a2 args vs.toList a6 hm)
 rw[a2] at this
 refine this.mono ?_
 rintro e w' ⟨v,r,C',rfl,rfl,b1,b2,b3,b4,b5⟩
 rw[hH] at b4
 exact⟨v,r,C',rfl,rfl,b1.trans a5.keeps.P,b2,b3,a5.trans b4 (Nat.le_refl _),b5⟩
def EB.yn(b:EB){f:Nat}{g:List AV->Option (Bool×AV)}(h:fg b.E.P f g):EB:=⟨b.E.aK f g,b.ok.dZ h,b.mono.aK⟩
def EB.HV(b:EB){f:Nat}{sp:b7}(hm:sp.ib)(h: ∀args st K,sp args st K->bD b.E.P f args st K):EB:=⟨b.E.az f sp,b.ok.fT h,b.mono.az hm⟩
def EB.frozen(b:EB){f:Nat}{sp:b7}(hm:sp.ib)(h: ∀args st K,sp args st K->bD b.E.P f args st K):EB:=
 ⟨b.E.az f fun args s K=>sp (Gw s args) (cD s (FZ s args)) K,b.ok.fT fun _ _ _ hh=>PF (h _ _ _ hh),b.mono.az fun _ _ _ _ hK hh=>hm _ _ _ _ hK hh⟩
def qy:b7:=fun args st K=>
 match args,st with
 |[.fJ K' V ks vs],[]=>K (.mp 0) [.map K' V (ks.zip vs)]
 |_,_=>False
theorem Dj:qy.ib:=fun args st K K' hK h=>by
 unfold qy at h⊢
 split at h
 ·exact hK _ _ h
 ·exact h.elim
theorem Ge{P:Pg}{ρ:Ren}{f:Nat}(hf:ρ.f 5=f)(hb: ∃fn,P.funcs[f]? =some fn/\fn.body.isSome=true)(L:SlLaysW.n5 P.toProgram ρ){args:List AV}{st:List Obj}{K:AV->List Obj->Prop}(h:qy args st K):bD P f args st K:=by
 subst hf
 unfold qy at h
 split at h
 ·rename_i K' V ks vs
  refine⟨hb,fun C va hP hI hst hm=>?_⟩
  obtain⟨v,rfl,hr⟩: ∃v,va= #[v]/\Rel C (.fJ K' V ks vs) v:=by
   match e:va.toList,hm with
   |[],hm=>simp[MT] at hm
   |[v],hm=>exact⟨v,by simpa using congrArg List.toArray e,by simp only[MT] at hm;exact⟨hm.1,hm.2.1,hm.2.2.1⟩⟩
   |_::_::_,hm=>simp[MT] at hm
  obtain⟨b,ents,clock,rfl,_,hh,hmap,rfl,hp,hmt⟩:=tq hr
  refine(callsIn_wide.2 (AnyW.maps_Clone L b ents clock C.w hh)).mono ?_
  rintro e w' ⟨rfl,rfl⟩
  have hold:=bE C.w (.map ents clock)
  have hx:=fx hI (o:= .map K' V ((ents.toList.map (·.key)).zip vs)) (g:=⟨C.w.heap.size,0,false⟩) (w:=C.w.alloc (.map ents clock)) rfl (by rw[cn];omega) (gl _ _) hold
   ⟨fun h=>by have:=hI.xs _ h;simp at this,ents,clock,alloc_heap_new _ _,bZ.eu (iQ hI hold) hI.lay (uD _ _ hp hmt),hmap⟩
  refine⟨_, .mp C.st.length,C.add (.map K' V ((ents.toList.map (·.key)).zip vs)) ⟨C.w.heap.size,0,false⟩ (C.w.alloc (.map ents clock)),rfl,rfl,rfl,hx.1,dV rfl rfl ?_ hx.1,by rw[←hst];exact hx.2,by simpa[Ctx.add,hst] using h⟩
  simp only[M]
  refine⟨by simp[Ctx.add],_,rfl,rfl,fun K' V' es hx=>?_⟩
  rw[bp.2]
 ·exact h.elim
theorem Ks{C:Ctx}: ∀(l:List AV) (vs:List Value),MT C l vs->l.length=vs.length/\∀i,i<l.length->Rel C (nth l i) (vs.getD i undef)
 |[],vs,h=>by simp only[MT] at h;subst h;exact⟨rfl,fun i hi=>absurd hi (Nat.not_lt_zero i)⟩
 |a::l,[],h=>by simp[MT] at h
 |a::l,v::vs,h=>by
  simp only[MT] at h
  obtain⟨h1,h2⟩:=Ks l vs h.2.2.2
  refine⟨by simp[h1],fun i hi=>?_⟩
  cases i with
  |zero=>exact⟨h.1,h.2.1,h.2.2.1⟩
  |succ i=>simpa[nth] using h2 i (by simpa using hi)
theorem NZ{C:Ctx}: ∀(l:List AV) (vs:List Value),l.length=vs.length->(∀i,i<l.length->Rel C (nth l i) (vs.getD i undef))->MT C l vs
 |[],[],_,_=>by simp[MT]
 |[],_::_,h,_=>by simp at h
 |_::_,[],h,_=>by simp at h
 |a::l,v::vs,h,hr=>by
  have h0:Rel C a v:=hr 0 (by simp)
  have:=NZ l vs (by simpa using h) fun i hi=>by simpa[nth] using hr (i+1) (by simpa using hi)
  simp only[MT]
  exact⟨h0.1,h0.2.1,h0.2.2,this⟩
theorem L1{P:Pg}{f:FuncId}{args:List AV}{st:List Obj}{K:AV->List Obj->Prop}(live:List (Nat×Option TypeId))(h:bD P f (gB live {bg:=args,st:=st}).bg (gB live {bg:=args,st:=st}).st K):bD P f args st K:=by
 refine⟨h.1,fun C vs hP hI hst hm=>?_⟩
 subst hst
 obtain⟨m1,m2⟩:=Ks _ _ hm
 have hs:db C {bg:=args,st:=C.st} {tmps:=vs,defers:=[]}:=⟨rfl,by simpa using m1,fun i hi=>by simpa using m2 i hi⟩
 obtain⟨C1,a1,a2,a3,a4⟩:=iZ live hI hs
 have:=h.2 C1 vs (a4.keeps.P.trans hP) a2 a3.st (NZ _ _ (by simpa using a3.bg.1) fun i hi=>by simpa using a3.bg.2 i hi)
 rw[a1] at this
 refine this.mono ?_
 rintro e w' ⟨v,r,C',rfl,rfl,b1,b2,b3,b4,b5⟩
 exact⟨v,r,C',rfl,rfl,b1.trans a4.keeps.P,b2,b3,a4.trans (b4.mono (by rw[←a3.st];exact a4.len)) (Nat.le_refl _),b5⟩
def EB.Yt(b:EB){f:Nat}{sp:b7}(live:List (Nat×Option TypeId))(hm:sp.ib)(h: ∀args st K,sp args st K->bD b.E.P f args st K):EB:=
 ⟨b.E.az f fun args s K=>sp (gB live {bg:=args,st:=s}).bg (gB live {bg:=args,st:=s}).st K,b.ok.fT fun _ _ _ hh=>L1 live (h _ _ _ hh),b.mono.az fun _ _ _ _ hK hh=>hm _ _ _ _ hK hh⟩
def EB.yi(b c:EB){N f k base:Nat}{α:Type}{st:α->S}{side:α->Prop}{out:α->Out (Exit×S)}(hP:b.E.P=c.E.P)(h:bf c.E N f k (aR base st side out)):EB:=
 ⟨b.E.ar f k (aR base st side out),by
  have hc:=c.ok.ar c.mono h
  refine⟨b.ok.prog,b.ok.fu,b.ok.call,b.ok.kW,fun g j cc rd base s K hh=>?_⟩
  have hl:=hc.loop g j cc rd base s K
  simp only[Env.ar] at hh hl
  cases hb:(Nat.beq g f&&Nat.beq j k) with
  |true=>
   rw[hb,aa7] at hh hl
   show Sound b.E.P _ _ _ _ _
   rw[hP] at hh⊢
   exact hl hh
  |false=>rw[hb] at hh;exact b.ok.loop _ _ _ _ _ _ _ hh,b.mono.ar aW⟩
def oO(E:Env)(N:Nat):Nat->FuncId->Nat->Code->Option Nat->Nat->S->(Exit->S->Prop)->Prop
 |0=>fun _ _ _ _ _ _ _=>False
 |n+1=>fun f k c rd base s K=>vc E N f rd base c s (vg E f k base (fun s'=>oO E N n f k c rd base s' K) K)
def Env.lV(E:Env)(sel:FuncId->Bool)(N n:Nat):Env:=
 {E with loop:=fun f k c rd base s K=>bif sel f then oO E N n f k c rd base s K else E.loop f k c rd base s K}
theorem qV{E:Env}(hM:aj E){N:Nat}{f k:Nat}{c:Code}{rd:Option Nat}{base:Nat}: ∀n {s:S} {K K':Exit->S->Prop},(∀e s,K e s->K' e s)->oO E N n f k c rd base s K->oO E N n f k c rd base s K'
 |0,_,_,_,_,h=>h
 |n+1,_,_,_,hK,h=>oA hM N _ _ _ _ _ _ _ (wo (fun _ hs=>qV hM n hK hs) hK) h
theorem Cd{E:Env}(hE:aE E)(hM:aj E){N:Nat}(n:Nat){f k:Nat}{c:Code}{rd:Option Nat}{base:Nat}{s:S}{K:Exit->S->Prop}(h:oO E N n f k c rd base s K):Sound E.P rd base (.loop c) s K:=by
 refine uv (N:=N) (f:=f) (k:=k) hE hM (fun m s'=>oO E N m f k c rd base s' K) n h ?_
 intro m s' hs
 cases m with
 |zero=>exact hs.elim
 |succ m=>
  refine oA hM N _ _ _ _ _ _ _ ?_ hs
  intro e s2 h2
  cases e<;>simp only[vg,bB,jQ] at h2⊢ <;>refine cq (fun h=>?_) h2<;>first|exact⟨m,Nat.lt_succ_self m,h⟩|exact h
def EB.lV(b:EB)(sel:FuncId->Bool)(N n:Nat):EB:=
 ⟨b.E.lV sel N n,⟨b.ok.prog,b.ok.fu,b.ok.call,b.ok.kW,fun f k c rd base s K hh=>by
   simp only[Env.lV] at hh
   cases hb:sel f with
   |true=>rw[hb] at hh;exact Cd b.ok b.mono n hh
   |false=>rw[hb] at hh;exact b.ok.loop _ _ _ _ _ _ _ hh⟩,
  ⟨b.mono.call,fun f k c rd base s K K' hK hh=>by
   simp only[Env.lV] at hh⊢
   cases hb:sel f with
   |true=>rw[hb] at hh;exact qV b.mono n hK hh
   |false=>rw[hb] at hh;exact b.mono.loop _ _ _ _ _ _ _ _ hK hh,b.mono.kW⟩⟩
end Go.Dn
