import Derived.Test.YtioeffnadipbaaaGreatDoorDoE
import Derived.Deep.Slices
import Derived.Carry
import Derived.ChangeSame
namespace Go.Dn
open Go Go.ChangeShapes Go.WideShapes Go.RowKit
mutual
def eo(P:Program):AV->TypeId->Prop
 | .lit v,T=>
  match P.underlying T with
  |some (.int k)=>∃n,v= .int k n/\(Lit.int k n).wf=true
  |some .bool=>∃b,v= .bool b
  |some .string=>∃s,v= .string s/\s.size<=maxLen
  |_=>False
 | .ad E l,T=>P.underlying T=some (.slice E)/\l.length<=maxLen/\n6 P l E
 | .agg l,T=>∃fs,(P.underlying T=some (.struct fs)/\T<P.types.size)/\lO P l fs.toList
 |_,_=>False
def n6(P:Program):List AV->TypeId->Prop
 |[],_=>True
 |a::l,T=>eo P a T/\n6 P l T
def lO(P:Program):List AV->List Field->Prop
 |[],[]=>True
 |a::l,f::fs=>eo P a f.type/\lO P l fs
 |_,_=>False
end
mutual
theorem kH{P:Program}: ∀(a:AV) (T:TypeId),eo P a T->bu P a T
 | .lit v,T,h=>by
  simp only[eo,bu] at h⊢;split at h
  ·rename_i k e;simp only[e];obtain⟨n,h1,_⟩:=h;exact⟨n,h1⟩
  ·rename_i e;simp only[e];exact h
  ·rename_i e;simp only[e];obtain⟨s,h1,_⟩:=h;exact⟨s,h1⟩
  ·exact h.elim
 | .ad E l,T,h=>by simp only[eo,bu] at h⊢;exact⟨h.1,qQ l E h.2.2⟩
 | .agg l,T,h=>by simp only[eo,bu] at h⊢;obtain⟨fs,h1,h2⟩:=h;exact⟨fs,h1,wF l _ h2⟩
 | .cK,_,h=>by simp[eo] at h
 | .aK _,_,h=>by simp[eo] at h
 | .ax _ _ _,_,h=>by simp[eo] at h
 | .ptr _ _ _ _,_,h=>by simp[eo] at h
 | .jA _ _,_,h=>by simp[eo] at h
 | .mp _,_,h=>by simp[eo] at h
 | .bJ _,_,h=>by simp[eo] at h
 | .lC _ _,_,h=>by simp[eo] at h
 | .bp _ _,_,h=>by simp[eo] at h
 | .jz _ _,_,h=>by simp[eo] at h
theorem qQ{P:Program}: ∀(l:List AV) (T:TypeId),n6 P l T->b8 P l T
 |[],_,_=>by simp[b8]
 |a::l,T,h=>by simp only[n6,b8] at h⊢;exact⟨kH a T h.1,qQ l T h.2⟩
theorem wF{P:Program}: ∀(l:List AV) (fs:List Field),lO P l fs->ea P l fs
 |[],[],_=>by simp[ea]
 |a::l,f::fs,h=>by simp only[lO,ea] at h⊢;exact⟨kH a _ h.1,wF l fs h.2⟩
 |[],_::_,h=>by simp[lO] at h
 |_::_,[],h=>by simp[lO] at h
end
mutual
def FK{H:Type}:AV->DataW H->Prop
 | .lit (.int k n),d=>d= .lit (.int k n)
 | .lit (.bool b),d=>d= .lit (.bool b)
 | .lit (.string s),d=>d= .lit (.string s.data.toList)
 | .ad _ l,d=>(l=[]/\d= .nil)\/ ∃es sp,d= .slice es sp/\FL l es
 | .agg l,d=>∃es,d= .agg es/\FL l es
 |_,_=>False
def FL{H:Type}:List AV->List (DataW H)->Prop
 |[],es=>es=[]
 |a::l,es=>∃e r,es=e::r/\FK a e/\FL l r
end
def Rn(P:Program)(S:List TypeId):=
 S.all fun T=>Nat.blt T P.types.size&&match P.underlying T with
  |some (.int _)|some .bool|some .string=>true
  |some (.slice E)=>S.contains E&&Nat.blt 0 (P.cellsOf E)
  |some (.struct a)=>a.toList.all fun f=>S.contains f.type
  |_=>false
theorem Ux{H n}{D:Nat->DataW H}{A}(h: ∀i,i<n->FK (A i) (D i)): ∀k,k<=n->FL ((List.range' k (n - k)).map A) ((List.range' k (n - k)).map D):=by
 intro k b;generalize a:n - k=m
 induction m generalizing k<;>grind [List.range'_succ,FL]
theorem CD{P T n A}(h: ∀i,i<n->eo P (A i) T): ∀k,k<=n->n6 P ((List.range' k (n - k)).map A) T:=by
 intro k b;generalize a:n - k=m
 induction m generalizing k<;>grind [n6,List.range'_succ]
theorem Wp{C n z off s A}(h: ∀i,i<n->M C (A i) s (off+i*z)): ∀k,k<=n->MR C ((List.range' k (n - k)).map A) z s (off+k*z):=by
 intro k b;generalize a:n - k=m
 induction m generalizing k<;>grind [MR,List.range'_succ]
theorem Co{w:World}{base a n b}(h:w.cells? base a n=some b):b.length=n/\∀j,j<n->w.cell? (a.add j)=b[j]? :=by
 unfold World.cells? at h;split at h
 ·refine⟨by simpa using mapM_some_length h,fun j c=>?_⟩
  exact mapM_some_get h j j (by grind)
 grind
theorem JY{P}(hL:eU P){S}(hS:Rn P S=true){H}{enc:TypeId×Value->H}{C}(V:C.P=P)(hX: ∀b,b<C.w.heap.size->C.X b){sp hd}: ∀c T,S.contains T=true->∀R d ps,DataW.trod enc P C.w 0 sp hd c T R=some (d,ps)->
  ∃a,eo P a T/\M C a (fun j=>R[j]?) 0/\R.length=wid a/\FK a d/\((∃fs,P.underlying T=some (.struct fs))↔bV a=true):=by
 intro c;induction c with
 |zero=>intro T _ R d ps h;simp[DataW.trod] at h
 | succ c ih=>
  intro T hT R d ps h;have m:=List.all_eq_true.1 hS T (by simpa using hT);rw[an3] at m;obtain⟨hlt,m⟩:=m;cases u:P.underlying T with
  |none=>rw[u] at m;cases m
  | some D=>
   rw[u] at m;cases D<;>try (cases m;done)
   case bool=>
    obtain⟨b,rfl,r⟩:=DataW.trod_bool u h;cases r;exact⟨.lit (.bool b),by simp only[eo,u];exact⟨b,rfl⟩,by simp[M,bg],by simp[wid],by simp[FK],by simp[bV]⟩
   case int k=>
    obtain⟨n,rfl,r,Y⟩:=DataW.trod_int u h;cases r;exact⟨.lit (.int k n),by simp only[eo,u];exact⟨n,rfl,Y⟩,by simp[M,bg],by simp[wid],by simp[FK],by simp[bV]⟩
   case string=>
    obtain⟨s,rfl,r,Y⟩:=DataW.trod_string u h;cases r;exact⟨.lit (.string s),by simp only[eo,u];exact⟨s,rfl,Y⟩,by simp[M,bg],by simp[wid],by simp[FK],by simp[bV]⟩
   case slice E=>
    simp only[an3] at m;obtain⟨hE,hz⟩:=m;have hz:0<P.cellsOf E:=Nat.le_of_ble_eq_true hz;rcases DataW.trod_slice u h with⟨rfl,r⟩|⟨a,g,cap,e,rest,n,hn,rfl,r,hb,Z,hm,K,J,_,_⟩
    ·cases r
     exact⟨.ad E [],by simp[eo,u,n6],by simp[M,b8],by simp[wid],by simp[FK],by simp[bV]⟩
    ·cases r
     obtain rfl:c=n:=by omega
     have hsp:0<g->a.spot=none/\a.block<C.w.heap.size:=by
      intro B;have h1:=J 0 B;rw[ao5 (by omega)] at h1;obtain⟨cs',h2,_⟩:=Option.bind_eq_some_iff.1 h1;obtain⟨k1,L⟩:=Co h2;have:=L 0 hz
      rw[ao5 (by omega)] at this;simp only[Nat.zero_mul,Addr.add,if_true] at this;unfold World.cell? at this;split at this
      ·rename_i hh
       refine⟨?_,(Array.getElem?_eq_some_iff.1 hh).1⟩;cases hq:a.spot with
       |none=>rfl
       |some q=>rw[hq] at this;simp at this
      ·cases this
     have hall: ∀i,i<g->∃U,eo P U E/\M C U (cellAt C.w a.block) (a.off+i*P.cellsOf E)/\(∀x,e[i]? =some x->FK U x.1)/\a.spot=none/\a.block<C.w.heap.size:=by
      intro i p;have h1:=J i p;rw[ao5 (by omega)] at h1;obtain⟨cs',h2,h3⟩:=Option.bind_eq_some_iff.1 h1;obtain⟨k1,L⟩:=Co h2;obtain⟨U,O,g2,g3,g4,_⟩:=ih E hE cs' _ _ h3;obtain⟨v,Q⟩:=hsp (by omega);refine⟨U,O,?_,?_,v,Q⟩
      ·have Y:=dw hL U E (kH _ _ O)
       refine mg (C:=C) (C':=C) (bK.refl C) (by rw[V];exact hL) U E _ _ 0 _ (by rw[V];exact kH _ _ O) (fun j hj=>?_) g2;have:=L j (by omega)
       simp only[Nat.zero_add];rw[←this,Deep.add_add];unfold cellAt;congr 1
       obtain⟨ab,ao,F⟩:=a;simp only at v;subst v;unfold Addr.add;split
       ·rename_i N;simp[show i*P.cellsOf E=0 by omega,show j=0 by omega]
       ·simp
      ·intro x r
       rw[ao5 (by omega)] at r;simp only[an5] at r;subst r;exact g4
     obtain⟨A,hA⟩:=Deep.choose_lt (α:=AV) hall;have e0:g - 0=g:=rfl;have hel2:e.map (·.1)=(List.range' 0 (g - 0)).map fun i=>(e.getD i (.nil,[])).1:=by
      apply List.ext_getElem?;intro i;by_cases p:i<g
      ·simp[p,K,List.getD]
      ·simp[p,K]
     refine⟨.ad E ((List.range' 0 (g - 0)).map A),?_,?_,by simp[wid],?_,by simp[bV]⟩
     ·simp only[eo]
      exact⟨u,by simp;omega,CD (fun i p=>(hA i p).1) 0 (by omega)⟩
     ·simp only[M]
      refine⟨by rw[V];exact qQ _ _ (CD (fun i p=>(hA i p).1) 0 (by omega)),some a,cap,by simp,by simpa using Z,fun hne=>?_⟩;have B:0<g:=by
       rcases Nat.eq_zero_or_pos g with N|N
       ·subst N;simp at hne
       ·exact N
      obtain⟨_,_,_,v,Q⟩:=hA 0 B;obtain⟨ab,ao,F⟩:=a;simp only at v;subst v;refine⟨ab,ao,rfl,hX _ Q,?_⟩;have:=Wp (C:=C) (z:=P.cellsOf E) (off:=ao) (s:=cellAt C.w ab) (A:=A) (n:=g) (fun i p=>(hA i p).2.1) 0 (by omega)
      rw[V];show MR C _ _ (cellAt C.w ab) ao
      simpa using this
     ·simp only[FK]
      refine .inr ⟨_,_,rfl,?_⟩;rw[hel2];refine Ux (fun i p=>?_) 0 (by omega);have:=(hA i p).2.2.1 (e[i]'(by omega)) (ao5 _)
      simpa[List.getD,ao5 (show i<e.length by omega)] using this
   case struct fs=>
    obtain⟨xs,n,hn,r,hcl,hxl,J⟩:=DataW.trod_struct u h;cases r;obtain rfl:c=n:=by omega
    have t:=hL T;simp only[s7,u] at t;have t:=t (Nat.le_of_ble_eq_true hlt);have hfs:=List.all_eq_true.1 m;have key: ∀(l:List Field) (I:List (DataW H×List MemPlace)) (o:Nat),AO P l o (P.cellsOf T)->(∀f,f∈l->S.contains f.type=true)->
      I.length=l.length->(∀(i:Nat) (f:Field),l[i]? =some f->DataW.trod enc P C.w 0 sp hd c f.type ((R.drop f.offset).take (P.cellsOf f.type))=I[i]?)->
      ∃F,lO P F l/\ML C F (fun j=>R[j]?) o/\o+eL F=P.cellsOf T/\FL F (I.map (·.1)):=by
     intro l;induction l with
     |nil=>
      intro I o W _ Z _;simp only[AO] at W;have:I=[]:=by cases I with|nil=>rfl|cons _ _=>simp at Z
      subst this;exact⟨[],by simp[lO],by simp[ML],by simp[eL,W],by simp[FL]⟩
     | cons f l ihl=>
      intro I o W hS' Z hat;cases I with
      |nil=>simp at Z
      | cons y I=>
       simp only[AO] at W;have N:=hat 0 f rfl;simp only[List.getElem?_cons_zero] at N;obtain⟨a,O,g2,g3,g4,_⟩:=ih f.type (hS' f (by simp)) _ _ _ N;obtain⟨F,k1,L,k3,k4⟩:=ihl I (o+P.cellsOf f.type) W.2 (fun f' hf'=>hS' f' (by simp[hf'])) (by simpa using Z)
        (fun i f' p=>by have:=hat (i+1) f' (by simpa using p);simpa using this)
       have Y:=dw hL a f.type (kH _ _ O);refine⟨a::F,by simp only[lO];exact⟨O,k1⟩,?_,by simp only[eL];omega,by simp only[FL,ao9];exact⟨_,_,rfl,g4,k4⟩⟩;simp only[ML];refine⟨?_,by rw[Y];exact L⟩;refine mg (C:=C) (C':=C) (bK.refl C) (by rw[V];exact hL) a f.type _ _ 0 _ (by rw[V];exact kH _ _ O) (fun j hj=>?_) g2;simp only[Nat.zero_add,List.getElem?_take,List.getElem?_drop,W.1];rw[if_pos (by omega)]
    obtain⟨F,k1,L,k3,k4⟩:=key fs.toList xs 0 t hfs (by simpa using hxl) (fun i f p=>J i f (by simpa using p));refine⟨.agg F,by simp only[eo];exact⟨fs,⟨u,Nat.le_of_ble_eq_true hlt⟩,k1⟩,by simp only[M];exact L,by simp only[wid];omega,by simp only[FK];exact⟨_,rfl,k4⟩,by simp[bV]⟩
def oP(P:Program):List TypeId->List AV->Prop
 |[],[]=>True
 |T::c,a::b=>eo P a T/\oP P c b
 |_,_=>False
theorem Fp{P w base T v}(h:Value.okWide P w .any base T v):eF v=true↔(∃b,P.underlying T=some (.struct b))\/ ∃n e,P.underlying T=some (.array n e):=by
 unfold Value.okWide at h;split at h
 ·grind [eF]
 ·grind [eF]
 ·constructor
  ·intro a
   cases v<;>simp[eF] at a
   simp_all[Cell.okWide,Cell.ok]
  ·grind
theorem Dl{P}(z:eU P){S}(m:Rn P S=true){H enc C}(y:C.P=P)(x: ∀b,b<C.w.heap.size->C.X b){sp hd base}: ∀c k (ds:List (DataW H)) ps,
  (∀t,t∈c->S.contains t=true)->(∀(j:Nat) t v,c[j]? =some t->k[j]? =some v->Value.okWide P C.w .any base t v)->DataW.TrodAll enc P C.w 0 sp hd c k ds ps->
  ∃g,oP P c g/\MT C g k/\FL g ds
 |[],k,ds,ps,_,_,h=>by
  obtain⟨rfl,rfl,rfl⟩:=trodAll_nil h;exact⟨[],by simp[oP],by simp[MT],by simp[FL]⟩
 | T::c,k,ds,ps,q,u,h=>by
  obtain⟨v,r,d,p,a,b,rfl,rfl,rfl,i,o⟩:=trodAll_cons h;obtain⟨g,A,B,K⟩:=Dl z m y x c r p b (fun t h=>q t (by simp[h])) (fun j t v i o=>u (j+1) t v (by simpa using i) (by simpa using o)) o;obtain⟨l,i⟩:=i;obtain⟨a,D,E,F,I,J⟩:=JY z m y x l T (q T (by simp)) _ _ _ i;have s:=Fp (u 0 T v rfl rfl);refine⟨a::g,by simp only[oP];exact⟨D,A⟩,?_,by simp only[FL];exact⟨_,_,rfl,I,K⟩⟩;simp only[MT];refine⟨.inl ?_, .inl (by simpa using F),by simpa using E,B⟩;rw[Bool.eq_iff_iff,s,←J];constructor
  ·rintro(h|⟨n,e,h⟩)
   ·exact h
   ·have f:=List.all_eq_true.1 m T (by simpa using q T (by simp))
    rw[h] at f;simp at f
  ·exact .inl
section
variable {H:Type} {enc:TypeId×Value->H} {P:Program}
theorem yB{f}{s:ChangeSpec}{d l e k:Bool}{W n args v ds u a pa pv}
  (w:DataW.Whole enc P f.params.toList s.vars d W args.toList ds u a)
  (h: ∀b sp hd,DataW.TrodAll enc P n b sp hd f.resultTypes.toList (v.resultList f.resultTypes.size) (s.fn H (ds++u)).results [])
  (g: ∀sp,(∀p∈a,sp p.block=true)->DataW.TrodAll enc P n 0 sp true f.params.toList args.toList (s.fn H (ds++u)).args pa)
  (c: ∀sp,(∀p∈a,sp p.block=true)->DataW.TrodVars enc P n sp s.vars (s.fn H (ds++u)).vars pv)
  (x:a=pa++pv) (z:Below W.heap.size W n)
  (y: ∀(j:Nat) t r,f.resultTypes[j]? =some t->(v.resultList f.resultTypes.size)[j]? =some r->Value.okWide P n .any 0 t r):
  s.post enc P f d l e k W args v n:=by
 have o:=fun p m=>w.lt p m
 have i: ∀p∈a,(fun b=>decide (b<W.heap.size)) p.block=true:=fun p m=>by simpa using o p m
 refine⟨ds,u,a,[],pa,pv,w,h _ _ _,g _ i,c _ i,World.keptBut_mono (fun p m=>⟨m,?_⟩) (z.frame (· ∈a)),fun _=>?_⟩
 ·grind
 ·obtain⟨_,_,_,_,_,A,B⟩:=w
  refine⟨y,_,_,([]++pa)++pv,⟨[]++pa,pv,trodAll_append (g _ (fun _ _=>rfl)) (h _ _ _),c _ (fun _ _=>rfl),rfl,?_,?_⟩,?_⟩
  ·intro b off m
   have q:MemPlace.cell b off∈a:=by rw[x];simpa using m
   rw[z.frozen (o _ q)];exact A b off q
  ·grind
  grind
theorem DS(f:laidOutB P=true){W i}(g:Below W.heap.size W i){sp}: ∀{e c ds ps},
  (∀t,t∈e->P.readableRec t=true/\t<P.types.size)->(∀p,p∈ps->p.block<W.heap.size)->(∀p,p∈ps->sp p.block=true)->
  DataW.TrodAll enc P W 0 (fun _=>true) true e c ds ps->DataW.TrodAll enc P i 0 sp true e c ds ps
 |[],c,ds,ps,_,_,_,h=>by
  obtain⟨rfl,rfl,rfl⟩:=trodAll_nil h;exact rfl
 |t::e,c,ds,ps,j,k,m,h=>by
  obtain⟨v,n,d,l,a,b,rfl,rfl,rfl,o,q⟩:=trodAll_cons h;refine⟨a,b,WideElems.Trod_stays f (j t (by simp)).1 (j t (by simp)).2 o (fun x r=>g.same (by grind)) (by grind),?_,rfl⟩;exact DS f g (by grind) (by grind) (by grind) q
theorem AN(hL:eU P)(hl:laidOutB P=true){S}(hS:Rn P S=true){f l}{s:ChangeSpec}{B}
  (D:l.resultTypes= #[B]) (hB:P.underlying B=some .bool) (hts:l.params.toList.all (fun t=>S.contains t&&P.readableRec t)=true) (m:s.vars=[])
  {n F g I W} {base:Nat} {args ds gs z}
  (N: ∀(j:Nat) t v,l.params[j]? =some t->args[j]? =some v->Value.okWide P W .any base t v)
  (hW:DataW.Whole enc P l.params.toList s.vars n W args.toList ds gs z)
  (L: ∀d,d.length=l.params.size->s.fn H d={results:=[.lit (.bool true)],args:=d})
  {y O} (c: ∀b o,y b=some o->W.heap[b]? =some o)
  (Ee: ∀R,oP P l.params.toList R->FL R ds->bt ⟨P,y,O⟩ f R [] fun r _=>r= .bool true):
  Calls P f args W fun e W'=>∃v,e= .returned v/\s.post enc P l n F g I W args v W':=by
 have U:=hW;obtain⟨p,q,hA,hV,rfl,hfz,hnd⟩:=hW;have hg:gs=[]/\q=[]:=by
  rw[m] at hV;cases gs with
  |nil=>exact⟨rfl,hV⟩
  |cons _ _=>exact hV.elim
 obtain⟨rfl,rfl⟩:=hg;have u: ∀t,t∈l.params.toList->S.contains t=true/\P.readableRec t=true:=fun t A=>by
  have:=List.all_eq_true.1 hts t A
  rwa [an3] at this
 have hlt: ∀t,t∈l.params.toList->t<P.types.size:=fun t A=>by
  have:=List.all_eq_true.1 hS t (by simpa using(u t A).1)
  rw[an3] at this;exact Nat.le_of_ble_eq_true this.1
 let C:Ctx:={P:=⟨P,y,O⟩,X:=fun b=>b<W.heap.size,ι:=fun _=>⟨0,0,true⟩,st:=[],w:=W}
 have hI:Inv C:=⟨hL,fun i J=>by simp[C] at J,fun i j J=>by simp[C] at J,fun b E=>E,fun i J=>by simp[C] at J,fun b E=>absurd rfl E,fun b o h=>⟨(Array.getElem?_eq_some_iff.1 (c b o h)).1,c b o h⟩⟩
 obtain⟨R,g1,g2,g3⟩:=Dl (C:=C) (sp:=fun _=>true) (hd:=true) hL hS rfl (fun b E=>E) l.params.toList args.toList ds p (fun t A=>(u t A).1)
  (fun j t v h1 h2=>N j t v (by simpa using h1) (by simpa using h2)) hA
 have T:ds.length=l.params.size:=by
  have: ∀(Q:List TypeId) (vs:List Value) (ds:List (DataW H)) (p:List MemPlace),DataW.TrodAll enc P W 0 (fun _=>true) true Q vs ds p->ds.length=Q.length:=by
   intro Q;induction Q with
   |nil=>intro vs ds p h;obtain⟨rfl,rfl,rfl⟩:=trodAll_nil h;rfl
   |cons t Q ih=>
    intro vs ds p h;obtain⟨v,vs1,d,ds1,a,b,rfl,rfl,rfl,h1,h2⟩:=trodAll_cons h;simp[ih _ _ _ h2]
  simpa using this _ _ _ _ hA
 obtain⟨_,hs⟩:=Ee R g1 g3;refine(callsIn_wide.1 (hs C args rfl hI rfl g2)).mono ?_;rintro e W' ⟨v,r,C',rfl,rfl,hP,hI',hr,V,rfl⟩;have hv:=aL hr;subst hv;have E:Below W.heap.size W C'.w:=⟨V.os,V.tape,V.output,V.size,fun k hk=>V.frame k hk (fun⟨i,J,_⟩=>by simp[C] at J)⟩
 have K:=L (ds++[]) (by simpa using T);refine⟨_,rfl,yB (pa:=p) (pv:=[]) U ?_ ?_ ?_ rfl E ?_⟩
 ·intro b sp hd
  rw[K,D];exact trodAll_mk1 (shut_bool hB true)
 ·intro sp Y
  rw[K];simp only[List.append_nil];exact DS hl E (fun t A=>⟨(u t A).2,hlt t A⟩) (fun x Z=>U.lt x (by simp[Z])) (fun x Z=>Y x (by simp[Z])) hA
 ·intro sp _
  rw[K,m];exact rfl
 ·exact ok_one D rfl (okWide_bool_mk hB true)
end
end Go.Dn
