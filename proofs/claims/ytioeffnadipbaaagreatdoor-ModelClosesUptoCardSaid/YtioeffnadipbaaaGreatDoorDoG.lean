import Derived.Test.YtioeffnadipbaaaGreatDoorDoE
import Derived.Deep.Slices
import Derived.Carry
import Derived.ChangeSame
namespace Go.Dn
open Go Go.ChangeShapes Go.WideShapes Go.RowKit
mutual
def eU(P:Program):AV->TypeId->Prop
 | .lit v,T=>
  match P.underlying T with
  |some (.int k)=>∃n,v= .int k n/\(Lit.int k n).wf=true
  |some .bool=>∃b,v= .bool b
  |some .string=>∃s,v= .string s/\s.size<=maxLen
  |_=>False
 | .ah E l,T=>P.underlying T=some (.slice E)/\l.length<=maxLen/\oJ P l E
 | .agg l,T=>∃fs,(P.underlying T=some (.struct fs)/\T<P.types.size)/\ml P l fs.toList
 |_,_=>False
def oJ(P:Program):List AV->TypeId->Prop
 |[],_=>True
 |a::l,T=>eU P a T/\oJ P l T
def ml(P:Program):List AV->List Field->Prop
 |[],[]=>True
 |a::l,f::fs=>eU P a f.type/\ml P l fs
 |_,_=>False
end
mutual
theorem lg{P:Program}: ∀(a:AV) (T:TypeId),eU P a T->bE P a T
 | .lit v,T,h=>by
  simp only[eU,bE] at h⊢;split at h
  ·rename_i k e;simp only[e];obtain⟨n,h1,_⟩:=h;exact⟨n,h1⟩
  ·rename_i e;simp only[e];exact h
  ·rename_i e;simp only[e];obtain⟨s,h1,_⟩:=h;exact⟨s,h1⟩
  ·exact h.elim
 | .ah E l,T,h=>by simp only[eU,bE] at h⊢;exact⟨h.1,ry l E h.2.2⟩
 | .agg l,T,h=>by simp only[eU,bE] at h⊢;obtain⟨fs,h1,h2⟩:=h;exact⟨fs,h1,xK l _ h2⟩
 | .cP,_,h=>by simp[eU] at h
 | .aH _,_,h=>by simp[eU] at h
 | .ak _ _ _,_,h=>by simp[eU] at h
 | .ptr _ _ _ _,_,h=>by simp[eU] at h
 | .jK _ _,_,h=>by simp[eU] at h
 | .mp _,_,h=>by simp[eU] at h
 | .cn _,_,h=>by simp[eU] at h
 | .lZ _ _,_,h=>by simp[eU] at h
 | .bo _ _,_,h=>by simp[eU] at h
 | .jT _ _,_,h=>by simp[eU] at h
theorem ry{P:Program}: ∀(l:List AV) (T:TypeId),oJ P l T->cu P l T
 |[],_,_=>by simp[cu]
 |a::l,T,h=>by simp only[oJ,cu] at h⊢;exact⟨lg a T h.1,ry l T h.2⟩
theorem xK{P:Program}: ∀(l:List AV) (fs:List Field),ml P l fs->eB P l fs
 |[],[],_=>by simp[eB]
 |a::l,f::fs,h=>by simp only[ml,eB] at h⊢;exact⟨lg a _ h.1,xK l fs h.2⟩
 |[],_::_,h=>by simp[ml] at h
 |_::_,[],h=>by simp[ml] at h
end
mutual
def HV{H:Type}:AV->DataW H->Prop
 | .lit (.int k n),d=>d= .lit (.int k n)
 | .lit (.bool b),d=>d= .lit (.bool b)
 | .lit (.string s),d=>d= .lit (.string s.data.toList)
 | .ah _ l,d=>(l=[]/\d= .nil)\/ ∃es sp,d= .slice es sp/\HW l es
 | .agg l,d=>∃es,d= .agg es/\HW l es
 |_,_=>False
def HW{H:Type}:List AV->List (DataW H)->Prop
 |[],es=>es=[]
 |a::l,es=>∃e r,es=e::r/\HV a e/\HW l r
end
def U6(P:Program)(S:List TypeId):=
 S.all fun T=>Nat.blt T P.types.size&&match P.underlying T with
  |some (.int _)|some .bool|some .string=>true
  |some (.slice E)=>S.contains E&&Nat.blt 0 (P.cellsOf E)
  |some (.struct a)=>a.toList.all fun f=>S.contains f.type
  |_=>false
theorem YB{H n}{D:Nat->DataW H}{A}(h: ∀i,i<n->HV (A i) (D i)): ∀k,k<=n->HW ((List.range' k (n - k)).map A) ((List.range' k (n - k)).map D):=by
 intro k b;generalize a:n - k=m
 induction m generalizing k<;>grind [List.range'_succ,HW]
theorem El{P T n A}(h: ∀i,i<n->eU P (A i) T): ∀k,k<=n->oJ P ((List.range' k (n - k)).map A) T:=by
 intro k b;generalize a:n - k=m
 induction m generalizing k<;>grind [oJ,List.range'_succ]
theorem aa3{C n z off s A}(h: ∀i,i<n->M C (A i) s (off+i*z)): ∀k,k<=n->MR C ((List.range' k (n - k)).map A) z s (off+k*z):=by
 intro k b;generalize a:n - k=m
 induction m generalizing k<;>grind [MR,List.range'_succ]
theorem D8{w:World}{base a n b}(h:w.cells? base a n=some b):b.length=n/\∀j,j<n->w.cell? (a.add j)=b[j]? :=by
 unfold World.cells? at h;split at h
 ·refine⟨by simpa using mapM_some_length h,fun j c=>?_⟩
  exact mapM_some_get h j j (by grind)
 grind
theorem Mx{P}(hL:ft P){S}(hS:U6 P S=true){H}{enc:TypeId×Value->H}{C}(V:C.P=P)(hX: ∀b,b<C.w.heap.size->C.X b){sp hd}: ∀c T,S.contains T=true->∀R d ps,DataW.trod enc P C.w 0 sp hd c T R=some (d,ps)->
  ∃a,eU P a T/\M C a (fun j=>R[j]?) 0/\R.length=wid a/\HV a d/\((∃fs,P.underlying T=some (.struct fs))↔cg a=true):=by
 intro c;induction c with
 |zero=>intro T _ R d ps h;simp[DataW.trod] at h
 | succ c ih=>
  intro T hT R d ps h;have m:=List.all_eq_true.1 hS T (by simpa using hT);rw[aC6] at m;obtain⟨hlt,m⟩:=m;cases u:P.underlying T with
  |none=>rw[u] at m;cases m
  | some D=>
   rw[u] at m;cases D<;>try (cases m;done)
   case bool=>
    obtain⟨b,rfl,r⟩:=DataW.trod_bool u h;cases r;exact⟨.lit (.bool b),by simp only[eU,u];exact⟨b,rfl⟩,by simp[M,bj],by simp[wid],by simp[HV],by simp[cg]⟩
   case int k=>
    obtain⟨n,rfl,r,Y⟩:=DataW.trod_int u h;cases r;exact⟨.lit (.int k n),by simp only[eU,u];exact⟨n,rfl,Y⟩,by simp[M,bj],by simp[wid],by simp[HV],by simp[cg]⟩
   case string=>
    obtain⟨s,rfl,r,Y⟩:=DataW.trod_string u h;cases r;exact⟨.lit (.string s),by simp only[eU,u];exact⟨s,rfl,Y⟩,by simp[M,bj],by simp[wid],by simp[HV],by simp[cg]⟩
   case slice E=>
    simp only[aC6] at m;obtain⟨hE,hz⟩:=m;have hz:0<P.cellsOf E:=Nat.le_of_ble_eq_true hz;rcases DataW.trod_slice u h with⟨rfl,r⟩|⟨a,g,cap,e,rest,n,hn,rfl,r,hb,Z,hm,K,J,_,_⟩
    ·cases r
     exact⟨.ah E [],by simp[eU,u,oJ],by simp[M,cu],by simp[wid],by simp[HV],by simp[cg]⟩
    ·cases r
     obtain rfl:c=n:=by omega
     have hsp:0<g->a.spot=none/\a.block<C.w.heap.size:=by
      intro B;have h1:=J 0 B;rw[aE0 (by omega)] at h1;obtain⟨cs',h2,_⟩:=Option.bind_eq_some_iff.1 h1;obtain⟨k1,L⟩:=D8 h2;have:=L 0 hz
      rw[aE0 (by omega)] at this;simp only[Nat.zero_mul,Addr.add,if_true] at this;unfold World.cell? at this;split at this
      ·rename_i hh
       refine⟨?_,(Array.getElem?_eq_some_iff.1 hh).1⟩;cases hq:a.spot with
       |none=>rfl
       |some q=>rw[hq] at this;simp at this
      ·cases this
     have hall: ∀i,i<g->∃U,eU P U E/\M C U (cellAt C.w a.block) (a.off+i*P.cellsOf E)/\(∀x,e[i]? =some x->HV U x.1)/\a.spot=none/\a.block<C.w.heap.size:=by
      intro i p;have h1:=J i p;rw[aE0 (by omega)] at h1;obtain⟨cs',h2,h3⟩:=Option.bind_eq_some_iff.1 h1;obtain⟨k1,L⟩:=D8 h2;obtain⟨U,O,g2,g3,g4,_⟩:=ih E hE cs' _ _ h3;obtain⟨v,Q⟩:=hsp (by omega);refine⟨U,O,?_,?_,v,Q⟩
      ·have Y:=dB hL U E (lg _ _ O)
       refine mH (C:=C) (C':=C) (bW.refl C) (by rw[V];exact hL) U E _ _ 0 _ (by rw[V];exact lg _ _ O) (fun j hj=>?_) g2;have:=L j (by omega)
       simp only[Nat.zero_add];rw[←this,Deep.add_add];unfold cellAt;congr 1
       obtain⟨ab,ao,F⟩:=a;simp only at v;subst v;unfold Addr.add;split
       ·rename_i N;simp[show i*P.cellsOf E=0 by omega,show j=0 by omega]
       ·simp
      ·intro x r
       rw[aE0 (by omega)] at r;simp only[aC8] at r;subst r;exact g4
     obtain⟨A,hA⟩:=Deep.choose_lt (α:=AV) hall;have e0:g - 0=g:=rfl;have hel2:e.map (·.1)=(List.range' 0 (g - 0)).map fun i=>(e.getD i (.nil,[])).1:=by
      apply List.ext_getElem?;intro i;by_cases p:i<g
      ·simp[p,K,List.getD]
      ·simp[p,K]
     refine⟨.ah E ((List.range' 0 (g - 0)).map A),?_,?_,by simp[wid],?_,by simp[cg]⟩
     ·simp only[eU]
      exact⟨u,by simp;omega,El (fun i p=>(hA i p).1) 0 (by omega)⟩
     ·simp only[M]
      refine⟨by rw[V];exact ry _ _ (El (fun i p=>(hA i p).1) 0 (by omega)),some a,cap,by simp,by simpa using Z,fun hne=>?_⟩;have B:0<g:=by
       rcases Nat.eq_zero_or_pos g with N|N
       ·subst N;simp at hne
       ·exact N
      obtain⟨_,_,_,v,Q⟩:=hA 0 B;obtain⟨ab,ao,F⟩:=a;simp only at v;subst v;refine⟨ab,ao,rfl,hX _ Q,?_⟩;have:=aa3 (C:=C) (z:=P.cellsOf E) (off:=ao) (s:=cellAt C.w ab) (A:=A) (n:=g) (fun i p=>(hA i p).2.1) 0 (by omega)
      rw[V];show MR C _ _ (cellAt C.w ab) ao
      simpa using this
     ·simp only[HV]
      refine .inr ⟨_,_,rfl,?_⟩;rw[hel2];refine YB (fun i p=>?_) 0 (by omega);have:=(hA i p).2.2.1 (e[i]'(by omega)) (aE0 _)
      simpa[List.getD,aE0 (show i<e.length by omega)] using this
   case struct fs=>
    obtain⟨xs,n,hn,r,hcl,hxl,J⟩:=DataW.trod_struct u h;cases r;obtain rfl:c=n:=by omega
    have t:=hL T;simp only[tL,u] at t;have t:=t (Nat.le_of_ble_eq_true hlt);have hfs:=List.all_eq_true.1 m;have key: ∀(l:List Field) (I:List (DataW H×List MemPlace)) (o:Nat),Cb P l o (P.cellsOf T)->(∀f,f∈l->S.contains f.type=true)->
      I.length=l.length->(∀(i:Nat) (f:Field),l[i]? =some f->DataW.trod enc P C.w 0 sp hd c f.type ((R.drop f.offset).take (P.cellsOf f.type))=I[i]?)->
      ∃F,ml P F l/\ML C F (fun j=>R[j]?) o/\o+fc F=P.cellsOf T/\HW F (I.map (·.1)):=by
     intro l;induction l with
     |nil=>
      intro I o W _ Z _;simp only[Cb] at W;have:I=[]:=by cases I with|nil=>rfl|cons _ _=>simp at Z
      subst this;exact⟨[],by simp[ml],by simp[ML],by simp[fc,W],by simp[HW]⟩
     | cons f l ihl=>
      intro I o W hS' Z hat;cases I with
      |nil=>simp at Z
      | cons y I=>
       simp only[Cb] at W;have N:=hat 0 f rfl;simp only[List.getElem?_cons_zero] at N;obtain⟨a,O,g2,g3,g4,_⟩:=ih f.type (hS' f (by simp)) _ _ _ N;obtain⟨F,k1,L,k3,k4⟩:=ihl I (o+P.cellsOf f.type) W.2 (fun f' hf'=>hS' f' (by simp[hf'])) (by simpa using Z)
        (fun i f' p=>by have:=hat (i+1) f' (by simpa using p);simpa using this)
       have Y:=dB hL a f.type (lg _ _ O);refine⟨a::F,by simp only[ml];exact⟨O,k1⟩,?_,by simp only[fc];omega,by simp only[HW,aE4];exact⟨_,_,rfl,g4,k4⟩⟩;simp only[ML];refine⟨?_,by rw[Y];exact L⟩;refine mH (C:=C) (C':=C) (bW.refl C) (by rw[V];exact hL) a f.type _ _ 0 _ (by rw[V];exact lg _ _ O) (fun j hj=>?_) g2;simp only[Nat.zero_add,List.getElem?_take,List.getElem?_drop,W.1];rw[if_pos (by omega)]
    obtain⟨F,k1,L,k3,k4⟩:=key fs.toList xs 0 t hfs (by simpa using hxl) (fun i f p=>J i f (by simpa using p));refine⟨.agg F,by simp only[eU];exact⟨fs,⟨u,Nat.le_of_ble_eq_true hlt⟩,k1⟩,by simp only[M];exact L,by simp only[wid];omega,by simp only[HV];exact⟨_,rfl,k4⟩,by simp[cg]⟩
def pq(P:Program):List TypeId->List AV->Prop
 |[],[]=>True
 |T::c,a::b=>eU P a T/\pq P c b
 |_,_=>False
theorem HC{P w base T v}(h:Value.okWide P w .any base T v):e6 v=true↔(∃b,P.underlying T=some (.struct b))\/ ∃n e,P.underlying T=some (.array n e):=by
 unfold Value.okWide at h;split at h
 ·grind [e6]
 ·grind [e6]
 ·constructor
  ·intro a
   cases v<;>simp[e6] at a
   simp_all[Cell.okWide,Cell.ok]
  ·grind
theorem Fp{P}(z:ft P){S}(m:U6 P S=true){H enc C}(y:C.P=P)(x: ∀b,b<C.w.heap.size->C.X b){sp hd base}: ∀c k (ds:List (DataW H)) ps,
  (∀t,t∈c->S.contains t=true)->(∀(j:Nat) t v,c[j]? =some t->k[j]? =some v->Value.okWide P C.w .any base t v)->DataW.TrodAll enc P C.w 0 sp hd c k ds ps->
  ∃g,pq P c g/\MT C g k/\HW g ds
 |[],k,ds,ps,_,_,h=>by
  obtain⟨rfl,rfl,rfl⟩:=trodAll_nil h;exact⟨[],by simp[pq],by simp[MT],by simp[HW]⟩
 | T::c,k,ds,ps,q,u,h=>by
  obtain⟨v,r,d,p,a,b,rfl,rfl,rfl,i,o⟩:=trodAll_cons h;obtain⟨g,A,B,K⟩:=Fp z m y x c r p b (fun t h=>q t (by simp[h])) (fun j t v i o=>u (j+1) t v (by simpa using i) (by simpa using o)) o;obtain⟨l,i⟩:=i;obtain⟨a,D,E,F,I,J⟩:=Mx z m y x l T (q T (by simp)) _ _ _ i;have s:=HC (u 0 T v rfl rfl);refine⟨a::g,by simp only[pq];exact⟨D,A⟩,?_,by simp only[HW];exact⟨_,_,rfl,I,K⟩⟩;simp only[MT];refine⟨.inl ?_, .inl (by simpa using F),by simpa using E,B⟩;rw[Bool.eq_iff_iff,s,←J];constructor
  ·rintro(h|⟨n,e,h⟩)
   ·exact h
   ·have f:=List.all_eq_true.1 m T (by simpa using q T (by simp))
    rw[h] at f;simp at f
  ·exact .inl
section
variable {H:Type} {enc:TypeId×Value->H} {P:Program}
theorem zQ{f}{s:ChangeSpec}{d l e k:Bool}{W n args v ds u a pa pv}
  (w:DataW.Whole enc P f.params.toList s.vars d W args.toList ds u a)
  (h: ∀b sp hd,DataW.TrodAll enc P n b sp hd f.resultTypes.toList (v.resultList f.resultTypes.size) (s.fn H (ds++u)).results [])
  (g: ∀sp,(∀p∈a,sp p.block=true)->DataW.TrodAll enc P n 0 sp true f.params.toList args.toList (s.fn H (ds++u)).args pa)
  (c: ∀sp,(∀p∈a,sp p.block=true)->DataW.TrodVars enc P n sp s.vars (s.fn H (ds++u)).vars pv)
  (x:a=pa++pv) (z:Below W.heap.size W n)
  (y: ∀(j:Nat) t r,f.resultTypes[j]? =some t->(v.resultList f.resultTypes.size)[j]? =some r->Value.okWide P n .any 0 t r):
  s.post enc P f d l e k W args v n:=by
 have o:=fun p m=>w.lt p m
 have i: ∀p∈a,(fun b=>decide (b<W.heap.size)) p.block=true:=fun p m=>by simpa using o p m
 refine⟨ds,u,a,[],pa,pv,w,h _ _ _,g _ i,c _ i,World.keptBut_mono (fun p m=>⟨m,?_⟩) (z.frame (· ∈a)),fun _=>?_⟩
 ·grind
 ·obtain⟨_,_,_,_,_,A,B⟩:=w
  refine⟨y,_,_,([]++pa)++pv,⟨[]++pa,pv,trodAll_append (g _ (fun _ _=>rfl)) (h _ _ _),c _ (fun _ _=>rfl),rfl,?_,?_⟩,?_⟩
  ·intro b off m
   have q:MemPlace.cell b off∈a:=by rw[x];simpa using m
   rw[z.frozen (o _ q)];exact A b off q
  ·grind
  grind
theorem FV(f:laidOutB P=true){W i}(g:Below W.heap.size W i){sp}: ∀{e c ds ps},
  (∀t,t∈e->P.readableRec t=true/\t<P.types.size)->(∀p,p∈ps->p.block<W.heap.size)->(∀p,p∈ps->sp p.block=true)->
  DataW.TrodAll enc P W 0 (fun _=>true) true e c ds ps->DataW.TrodAll enc P i 0 sp true e c ds ps
 |[],c,ds,ps,_,_,_,h=>by
  obtain⟨rfl,rfl,rfl⟩:=trodAll_nil h;exact rfl
 |t::e,c,ds,ps,j,k,m,h=>by
  obtain⟨v,n,d,l,a,b,rfl,rfl,rfl,o,q⟩:=trodAll_cons h;refine⟨a,b,WideElems.Trod_stays f (j t (by simp)).1 (j t (by simp)).2 o (fun x r=>g.same (by grind)) (by grind),?_,rfl⟩;exact FV f g (by grind) (by grind) (by grind) q
theorem Ca(hL:ft P)(hl:laidOutB P=true){S}(hS:U6 P S=true){f l}{s:ChangeSpec}{B}
  (D:l.resultTypes= #[B]) (hB:P.underlying B=some .bool) (hts:l.params.toList.all (fun t=>S.contains t&&P.readableRec t)=true) (m:s.vars=[])
  {n F g I W} {base:Nat} {args ds gs z}
  (N: ∀(j:Nat) t v,l.params[j]? =some t->args[j]? =some v->Value.okWide P W .any base t v)
  (hW:DataW.Whole enc P l.params.toList s.vars n W args.toList ds gs z)
  (L: ∀d,d.length=l.params.size->s.fn H d={results:=[.lit (.bool true)],args:=d})
  {y O} (c: ∀b o,y b=some o->W.heap[b]? =some o)
  (ZJ: ∀R,pq P l.params.toList R->HW R ds->cf ⟨P,y,O⟩ f R [] fun r _=>r= .bool true):
  Calls P f args W fun e W'=>∃v,e= .returned v/\s.post enc P l n F g I W args v W':=by
 have U:=hW;obtain⟨p,q,hA,hV,rfl,hfz,hnd⟩:=hW;have hg:gs=[]/\q=[]:=by
  rw[m] at hV;cases gs with
  |nil=>exact⟨rfl,hV⟩
  |cons _ _=>exact hV.elim
 obtain⟨rfl,rfl⟩:=hg;have u: ∀t,t∈l.params.toList->S.contains t=true/\P.readableRec t=true:=fun t A=>by
  have:=List.all_eq_true.1 hts t A
  rwa [aC6] at this
 have hlt: ∀t,t∈l.params.toList->t<P.types.size:=fun t A=>by
  have:=List.all_eq_true.1 hS t (by simpa using(u t A).1)
  rw[aC6] at this;exact Nat.le_of_ble_eq_true this.1
 let C:Ctx:={P:=⟨P,y,O⟩,X:=fun b=>b<W.heap.size,ι:=fun _=>⟨0,0,true⟩,st:=[],w:=W}
 have hI:Inv C:=⟨hL,fun i J=>by simp[C] at J,fun i j J=>by simp[C] at J,fun b E=>E,fun i J=>by simp[C] at J,fun b E=>absurd rfl E,fun b o h=>⟨(Array.getElem?_eq_some_iff.1 (c b o h)).1,c b o h⟩⟩
 obtain⟨R,g1,g2,g3⟩:=Fp (C:=C) (sp:=fun _=>true) (hd:=true) hL hS rfl (fun b E=>E) l.params.toList args.toList ds p (fun t A=>(u t A).1)
  (fun j t v h1 h2=>N j t v (by simpa using h1) (by simpa using h2)) hA
 have T:ds.length=l.params.size:=by
  have: ∀(Q:List TypeId) (vs:List Value) (ds:List (DataW H)) (p:List MemPlace),DataW.TrodAll enc P W 0 (fun _=>true) true Q vs ds p->ds.length=Q.length:=by
   intro Q;induction Q with
   |nil=>intro vs ds p h;obtain⟨rfl,rfl,rfl⟩:=trodAll_nil h;rfl
   |cons t Q ih=>
    intro vs ds p h;obtain⟨v,vs1,d,ds1,a,b,rfl,rfl,rfl,h1,h2⟩:=trodAll_cons h;simp[ih _ _ _ h2]
  simpa using this _ _ _ _ hA
 obtain⟨_,hs⟩:=ZJ R g1 g3;refine(callsIn_wide.1 (hs C args rfl hI rfl g2)).mono ?_;rintro e W' ⟨v,r,C',rfl,rfl,hP,hI',hr,V,rfl⟩;have hv:=a0 hr;subst hv;have E:Below W.heap.size W C'.w:=⟨V.os,V.tape,V.output,V.size,fun k hk=>V.frame k hk (fun⟨i,J,_⟩=>by simp[C] at J)⟩
 have K:=L (ds++[]) (by simpa using T);refine⟨_,rfl,zQ (pa:=p) (pv:=[]) U ?_ ?_ ?_ rfl E ?_⟩
 ·intro b sp hd
  rw[K,D];exact trodAll_mk1 (shut_bool hB true)
 ·intro sp Y
  rw[K];simp only[List.append_nil];exact FV hl E (fun t A=>⟨(u t A).2,hlt t A⟩) (fun x Z=>U.lt x (by simp[Z])) (fun x Z=>Y x (by simp[Z])) hA
 ·intro sp _
  rw[K,m];exact rfl
 ·exact ok_one D rfl (okWide_bool_mk hB true)
end
end Go.Dn
