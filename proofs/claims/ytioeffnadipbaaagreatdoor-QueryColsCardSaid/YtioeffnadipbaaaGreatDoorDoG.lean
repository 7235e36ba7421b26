import Derived.Test.YtioeffnadipbaaaGreatDoorDoF
import Derived.Deep.Slices
import Derived.Carry
import Derived.ChangeSame
namespace Go.Dn
open Go Go.ChangeShapes Go.WideShapes Go.RowKit
mutual
def gy(P:Program):AV->TypeId->Prop
 | .lit v,T=>
  match P.underlying T with
  |some (.int k)=>∃n,v= .int k n/\(Lit.int k n).wf=true
  |some .bool=>∃b,v= .bool b
  |some .string=>∃s,v= .string s/\s.size<=maxLen
  |_=>False
 | .ad E l,T=>P.underlying T=some (.slice E)/\l.length<=maxLen/\nB P l E
 | .agg l,T=>∃fs,(P.underlying T=some (.struct fs)/\T<P.types.size)/\nH P l fs.toList
 |_,_=>False
def nB(P:Program):List AV->TypeId->Prop
 |[],_=>True
 |a::l,T=>gy P a T/\nB P l T
def nH(P:Program):List AV->List Field->Prop
 |[],[]=>True
 |a::l,f::fs=>gy P a f.type/\nH P l fs
 |_,_=>False
end
mutual
theorem jU{P:Program}: ∀(a:AV) (T:TypeId),gy P a T->br P a T
 | .lit v,T,h=>by
  simp only[gy,br] at h⊢
  split at h
  ·rename_i k e;simp only[e];obtain⟨n,h1,_⟩:=h;exact⟨n,h1⟩
  ·rename_i e;simp only[e];exact h
  ·rename_i e;simp only[e];obtain⟨s,h1,_⟩:=h;exact⟨s,h1⟩
  ·exact h.elim
 | .ad E l,T,h=>by simp only[gy,br] at h⊢;exact⟨h.1,pF l E h.2.2⟩
 | .agg l,T,h=>by simp only[gy,br] at h⊢;obtain⟨fs,h1,h2⟩:=h;exact⟨fs,h1,uK l _ h2⟩
 | .cK,_,h=>by simp[gy] at h
 | .aX _,_,h=>by simp[gy] at h
 | .aB _ _ _,_,h=>by simp[gy] at h
 | .ptr _ _ _ _,_,h=>by simp[gy] at h
 | .iY _ _,_,h=>by simp[gy] at h
 | .mp _,_,h=>by simp[gy] at h
 | .de _,_,h=>by simp[gy] at h
 | .jV _ _,_,h=>by simp[gy] at h
 | .bq _ _,_,h=>by simp[gy] at h
 | .iN _ _,_,h=>by simp[gy] at h
theorem pF{P:Program}: ∀(l:List AV) (T:TypeId),nB P l T->bC P l T
 |[],_,_=>by simp[bC]
 |a::l,T,h=>by simp only[nB,bC] at h⊢;exact⟨jU a T h.1,pF l T h.2⟩
theorem uK{P:Program}: ∀(l:List AV) (fs:List Field),nH P l fs->dy P l fs
 |[],[],_=>by simp[dy]
 |a::l,f::fs,h=>by simp only[nH,dy] at h⊢;exact⟨jU a _ h.1,uK l fs h.2⟩
 |[],_::_,h=>by simp[nH] at h
 |_::_,[],h=>by simp[nH] at h
end
mutual
def Lm{H:Type}:AV->DataW H->Prop
 | .lit (.int k n),d=>d= .lit (.int k n)
 | .lit (.bool b),d=>d= .lit (.bool b)
 | .lit (.string s),d=>d= .lit (.string s.data.toList)
 | .ad _ l,d=>(l=[]/\d= .nil)\/ ∃es sp,d= .slice es sp/\Hq l es
 | .agg l,d=>∃es,d= .agg es/\Hq l es
 |_,_=>False
def Hq{H:Type}:List AV->List (DataW H)->Prop
 |[],es=>es=[]
 |a::l,es=>∃e r,es=e::r/\Lm a e/\Hq l r
end
def Nh(P:Program)(S:List TypeId):Bool:=
 S.all fun T=>Nat.blt T P.types.size&&(match P.underlying T with
  |some (.int _)|some .bool|some .string=>true
  |some (.slice E)=>S.contains E&&Nat.blt 0 (P.cellsOf E)
  |some (.struct fs)=>fs.toList.all fun f=>S.contains f.type
  |_=>false)
theorem P6{H:Type}{n:Nat}{D:Nat->DataW H}{A:Nat->AV}(h: ∀i,i<n->Lm (A i) (D i)): ∀k,k<=n->Hq ((List.range' k (n - k)).map A) ((List.range' k (n - k)).map D):=by
 intro k hk
 generalize hm:n - k=m
 induction m generalizing k with
 |zero=>simp[Hq]
 |succ m ih=>
  simp only[List.range'_succ,ac0,Hq]
  grind
theorem AQ{P:Program}{T:TypeId}{n:Nat}{A:Nat->AV}(h: ∀i,i<n->gy P (A i) T): ∀k,k<=n->nB P ((List.range' k (n - k)).map A) T:=by
 intro k hk
 generalize hm:n - k=m
 induction m generalizing k with
 |zero=>simp[nB]
 |succ m ih=>
  simp only[List.range'_succ,ac0,nB]
  grind
theorem RF{C:Ctx}{n z off:Nat}{s:Src}{A:Nat->AV}(h: ∀i,i<n->M C (A i) s (off+i*z)): ∀k,k<=n->MR C ((List.range' k (n - k)).map A) z s (off+k*z):=by
 intro k hk
 generalize hm:n - k=m
 induction m generalizing k with
 |zero=>simp[MR]
 |succ m ih=>
  simp only[List.range'_succ,ac0,MR]
  grind
theorem By{w:World}{base:Nat}{a:Addr}{n:Nat}{cs:List Value}(h:w.cells? base a n=some cs):cs.length=n/\∀j,j<n->w.cell? (a.add j)=cs[j]? :=by
 unfold World.cells? at h
 split at h
 ·refine⟨by simpa using mapM_some_length h,fun j hj=>?_⟩
  exact mapM_some_get h j j (by simp[hj])
 ·cases h
theorem HG{P:Program}(hL:eI P){S:List TypeId}(hS:Nh P S=true){H:Type}{enc:TypeId×Value->H}{C:Ctx}(hC:C.P=P)(hX: ∀b,b<C.w.heap.size->C.X b){sp:Nat->Bool}{hd:Bool}: ∀(fuel:Nat) (T:TypeId),S.contains T=true->∀cs d ps,DataW.trod enc P C.w 0 sp hd fuel T cs=some (d,ps)->
  ∃a,gy P a T/\M C a (fun j=>cs[j]?) 0/\cs.length=wid a/\Lm a d/\((∃fs,P.underlying T=some (.struct fs))↔bO a=true):=by
 intro fuel
 induction fuel with
 |zero=>intro T _ cs d ps h;simp[DataW.trod] at h
 | succ fuel ih=>
  intro T hT cs d ps h
  have hty:=List.all_eq_true.1 hS T (by simpa using hT)
  rw[aa1] at hty
  obtain⟨hlt,hty⟩:=hty
  cases hu:P.underlying T with
  |none=>rw[hu] at hty;cases hty
  | some D=>
   rw[hu] at hty
   cases D<;>try (cases hty;done)
   case bool=>
    obtain⟨b,rfl,hx⟩:=DataW.trod_bool hu h
    cases hx
    exact⟨.lit (.bool b),by simp only[gy,hu];exact⟨b,rfl⟩,by simp[M,a9],by simp[wid],by simp[Lm],by simp[bO]⟩
   case int k=>
    obtain⟨n,rfl,hx,hw⟩:=DataW.trod_int hu h
    cases hx
    exact⟨.lit (.int k n),by simp only[gy,hu];exact⟨n,rfl,hw⟩,by simp[M,a9],by simp[wid],by simp[Lm],by simp[bO]⟩
   case string=>
    obtain⟨s,rfl,hx,hw⟩:=DataW.trod_string hu h
    cases hx
    exact⟨.lit (.string s),by simp only[gy,hu];exact⟨s,rfl,hw⟩,by simp[M,a9],by simp[wid],by simp[Lm],by simp[bO]⟩
   case slice E=>
    simp only[aa1] at hty
    obtain⟨hE,hz⟩:=hty
    have hz:0<P.cellsOf E:=Nat.le_of_ble_eq_true hz
    rcases DataW.trod_slice hu h with⟨rfl,hx⟩|⟨a,len,cap,elems,rest,n,hn,rfl,hx,hb,hl,hm,hlen,hel,_,_⟩
    ·cases hx
     exact⟨.ad E [],by simp[gy,hu,nB],by simp[M,bC],by simp[wid],by simp[Lm],by simp[bO]⟩
    ·cases hx
     obtain rfl:fuel=n:=by omega
     have hsp:0<len->a.spot=none/\a.block<C.w.heap.size:=by
      intro hpos
      have h1:=hel 0 hpos
      rw[ab6 (by omega)] at h1
      obtain⟨cs',h2,_⟩:=Option.bind_eq_some_iff.1 h1
      obtain⟨k1,k2⟩:=By h2
      have:=k2 0 hz
      rw[ab6 (by omega)] at this
      simp only[Nat.zero_mul,Addr.add,if_true] at this
      unfold World.cell? at this
      split at this
      ·rename_i hh
       refine⟨?_,(Array.getElem?_eq_some_iff.1 hh).1⟩
       cases hq:a.spot with
       |none=>rfl
       |some q=>rw[hq] at this;simp at this
      ·cases this
     have hall: ∀i,i<len->∃av,gy P av E/\M C av (cellAt C.w a.block) (a.off+i*P.cellsOf E)/\(∀x,elems[i]? =some x->Lm av x.1)/\a.spot=none/\a.block<C.w.heap.size:=by
      intro i hi
      have h1:=hel i hi
      rw[ab6 (by omega)] at h1
      obtain⟨cs',h2,h3⟩:=Option.bind_eq_some_iff.1 h1
      obtain⟨k1,k2⟩:=By h2
      obtain⟨av,g1,g2,g3,g4,_⟩:=ih E hE cs' _ _ h3
      obtain⟨hs1,hs2⟩:=hsp (by omega)
      refine⟨av,g1,?_,?_,hs1,hs2⟩
      ·have hw:=dn hL av E (jU _ _ g1)
       refine lk (C:=C) (C':=C) (bH.refl C) (by rw[hC];exact hL) av E _ _ 0 _ (by rw[hC];exact jU _ _ g1) (fun j hj=>?_) g2
       have:=k2 j (by omega)
       simp only[Nat.zero_add]
       rw[←this,Deep.add_add]
       unfold cellAt
       congr 1
       obtain⟨ab,ao,as⟩:=a
       simp only at hs1
       subst hs1
       unfold Addr.add
       split
       ·rename_i h0;simp[show i*P.cellsOf E=0 by omega,show j=0 by omega]
       ·simp
      ·intro x hx
       rw[ab6 (by omega)] at hx
       simp only[aa3] at hx
       subst hx
       exact g4
     obtain⟨A,hA⟩:=Deep.choose_lt (α:=AV) hall
     have e0:len - 0=len:=rfl
     have hel2:elems.map (·.1)=(List.range' 0 (len - 0)).map fun i=>(elems.getD i (.nil,[])).1:=by
      apply List.ext_getElem?
      intro i
      by_cases hi:i<len
      ·simp[hi,hlen,List.getD]
      ·simp[hi,hlen]
     refine⟨.ad E ((List.range' 0 (len - 0)).map A),?_,?_,by simp[wid],?_,by simp[bO]⟩
     ·simp only[gy]
      exact⟨hu,by simp;omega,AQ (fun i hi=>(hA i hi).1) 0 (by omega)⟩
     ·simp only[M]
      refine⟨by rw[hC];exact pF _ _ (AQ (fun i hi=>(hA i hi).1) 0 (by omega)),some a,cap,by simp,by simpa using hl,fun hne=>?_⟩
      have hpos:0<len:=by
       rcases Nat.eq_zero_or_pos len with h0|h0
       ·subst h0;simp at hne
       ·exact h0
      obtain⟨_,_,_,hs1,hs2⟩:=hA 0 hpos
      obtain⟨ab,ao,as⟩:=a
      simp only at hs1
      subst hs1
      refine⟨ab,ao,rfl,hX _ hs2,?_⟩
      have:=RF (C:=C) (z:=P.cellsOf E) (off:=ao) (s:=cellAt C.w ab) (A:=A) (n:=len) (fun i hi=>(hA i hi).2.1) 0 (by omega)
      rw[hC]
      show MR C _ _ (cellAt C.w ab) ao
      simpa using this
     ·simp only[Lm]
      refine .inr ⟨_,_,rfl,?_⟩
      rw[hel2]
      refine P6 (fun i hi=>?_) 0 (by omega)
      have:=(hA i hi).2.2.1 (elems[i]'(by omega)) (ab6 _)
      simpa[List.getD,ab6 (show i<elems.length by omega)] using this
   case struct fs=>
    obtain⟨xs,n,hn,hx,hcl,hxl,hel⟩:=DataW.trod_struct hu h
    cases hx
    obtain rfl:fuel=n:=by omega
    have hlay:=hL T
    simp only[rE,hu] at hlay
    have hlay:=hlay (Nat.le_of_ble_eq_true hlt)
    have hfs:=List.all_eq_true.1 hty
    have key: ∀(l:List Field) (ys:List (DataW H×List MemPlace)) (o:Nat),zw P l o (P.cellsOf T)->(∀f,f∈l->S.contains f.type=true)->
      ys.length=l.length->(∀(i:Nat) (f:Field),l[i]? =some f->DataW.trod enc P C.w 0 sp hd fuel f.type ((cs.drop f.offset).take (P.cellsOf f.type))=ys[i]?)->
      ∃as,nH P as l/\ML C as (fun j=>cs[j]?) o/\o+eH as=P.cellsOf T/\Hq as (ys.map (·.1)):=by
     intro l
     induction l with
     |nil=>
      intro ys o hy _ hl _
      simp only[zw] at hy
      have:ys=[]:=by cases ys with|nil=>rfl|cons _ _=>simp at hl
      subst this
      exact⟨[],by simp[nH],by simp[ML],by simp[eH,hy],by simp[Hq]⟩
     | cons f l ihl=>
      intro ys o hy hS' hl hat
      cases ys with
      |nil=>simp at hl
      | cons y ys=>
       simp only[zw] at hy
       have h0:=hat 0 f rfl
       simp only[List.getElem?_cons_zero] at h0
       obtain⟨a,g1,g2,g3,g4,_⟩:=ih f.type (hS' f (by simp)) _ _ _ h0
       obtain⟨as,k1,k2,k3,k4⟩:=ihl ys (o+P.cellsOf f.type) hy.2 (fun f' hf'=>hS' f' (by simp[hf'])) (by simpa using hl)
        (fun i f' hi=>by have:=hat (i+1) f' (by simpa using hi);simpa using this)
       have hw:=dn hL a f.type (jU _ _ g1)
       refine⟨a::as,by simp only[nH];exact⟨g1,k1⟩,?_,by simp only[eH];omega,by simp only[Hq,ac0];exact⟨_,_,rfl,g4,k4⟩⟩
       simp only[ML]
       refine⟨?_,by rw[hw];exact k2⟩
       refine lk (C:=C) (C':=C) (bH.refl C) (by rw[hC];exact hL) a f.type _ _ 0 _ (by rw[hC];exact jU _ _ g1) (fun j hj=>?_) g2
       simp only[Nat.zero_add,List.getElem?_take,List.getElem?_drop,hy.1]
       rw[if_pos (by omega)]
    obtain⟨as,k1,k2,k3,k4⟩:=key fs.toList xs 0 hlay hfs (by simpa using hxl) (fun i f hi=>hel i f (by simpa using hi))
    refine⟨.agg as,by simp only[gy];exact⟨fs,⟨hu,Nat.le_of_ble_eq_true hlt⟩,k1⟩,by simp only[M];exact k2,by simp only[wid];omega,by simp only[Lm];exact⟨_,rfl,k4⟩,by simp[bO]⟩
def mY(P:Program):List TypeId->List AV->Prop
 |[],[]=>True
 |T::ts,a::as=>gy P a T/\mY P ts as
 |_,_=>False
theorem Cy{P:Program}{w:World}{base:Nat}{T:TypeId}{v:Value}(h:Value.okWide P w .any base T v):ep v=true↔(∃fs,P.underlying T=some (.struct fs))\/ ∃n e,P.underlying T=some (.array n e):=by
 unfold Value.okWide at h
 split at h
 ·rename_i fs hu;obtain⟨cs,rfl,_⟩:=h;simp[ep,hu]
 ·rename_i n e hu;obtain⟨cs,rfl,_⟩:=h;simp[ep,hu]
 ·rename_i h1 h2
  constructor
  ·intro hv
   cases v<;>simp[ep] at hv
   unfold Cell.okWide at h
   unfold Cell.ok at h
   split at h<;>simp_all
  ·grind
theorem B0{P:Program}(hL:eI P){S:List TypeId}(hS:Nh P S=true){H:Type}{enc:TypeId×Value->H}{C:Ctx}(hC:C.P=P)(hX: ∀b,b<C.w.heap.size->C.X b){sp:Nat->Bool}{hd:Bool}{base:Nat}: ∀(ts:List TypeId) (vs:List Value) (ds:List (DataW H)) (ps:List MemPlace),
  (∀t,t∈ts->S.contains t=true)->(∀(j:Nat) t v,ts[j]? =some t->vs[j]? =some v->Value.okWide P C.w .any base t v)->DataW.TrodAll enc P C.w 0 sp hd ts vs ds ps->
  ∃as,mY P ts as/\MT C as vs/\Hq as ds
 |[],vs,ds,ps,_,_,h=>by
  obtain⟨rfl,rfl,rfl⟩:=trodAll_nil h
  exact⟨[],by simp[mY],by simp[MT],by simp[Hq]⟩
 | T::ts,vs,ds,ps,ht,hv,h=>by
  obtain⟨v,vs1,d,ds1,a,b,rfl,rfl,rfl,h1,h2⟩:=trodAll_cons h
  obtain⟨as,g1,g2,g3⟩:=B0 hL hS hC hX ts vs1 ds1 b (fun t h=>ht t (by simp[h])) (fun j t v h1 h2=>hv (j+1) t v (by simpa using h1) (by simpa using h2)) h2
  obtain⟨fuel,h1⟩:=h1
  obtain⟨a,k1,k2,k3,k4,k5⟩:=HG hL hS hC hX fuel T (ht T (by simp)) _ _ _ h1
  have hag:=Cy (hv 0 T v rfl rfl)
  refine⟨a::as,by simp only[mY];exact⟨k1,g1⟩,?_,by simp only[Hq];exact⟨_,_,rfl,k4,g3⟩⟩
  simp only[MT]
  refine⟨.inl ?_, .inl (by simpa using k3),by simpa using k2,g2⟩
  rw[Bool.eq_iff_iff,hag,←k5]
  constructor
  ·rintro(h|⟨n,e,h⟩)
   ·exact h
   ·have hty:=List.all_eq_true.1 hS T (by simpa using ht T (by simp))
    rw[h] at hty;simp at hty
  ·exact .inl
section
variable {H:Type} {enc:TypeId×Value->H} {P:Program}
theorem wG{f:Func}{s:ChangeSpec}{apart fresh handsOn again:Bool}{W W':World}{args:Array Value}{v:Value}{ds gs:List (DataW H)}{before pa pv:List MemPlace}
  (hW:DataW.Whole enc P f.params.toList s.vars apart W args.toList ds gs before)
  (hres: ∀(b:Nat) (sp:Nat->Bool) (hd:Bool),DataW.TrodAll enc P W' b sp hd f.resultTypes.toList (v.resultList f.resultTypes.size) (s.fn H (ds++gs)).results [])
  (hargs: ∀sp:Nat->Bool,(∀p∈before,sp p.block=true)->DataW.TrodAll enc P W' 0 sp true f.params.toList args.toList (s.fn H (ds++gs)).args pa)
  (hvars: ∀sp:Nat->Bool,(∀p∈before,sp p.block=true)->DataW.TrodVars enc P W' sp s.vars (s.fn H (ds++gs)).vars pv)
  (hps:before=pa++pv) (hb:Below W.heap.size W W')
  (hok: ∀(j:Nat) (t:TypeId) (r:Value),f.resultTypes[j]? =some t->(v.resultList f.resultTypes.size)[j]? =some r->Value.okWide P W' .any 0 t r):
  s.post enc P f apart fresh handsOn again W args v W':=by
 have hlt: ∀p∈before,p.block<W.heap.size:=fun p hp=>hW.lt p hp
 have hold: ∀p∈before,(fun b=>decide (b<W.heap.size)) p.block=true:=fun p hp=>by simpa using hlt p hp
 refine⟨ds,gs,before,[],pa,pv,hW,hres _ _ _,hargs _ hold,hvars _ hold,World.keptBut_mono (fun p hp=>⟨hp,?_⟩) (hb.frame (· ∈before)),fun _=>?_⟩
 ·rw[hps,List.mem_append] at hp
  exact Or.inr hp
 ·obtain⟨_,_,_,_,_,hz,hn⟩:=hW
  refine⟨hok,_,_,([]++pa)++pv,⟨[]++pa,pv,trodAll_append (hargs _ (fun _ _=>rfl)) (hres _ _ _),hvars _ (fun _ _=>rfl),rfl,?_,?_⟩,?_⟩
  ·intro b off hp
   have hin:MemPlace.cell b off∈before:=by rw[hps];simpa using hp
   rw[hb.frozen (hlt _ hin)]
   exact hz b off hin
  ·grind
  ·intro p hp _
   rw[hps]
   simpa using hp
theorem Ar(hl:laidOutB P=true){W W':World}(hb:Below W.heap.size W W'){sp:Nat->Bool}: ∀{ts:List TypeId} {vs:List Value} {ds:List (DataW H)} {ps:List MemPlace},
  (∀t,t∈ts->P.readableRec t=true/\t<P.types.size)->(∀p,p∈ps->p.block<W.heap.size)->(∀p,p∈ps->sp p.block=true)->
  DataW.TrodAll enc P W 0 (fun _=>true) true ts vs ds ps->DataW.TrodAll enc P W' 0 sp true ts vs ds ps
 |[],vs,ds,ps,_,_,_,h=>by
  obtain⟨rfl,rfl,rfl⟩:=trodAll_nil h
  exact rfl
 |t::ts,vs,ds,ps,ht,hlt,hsp,h=>by
  obtain⟨v,vs1,d,ds1,a,b,rfl,rfl,rfl,h1,h2⟩:=trodAll_cons h
  refine⟨a,b,WideElems.Trod_stays hl (ht t (by simp)).1 (ht t (by simp)).2 h1 (fun x hx=>hb.same (hlt x (by simp[hx]))) (fun x hx=>hsp x (by simp[hx])),?_,rfl⟩
  exact Ar hl hb (fun t h=>ht t (by simp[h])) (fun p hp=>hlt p (by simp[hp])) (fun p hp=>hsp p (by simp[hp])) h2
theorem zW(hL:eI P)(hl:laidOutB P=true){S:List TypeId}(hS:Nh P S=true){f:FuncId}{fn:Func}{s:ChangeSpec}{B:TypeId}
  (hres:fn.resultTypes= #[B]) (hB:P.underlying B=some .bool) (hts:fn.params.toList.all (fun t=>S.contains t&&P.readableRec t)=true) (hvars:s.vars=[])
  {apart fresh handsOn again:Bool} {W:World} {base:Nat} {args:Array Value} {ds gs:List (DataW H)} {before:List MemPlace}
  (hval: ∀(j:Nat) t v,fn.params[j]? =some t->args[j]? =some v->Value.okWide P W .any base t v)
  (hW:DataW.Whole enc P fn.params.toList s.vars apart W args.toList ds gs before)
  (spec: ∀d:List (DataW H),d.length=fn.params.size->s.fn H d={results:=[.lit (.bool true)],args:=d})
  {kept:Nat->Option Go.Obj} {UA:TypeId->Bool} (hkept: ∀b o,kept b=some o->W.heap[b]? =some o)
  (HV: ∀as,mY P fn.params.toList as->Hq as ds->bD ⟨P,kept,UA⟩ f as [] fun r _=>r= .bool true):
  Calls P f args W fun e W'=>∃v,e= .returned v/\s.post enc P fn apart fresh handsOn again W args v W':=by
 have hW0:=hW
 obtain⟨p,q,hA,hV,rfl,hfz,hnd⟩:=hW
 have hg:gs=[]/\q=[]:=by
  rw[hvars] at hV
  cases gs with
  |nil=>exact⟨rfl,hV⟩
  |cons _ _=>exact hV.elim
 obtain⟨rfl,rfl⟩:=hg
 have hts': ∀t,t∈fn.params.toList->S.contains t=true/\P.readableRec t=true:=fun t ht=>by
  have:=List.all_eq_true.1 hts t ht
  rwa [aa1] at this
 have hlt: ∀t,t∈fn.params.toList->t<P.types.size:=fun t ht=>by
  have:=List.all_eq_true.1 hS t (by simpa using(hts' t ht).1)
  rw[aa1] at this
  exact Nat.le_of_ble_eq_true this.1
 let C:Ctx:={P:=⟨P,kept,UA⟩,X:=fun b=>b<W.heap.size,ι:=fun _=>⟨0,0,true⟩,st:=[],w:=W}
 have hI:Inv C:=⟨hL,fun i hi=>by simp[C] at hi,fun i j hi=>by simp[C] at hi,fun b hb=>hb,fun i hi=>by simp[C] at hi,fun b hb=>absurd rfl hb,fun b o h=>⟨(Array.getElem?_eq_some_iff.1 (hkept b o h)).1,hkept b o h⟩⟩
 obtain⟨as,g1,g2,g3⟩:=B0 (C:=C) (sp:=fun _=>true) (hd:=true) hL hS rfl (fun b hb=>hb) fn.params.toList args.toList ds p (fun t ht=>(hts' t ht).1)
  (fun j t v h1 h2=>hval j t v (by simpa using h1) (by simpa using h2)) hA
 have hlen:ds.length=fn.params.size:=by
  have: ∀(ts:List TypeId) (vs:List Value) (ds:List (DataW H)) (p:List MemPlace),DataW.TrodAll enc P W 0 (fun _=>true) true ts vs ds p->ds.length=ts.length:=by
   intro ts
   induction ts with
   |nil=>intro vs ds p h;obtain⟨rfl,rfl,rfl⟩:=trodAll_nil h;rfl
   |cons t ts ih=>
    intro vs ds p h
    obtain⟨v,vs1,d,ds1,a,b,rfl,rfl,rfl,h1,h2⟩:=trodAll_cons h
    simp[ih _ _ _ h2]
  simpa using this _ _ _ _ hA
 obtain⟨_,hs⟩:=HV as g1 g3
 refine(callsIn_wide.1 (hs C args rfl hI rfl g2)).mono ?_
 rintro e W' ⟨v,r,C',rfl,rfl,hP,hI',hr,he,rfl⟩
 have hv:=aH hr
 subst hv
 have hb:Below W.heap.size W C'.w:=⟨he.os,he.tape,he.output,he.size,fun k hk=>he.frame k hk (fun⟨i,hi,_⟩=>by simp[C] at hi)⟩
 have hsp:=spec (ds++[]) (by simpa using hlen)
 refine⟨_,rfl,wG (pa:=p) (pv:=[]) hW0 ?_ ?_ ?_ rfl hb ?_⟩
 ·intro b sp hd
  rw[hsp,hres]
  exact trodAll_mk1 (shut_bool hB true)
 ·intro sp hsp'
  rw[hsp]
  simp only[List.append_nil]
  exact Ar hl hb (fun t ht=>⟨(hts' t ht).2,hlt t ht⟩) (fun x hx=>hW0.lt x (by simp[hx])) (fun x hx=>hsp' x (by simp[hx])) hA
 ·intro sp _
  rw[hsp,hvars]
  exact rfl
 ·exact ok_one hres rfl (okWide_bool_mk hB true)
end
end Go.Dn
