import Derived.Test.YtioeffnadipbaaaGreatDoorDnE
import Derived.WalkKit
namespace Go.Dn
open Go
mutual
theorem Cz{C:Ctx}: ∀(a:AV) (T:TypeId) (s:Src) (o:Nat),br C.P a T->M C a s o->∀j,j<wid a->∃v,s (o+j)=some v/\a9 v=true
 | .lit v,_,s,o,_,h,j,hj=>by
  simp only[wid] at hj;obtain rfl:j=0:=by omega
  simp only[M] at h;exact⟨v,h⟩
 | .ad E l,_,s,o,_,h,j,hj=>by
  simp only[wid] at hj;obtain rfl:j=0:=by omega
  simp only[M] at h;obtain⟨_,p,cap,h2,_⟩:=h
  exact⟨_,h2,rfl⟩
 | .agg l,T,s,o,ht,h,j,hj=>by
  simp only[br] at ht;obtain⟨fs,_,h2⟩:=ht
  simp only[M] at h;simp only[wid] at hj
  exact EK l fs.toList s o h2 h j hj
 | .iY E a,_,s,o,_,h,j,hj=>by
  simp only[wid] at hj;obtain rfl:j=0:=by omega
  simp only[M] at h;obtain⟨b,off,h2,_⟩:=h
  exact⟨_,h2,rfl⟩
 | .iN U a,_,s,o,_,h,j,hj=>by
  simp only[wid] at hj;obtain rfl:j=0:=by omega
  simp only[M] at h;obtain⟨u,h2,_⟩:=h
  exact⟨_,h2,rfl⟩
 | .fJ K V ks vs,_,s,o,_,h,j,hj=>by
  simp only[wid] at hj;obtain rfl:j=0:=by omega
  simp only[M] at h
  obtain⟨b,_,_,h,_⟩:=h
  exact⟨_,h,rfl⟩
 | .cK,_,_,_,h,_,_,_=>by simp[br] at h
 | .aX _,_,_,_,h,_,_,_=>by simp[br] at h
 | .aB _ _ _,_,_,_,h,_,_,_=>by simp[br] at h
 | .ptr _ _ _ _,_,_,_,h,_,_,_=>by simp[br] at h
 | .mp _,_,_,_,h,_,_,_=>by simp[br] at h
 | .de _,_,_,_,h,_,_,_=>by simp[br] at h
 | .jV _ _,_,_,_,h,_,_,_=>by simp[br] at h
 | .bq _ _,_,_,_,h,_,_,_=>by simp[br] at h
theorem EK{C:Ctx}: ∀(l:List AV) (fs:List Field) (s:Src) (o:Nat),dy C.P l fs->ML C l s o->∀j,j<eH l->∃v,s (o+j)=some v/\a9 v=true
 |[],_,_,_,_,_,j,hj=>by simp[eH] at hj
 |_::_,[],_,_,h,_,_,_=>by simp[dy] at h
 | a::l,f::fs,s,o,ht,h,j,hj=>by
  simp only[dy] at ht
  simp only[ML] at h
  simp only[eH] at hj
  rcases Nat.lt_or_ge j (wid a) with hlt|hge
  ·exact Cz a f.type s o ht.1 h.1 j hlt
  ·obtain⟨v,h1,h2⟩:=EK l fs s (o+wid a) ht.2 h.2 (j - wid a) (by omega)
   exact⟨v,by rw[←h1];congr 1;omega,h2⟩
end
theorem jv{C:Ctx}{a:AV}{s s':Src}{o o':Nat}(hI:Inv C)(hs: ∀j,j<wid a->s' (o'+j)=s (o+j))(h:M C a s o):M C a s' o':=
 M.eu (bH.refl C) hI.lay (fun _ _ hlt=>bU.refl C hlt) hs h
theorem gE{v:Value}(h:ep v=false):v.cells= #[v]:=by cases v<;>simp_all[Value.cells,ep]
theorem BY{C:Ctx}(hI:Inv C){a:AV}{s:Src}{o:Nat}{v:Value}(ha:bO a=false)(h:M C a s o)(hv:s o=some v)(hag:ep v=false):Rel C a v:=by
 have hw:wid a=1:=by cases a<;>simp_all[bO,wid]
 have hc:=gE hag
 refine⟨.inl (by rw[ha,hag]), .inl (by rw[hc,hw];rfl),jv hI (fun j hj=>?_) h⟩
 obtain rfl:j=0:=by omega
 simp[hc,hv]
theorem ov{C:Ctx}(hI:Inv C){l:List AV}{s:Src}{o:Nat}{cs:Array Value}(h:M C (.agg l) s o)(hsz:cs.size=wid (.agg l))(hs: ∀j,j<cs.size->s (o+j)=cs[j]?):Rel C (.agg l) (.agg cs):=
 ⟨.inl rfl, .inl (by simpa[Value.cells] using hsz),jv hI (fun j hj=>by simp[Value.cells,hs j (by omega)]) h⟩
section
variable {P:Program} {w:World}
theorem eg(b o i:Nat):(⟨b,o,none⟩:Addr).add i=⟨b,o+i,none⟩:=by
 unfold Addr.add;split<;>simp_all
theorem jr{b o:Nat}{v:Value}(h:w.cell? ⟨b,o,none⟩=some v):(load ⟨b,o,none⟩).run P w= .ok v w:=by
 rw[run_load];simp[h]
theorem run_loadCellsFrom(b o:Nat): ∀(n i:Nat) (acc:Array Value),(∀j,j<n->(w.cell? ⟨b,o+i+j,none⟩).isSome=true)->
  ∃cs:Array Value,cs.size=n/\(∀j,j<n->w.cell? ⟨b,o+i+j,none⟩=cs[j]?)/\(loadCellsFrom ⟨b,o,none⟩ i n acc).run P w= .ok (acc++cs) w
 |0,i,acc,_=>⟨#[],rfl,fun j hj=>absurd hj (Nat.not_lt_zero _),by simp[loadCellsFrom]⟩
 | n+1,i,acc,h=>by
  have h0:=h 0 (by omega)
  obtain⟨v,hv⟩:=Option.isSome_iff_exists.1 h0
  obtain⟨cs,h1,h2,h3⟩:=run_loadCellsFrom b o n (i+1) (acc.push v) (fun j hj=>by
   have:=h (j+1) (by omega)
   rwa [show o+i+(j+1)=o+(i+1)+j by omega] at this)
  refine⟨#[v]++cs,by simp[h1];omega,fun j hj=>?_,?_⟩
  ·cases j with
   |zero=>rw[show(#[v]++cs)[0]? =some v by simp[Array.getElem?_append]];simpa using hv
   |succ j=>
    have:=h2 j (by omega)
    rw[show o+i+(j+1)=o+(i+1)+j by omega,this]
    simp[Array.getElem?_append]
  ·simp only[loadCellsFrom,Sem.run_bind,eg]
   simp only[Nat.add_zero] at hv
   rw[jr hv]
   simp only[Result.andThen_ok,h3]
   rw[Array.push_eq_append,Array.append_assoc]
theorem run_loadCells(b o n:Nat)(h: ∀j,j<n->(w.cell? ⟨b,o+j,none⟩).isSome=true):
  ∃cs:Array Value,cs.size=n/\(∀j,j<n->w.cell? ⟨b,o+j,none⟩=cs[j]?)/\(loadCells ⟨b,o,none⟩ n).run P w= .ok cs w:=by
 obtain⟨cs,h1,h2,h3⟩:=run_loadCellsFrom (P:=P) (w:=w) b o n 0 #[] (by simpa using h)
 exact⟨cs,h1,by simpa using h2,by simpa[loadCells] using h3⟩
end
theorem tc{P:Program}{T:TypeId}{d:TypeDesc}(h:P.underlying T=some d): ∃i,P.info? T=some i:=by
 unfold Program.underlying at h
 cases hi:P.info? T with
 |none=>simp[hi] at h
 |some i=>exact⟨i,rfl⟩
theorem run_sizeOf{P:Program}{w:World}{T:TypeId}{d:TypeDesc}(h:P.underlying T=some d):(sizeOf T).run P w= .ok (P.cellsOf T) w:=by
 obtain⟨i,hi⟩:=tc h
 simp[sizeOf,typeInfo,hi,Program.cellsOf]
theorem iu{P:Program}{w:World}{T:TypeId}{d:TypeDesc}(h:P.underlying T=some d):(isAgg T).run P w= .ok (dK P T) w:=by
 simp only[isAgg,Sem.run_bind,run_underlying h,Result.andThen_ok]
 simp only[dK,h]
 cases d<;>rfl
theorem mM{C:Ctx}(hI:Inv C){T:TypeId}{d:TypeDesc}(hT:C.P.underlying T=some d){b o:Nat}{a:AV}
  (hm:M C a (cellAt C.w b) o) (hag:dK C.P T=bO a) (hw:wid a=C.P.cellsOf T) (hex: ∀j,j<wid a->∃v,C.w.cell? ⟨b,o+j,none⟩=some v/\(bO a=false->a9 v=true)):
  ∃v,(loadVar T ⟨b,o,none⟩).run C.P C.w= .ok v C.w/\Rel C a v:=by
 cases ha:bO a with
 |false=>
  have hw1:wid a=1:=by cases a<;>simp_all[bO,wid]
  obtain⟨v,hv,hvag⟩:=hex 0 (by omega)
  simp only[Nat.add_zero] at hv
  refine⟨v,?_,BY hI ha hm hv (tL (hvag ha))⟩
  simp only[loadVar,Sem.run_bind,iu hT,Result.andThen_ok,hag,ha,Bool.false_eq_true,if_false]
  exact jr hv
 |true=>
  obtain⟨cs,h1,h2,h3⟩:=run_loadCells (P:=C.P) (w:=C.w) b o (wid a) (fun j hj=>by obtain⟨v,hv,_⟩:=hex j hj;simp[hv])
  cases a<;>simp[bO] at ha
  rename_i l
  refine⟨.agg cs,?_,ov hI hm h1 (fun j hj=>h2 j (by omega))⟩
  simp only[loadVar,Sem.run_bind,iu hT,Result.andThen_ok,hag,bO,if_true,run_sizeOf hT,←hw,h3,Sem.run_pure]
theorem BI{C:Ctx}: ∀(l:List AV) (j:Nat) (s:Src) (o:Nat),j<l.length->ML C l s o->M C (nth l j) s (o+gW l j)
 |[],_,_,_,h,_=>by simp at h
 |a::l,0,s,o,_,h=>by simp only[ML] at h;simpa[nth,gW] using h.1
 |a::l,j+1,s,o,hj,h=>by
  simp only[ML] at h
  have:=BI l j s (o+wid a) (by simpa using hj) h.2
  simp only[nth,gW]
  rwa [show o+(wid a+gW l j)=o+wid a+gW l j by omega]
theorem qq: ∀(l:List AV) (j:Nat),j<l.length->gW l j+wid (nth l j)<=eH l
 |[],_,h=>by simp at h
 |a::l,0,_=>by simp[nth,gW,eH]
 |a::l,j+1,h=>by
  have:=qq l j (by simpa using h)
  simp only[nth,gW,eH];omega
theorem LN{C:Ctx}: ∀(p:List Nat) (a:AV) (s:Src) (o:Nat),mL a p=true->M C a s o->M C (lT a p) s (o+gH a p)
 |[],a,s,o,_,h=>by cases a<;>simpa[lT,gH] using h
 |j::p, .agg l,s,o,hp,h=>by
  simp only[mL,aa1,aa0] at hp
  simp only[M] at h
  have:=LN p (nth l j) s (o+gW l j) hp.2 (BI l j s o hp.1 h)
  simp only[lT,af,gH]
  rwa [show o+(gW l j+gH (nth l j) p)=o+gW l j+gH (nth l j) p by omega]
 |_::_, .cK,_,_,hp,_|_::_, .lit _,_,_,hp,_|_::_, .ad _ _,_,_,hp,_|_::_, .aX _,_,_,hp,_|_::_, .aB _ _ _,_,_,hp,_
 |_::_, .ptr _ _ _ _,_,_,hp,_|_::_, .iY _ _,_,_,hp,_|_::_, .mp _,_,_,hp,_|_::_, .de _,_,_,hp,_|_::_, .jV _ _,_,_,hp,_
 |_::_, .bq _ _,_,_,hp,_|_::_, .iN _ _,_,_,hp,_|_::_, .fJ _ _ _ _,_,_,hp,_=>by simp[mL] at hp
theorem oH: ∀(p:List Nat) (a:AV),mL a p=true->gH a p+wid (lT a p)<=wid a
 |[],a,_=>by cases a<;>simp[lT,gH]
 |j::p, .agg l,hp=>by
  simp only[mL,aa1,aa0] at hp
  have h1:=oH p (nth l j) hp.2
  have h2:=qq l j hp.1
  simp only[lT,af,gH,wid];omega
 |_::_, .cK,hp|_::_, .lit _,hp|_::_, .ad _ _,hp|_::_, .aX _,hp|_::_, .aB _ _ _,hp
 |_::_, .ptr _ _ _ _,hp|_::_, .iY _ _,hp|_::_, .mp _,hp|_::_, .de _,hp|_::_, .jV _ _,hp
 |_::_, .bq _ _,hp|_::_, .iN _ _,hp|_::_, .fJ _ _ _ _,hp=>by simp[mL] at hp
theorem xw{P:Program}: ∀(l:List AV) (fs:List Field) (j:Nat) (f:Field),dy P l fs->mA fs j=some f->j<l.length/\br P (nth l j) f.type
 |[],[],_,_,_,h=>by simp[mA] at h
 |[],_::_,_,_,h,_=>by simp[dy] at h
 |_::_,[],_,_,h,_=>by simp[dy] at h
 |a::l,g::fs,0,f,ht,h=>by
  simp only[mA,aa3] at h;subst h
  simp only[dy] at ht
  exact⟨by simp,by simpa[nth] using ht.1⟩
 |a::l,g::fs,j+1,f,ht,h=>by
  simp only[dy] at ht
  simp only[mA] at h
  obtain⟨h1,h2⟩:=xw l fs j f ht.2 h
  exact⟨by simpa using h1,by simpa[nth] using h2⟩
theorem w5{C:Ctx}(g:TypeId->AV->AV)(hg: ∀T a s o,br C.P a T->M C a s o->M C (g T a) s o/\br C.P (g T a) T)(hl:eI C.P):
  ∀(fs:List Field) (l:List AV) (pre:List AV) (s:Src) (o:Nat),dy C.P l fs->ML C l s o->
   ML C (GM g fs pre.length (.agg (pre++l))) s o/\dy C.P (GM g fs pre.length (.agg (pre++l))) fs
 |[],[],_,_,_,_,_=>by simp[GM,ML,dy]
 |[],_::_,_,_,_,h,_=>by simp[dy] at h
 |_::_,[],_,_,_,h,_=>by simp[dy] at h
 | f::fs,a::l,pre,s,o,ht,h=>by
  simp only[dy] at ht
  simp only[ML] at h
  have hn: ∀(pre l:List AV) (a:AV),nth (pre++a::l) pre.length=a:=by
   intro pre;induction pre with
   |nil=>intro l a;rfl
   |cons b pre ih=>intro l a;simp only[List.cons_append,List.length_cons,nth];exact ih l a
  have ih:=w5 g hg hl fs l (pre++[a]) s (o+wid a) ht.2 h.2
  rw[List.append_assoc,List.singleton_append] at ih
  have e:(pre++[a]).length=pre.length+1:=by simp
  rw[e] at ih
  simp only[GM,af,hn,ML,dy]
  obtain⟨h1,h2⟩:=hg f.type a s o ht.1 h.1
  have hw:wid (g f.type a)=wid a:=by rw[dn hl _ _ h2,dn hl _ _ ht.1]
  rw[hw]
  exact⟨⟨h1,ih.1⟩,h2,ih.2⟩
theorem lN{C:Ctx}(hl:eI C.P): ∀(d:Nat) (T:TypeId) (a:AV) (s:Src) (o:Nat),br C.P a T->M C a s o->M C (expand C.P d T a) s o/\br C.P (expand C.P d T a) T
 |0,T,a,s,o,ht,h=>by simpa[expand] using⟨h,ht⟩
 | d+1,T,a,s,o,ht,h=>by
  simp only[expand]
  split
  ·rename_i k hk
   cases a<;>simp only[br,hk] at ht<;>try (first|exact ht.elim|(obtain⟨h1,_⟩:=ht;simp at h1;done)|(obtain⟨fs,h1,_⟩:=ht;simp at h1;done)|(obtain⟨⟨ms,h1⟩,_⟩:=ht;simp at h1;done))
   obtain⟨n,rfl⟩:=ht
   exact⟨h,by simp[toInt,br,hk]⟩
  ·rename_i hk
   cases a<;>simp only[br,hk] at ht<;>try (first|exact ht.elim|(obtain⟨h1,_⟩:=ht;simp at h1;done)|(obtain⟨fs,h1,_⟩:=ht;simp at h1;done)|(obtain⟨⟨ms,h1⟩,_⟩:=ht;simp at h1;done))
   obtain⟨n,rfl⟩:=ht
   exact⟨h,by simp[toBool,br,hk]⟩
  ·rename_i hk
   cases a<;>simp only[br,hk] at ht<;>try (first|exact ht.elim|(obtain⟨h1,_⟩:=ht;simp at h1;done)|(obtain⟨fs,h1,_⟩:=ht;simp at h1;done)|(obtain⟨⟨ms,h1⟩,_⟩:=ht;simp at h1;done))
   obtain⟨n,rfl⟩:=ht
   exact⟨h,by simp[toStr,br,hk]⟩
  ·rename_i E hk
   cases a<;>simp only[br,hk] at ht<;>try (first|exact ht.elim|(obtain⟨fs,h1,_⟩:=ht;simp at h1;done)|(obtain⟨⟨ms,h1⟩,_⟩:=ht;simp at h1;done))
   ·subst ht
    simp only[M] at h
    refine⟨?_,by simp[ah,br,bC,hk]⟩
    simp only[ah,M,bC,List.length_nil]
    exact⟨trivial,none,0,h.1,Nat.le_refl _,fun hne=>absurd rfl hne⟩
   ·obtain⟨h1,h2⟩:=ht
    simp only[aa3,TypeDesc.slice.injEq] at h1
    subst h1
    exact⟨by simpa[ah] using h,by simpa[ah,br,hk] using h2⟩
   ·obtain⟨h1,_⟩:=ht;simp at h1
   ·obtain⟨h1,_⟩:=ht;simp at h1
  ·rename_i K V hk
   cases a<;>simp only[br,hk] at ht<;>try (first|exact ht.elim|(obtain⟨fs,h1,_⟩:=ht;simp at h1;done)|(obtain⟨⟨ms,h1⟩,_⟩:=ht;simp at h1;done)|(obtain⟨h1,_⟩:=ht;simp at h1;done))
   ·subst ht
    exact⟨h,by simp[br,hk]⟩
   ·obtain⟨h1,h2⟩:=ht
    simp only[aa3,TypeDesc.map.injEq] at h1
    obtain⟨rfl,rfl⟩:=h1
    exact⟨by simpa[S1,Pw] using h,by simpa[Pw,br,hk] using h2⟩
  ·rename_i fs hk
   cases a<;>simp only[br,hk] at ht<;>try (first|exact ht.elim|(obtain⟨h1,_⟩:=ht;simp at h1;done)|(obtain⟨⟨ms,h1⟩,_⟩:=ht;simp at h1;done))
   rename_i l
   obtain⟨fs',⟨h1,h0⟩,h2⟩:=ht
   simp only[aa3,TypeDesc.struct.injEq] at h1
   subst h1
   simp only[M] at h
   have:=w5 (expand C.P d) (fun T a s o=>lN hl d T a s o) hl fs.toList l [] s o h2 h
   simp only[List.length_nil,List.nil_append] at this
   refine⟨by simpa[M] using this.1,?_⟩
   simp only[br]
   exact⟨fs,⟨hk,h0⟩,this.2⟩
  ·exact⟨h,ht⟩
end Go.Dn
