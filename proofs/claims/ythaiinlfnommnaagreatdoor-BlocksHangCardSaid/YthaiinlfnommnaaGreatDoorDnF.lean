import Derived.Test.YthaiinlfnommnaaGreatDoorDnE
import Derived.WalkKit
namespace Go.Dn
open Go
mutual
theorem Du{C:Ctx}: ∀(a:AV) (T:TypeId) (s:Src) (o:Nat),bC C.P a T->M C a s o->∀j,j<wid a->∃v,s (o+j)=some v/\bg v=true
 | .lit v,_,s,o,_,h,j,hj=>by
  simp only[wid] at hj;obtain rfl:j=0:=by omega
  simp only[M] at h;exact⟨v,h⟩
 | .ad E l,_,s,o,_,h,j,hj=>by
  simp only[wid] at hj;obtain rfl:j=0:=by omega
  simp only[M] at h;obtain⟨_,p,cap,h2,_⟩:=h
  exact⟨_,h2,rfl⟩
 | .agg l,T,s,o,ht,h,j,hj=>by
  simp only[bC] at ht;obtain⟨fs,_,h2⟩:=ht
  simp only[M] at h;simp only[wid] at hj
  exact Gv l fs.toList s o h2 h j hj
 | .jS E a,_,s,o,_,h,j,hj=>by
  simp only[wid] at hj;obtain rfl:j=0:=by omega
  simp only[M] at h;obtain⟨b,off,h2,_⟩:=h
  exact⟨_,h2,rfl⟩
 | .jj U a,_,s,o,_,h,j,hj=>by
  simp only[wid] at hj;obtain rfl:j=0:=by omega
  simp only[M] at h;obtain⟨u,h2,_⟩:=h
  exact⟨_,h2,rfl⟩
 | .jE K V ks vs,_,s,o,_,h,j,hj=>by
  simp only[wid] at hj;obtain rfl:j=0:=by omega
  simp only[M] at h
  rcases h with⟨h,_⟩|⟨b,_,_,h,_⟩
  ·exact⟨_,h,rfl⟩
  ·exact⟨_,h,rfl⟩
 | .cG,_,_,_,h,_,_,_=>by simp[bC] at h
 | .bh _,_,_,_,h,_,_,_=>by simp[bC] at h
 | .an _ _ _,_,_,_,h,_,_,_=>by simp[bC] at h
 | .ptr _ _ _ _,_,_,_,h,_,_,_=>by simp[bC] at h
 | .mp _,_,_,_,h,_,_,_=>by simp[bC] at h
 | .cD _,_,_,_,h,_,_,_=>by simp[bC] at h
 | .ku _ _,_,_,_,h,_,_,_=>by simp[bC] at h
 | .bL _ _,_,_,_,h,_,_,_=>by simp[bC] at h
theorem Gv{C:Ctx}: ∀(l:List AV) (fs:List Field) (s:Src) (o:Nat),dG C.P l fs->ML C l s o->∀j,j<eQ l->∃v,s (o+j)=some v/\bg v=true
 |[],_,_,_,_,_,j,hj=>by simp[eQ] at hj
 |_::_,[],_,_,h,_,_,_=>by simp[dG] at h
 | a::l,f::fs,s,o,ht,h,j,hj=>by
  simp only[dG] at ht
  simp only[ML] at h
  simp only[eQ] at hj
  rcases Nat.lt_or_ge j (wid a) with hlt|hge
  ·exact Du a f.type s o ht.1 h.1 j hlt
  ·obtain⟨v,h1,h2⟩:=Gv l fs s (o+wid a) ht.2 h.2 (j - wid a) (by omega)
   exact⟨v,by rw[←h1];congr 1;omega,h2⟩
end
theorem jM{C:Ctx}{a:AV}{s s':Src}{o o':Nat}(hI:Inv C)(hs: ∀j,j<wid a->s' (o'+j)=s (o+j))(h:M C a s o):M C a s' o':=
 M.keep (bQ.refl C) hI.lay (fun _ _ hlt=>cd.refl C hlt) hs h
theorem gM{v:Value}(h:eE v=false):v.cells= #[v]:=by cases v<;>simp_all[Value.cells,eE]
theorem CN{C:Ctx}(hI:Inv C){a:AV}{s:Src}{o:Nat}{v:Value}(ha:bV a=false)(h:M C a s o)(hv:s o=some v)(hag:eE v=false):Rel C a v:=by
 have hw:wid a=1:=by cases a<;>simp_all[bV,wid]
 have hc:=gM hag
 refine⟨.inl (by rw[ha,hag]), .inl (by rw[hc,hw];rfl),jM hI (fun j hj=>?_) h⟩
 obtain rfl:j=0:=by omega
 simp[hc,hv]
theorem oK{C:Ctx}(hI:Inv C){l:List AV}{s:Src}{o:Nat}{cs:Array Value}(h:M C (.agg l) s o)(hsz:cs.size=wid (.agg l))(hs: ∀j,j<cs.size->s (o+j)=cs[j]?):Rel C (.agg l) (.agg cs):=
 ⟨.inl rfl, .inl (by simpa[Value.cells] using hsz),jM hI (fun j hj=>by simp[Value.cells,hs j (by omega)]) h⟩
section
variable {P:Program} {w:World}
theorem fj(b o i:Nat):(⟨b,o,none⟩:Addr).add i=⟨b,o+i,none⟩:=by
 unfold Addr.add;split<;>simp_all
theorem lr{b o:Nat}{v:Value}(h:w.cell? ⟨b,o,none⟩=some v):(load ⟨b,o,none⟩).run P w= .ok v w:=by
 rw[run_load];simp[h]
theorem run_loadCellsFrom(b o:Nat): ∀(n i:Nat) (acc:Array Value),(∀j,j<n->(w.cell? ⟨b,o+i+j,none⟩).isSome=true)->
  ∃cs:Array Value,cs.size=n/\(∀j,j<n->w.cell? ⟨b,o+i+j,none⟩=cs[j]?)/\(loadCellsFrom ⟨b,o,none⟩ i n acc).run P w= .ok (acc++cs) w
 |0,i,acc,_=>⟨#[],rfl,fun j hj=>absurd hj (Nat.not_lt_zero _),by simp[loadCellsFrom]⟩
 | n+1,i,acc,h=>by
  have h0:=h 0 (by omega)
  obtain⟨v,hv⟩:=Option.isSome_iff_exists.1 h0
  obtain⟨cs,h1,h2,h3⟩:=run_loadCellsFrom b o n (i+1) (acc.push v) (fun j hj=>by
   have:=h (j+1) (by omega)
   rwa [show o+i+(j+1)=o+(i+1)+j by omega] at this)
  refine⟨#[v]++cs,by simp[h1];omega,fun j hj=>?_,?_⟩
  ·cases j with
   |zero=>rw[show(#[v]++cs)[0]? =some v by simp[Array.getElem?_append]];simpa using hv
   |succ j=>
    have:=h2 j (by omega)
    rw[show o+i+(j+1)=o+(i+1)+j by omega,this]
    simp[Array.getElem?_append]
  ·simp only[loadCellsFrom,Sem.run_bind,fj]
   simp only[Nat.add_zero] at hv
   rw[lr hv]
   simp only[Result.andThen_ok,h3]
   rw[Array.push_eq_append,Array.append_assoc]
theorem run_loadCells(b o n:Nat)(h: ∀j,j<n->(w.cell? ⟨b,o+j,none⟩).isSome=true):
  ∃cs:Array Value,cs.size=n/\(∀j,j<n->w.cell? ⟨b,o+j,none⟩=cs[j]?)/\(loadCells ⟨b,o,none⟩ n).run P w= .ok cs w:=by
 obtain⟨cs,h1,h2,h3⟩:=run_loadCellsFrom (P:=P) (w:=w) b o n 0 #[] (by simpa using h)
 exact⟨cs,h1,by simpa using h2,by simpa[loadCells] using h3⟩
end
theorem tF{P:Program}{T:TypeId}{d:TypeDesc}(h:P.underlying T=some d): ∃i,P.info? T=some i:=by
 unfold Program.underlying at h
 cases hi:P.info? T with
 |none=>simp[hi] at h
 |some i=>exact⟨i,rfl⟩
theorem run_sizeOf{P:Program}{w:World}{T:TypeId}{d:TypeDesc}(h:P.underlying T=some d):(sizeOf T).run P w= .ok (P.cellsOf T) w:=by
 obtain⟨i,hi⟩:=tF h
 simp[sizeOf,typeInfo,hi,Program.cellsOf]
theorem kt{P:Program}{w:World}{T:TypeId}{d:TypeDesc}(h:P.underlying T=some d):(isAgg T).run P w= .ok (fx P T) w:=by
 simp only[isAgg,Sem.run_bind,run_underlying h,Result.andThen_ok]
 simp only[fx,h]
 cases d<;>rfl
theorem ni{C:Ctx}(hI:Inv C){T:TypeId}{d:TypeDesc}(hT:C.P.underlying T=some d){b o:Nat}{a:AV}
  (hm:M C a (cellAt C.w b) o) (hag:fx C.P T=bV a) (hw:wid a=C.P.cellsOf T) (hex: ∀j,j<wid a->∃v,C.w.cell? ⟨b,o+j,none⟩=some v/\(bV a=false->bg v=true)):
  ∃v,(loadVar T ⟨b,o,none⟩).run C.P C.w= .ok v C.w/\Rel C a v:=by
 cases ha:bV a with
 |false=>
  have hw1:wid a=1:=by cases a<;>simp_all[bV,wid]
  obtain⟨v,hv,hvag⟩:=hex 0 (by omega)
  simp only[Nat.add_zero] at hv
  refine⟨v,?_,CN hI ha hm hv (uo (hvag ha))⟩
  simp only[loadVar,Sem.run_bind,kt hT,Result.andThen_ok,hag,ha,Bool.false_eq_true,if_false]
  exact lr hv
 |true=>
  obtain⟨cs,h1,h2,h3⟩:=run_loadCells (P:=C.P) (w:=C.w) b o (wid a) (fun j hj=>by obtain⟨v,hv,_⟩:=hex j hj;simp[hv])
  cases a<;>simp[bV] at ha
  rename_i l
  refine⟨.agg cs,?_,oK hI hm h1 (fun j hj=>h2 j (by omega))⟩
  simp only[loadVar,Sem.run_bind,kt hT,Result.andThen_ok,hag,bV,if_true,run_sizeOf hT,←hw,h3,Sem.run_pure]
theorem Bv{C:Ctx}: ∀(l:List AV) (j:Nat) (s:Src) (o:Nat),j<l.length->ML C l s o->M C (nth l j) s (o+ib l j)
 |[],_,_,_,h,_=>by simp at h
 |a::l,0,s,o,_,h=>by simp only[ML] at h;simpa[nth,ib] using h.1
 |a::l,j+1,s,o,hj,h=>by
  simp only[ML] at h
  have:=Bv l j s (o+wid a) (by simpa using hj) h.2
  simp only[nth,ib]
  rwa [show o+(wid a+ib l j)=o+wid a+ib l j by omega]
theorem qv: ∀(l:List AV) (j:Nat),j<l.length->ib l j+wid (nth l j)<=eQ l
 |[],_,h=>by simp at h
 |a::l,0,_=>by simp[nth,ib,eQ]
 |a::l,j+1,h=>by
  have:=qv l j (by simpa using h)
  simp only[nth,ib,eQ];omega
theorem O4{C:Ctx}: ∀(p:List Nat) (a:AV) (s:Src) (o:Nat),nk a p=true->M C a s o->M C (mC a p) s (o+gV a p)
 |[],a,s,o,_,h=>by cases a<;>simpa[mC,gV] using h
 |j::p, .agg l,s,o,hp,h=>by
  simp only[nk,aa2,aa1] at hp
  simp only[M] at h
  have:=O4 p (nth l j) s (o+ib l j) hp.2 (Bv l j s o hp.1 h)
  simp only[mC,ae,gV]
  rwa [show o+(ib l j+gV (nth l j) p)=o+ib l j+gV (nth l j) p by omega]
 |_::_, .cG,_,_,hp,_|_::_, .lit _,_,_,hp,_|_::_, .ad _ _,_,_,hp,_|_::_, .bh _,_,_,hp,_|_::_, .an _ _ _,_,_,hp,_
 |_::_, .ptr _ _ _ _,_,_,hp,_|_::_, .jS _ _,_,_,hp,_|_::_, .mp _,_,_,hp,_|_::_, .cD _,_,_,hp,_|_::_, .ku _ _,_,_,hp,_
 |_::_, .bL _ _,_,_,hp,_|_::_, .jj _ _,_,_,hp,_|_::_, .jE _ _ _ _,_,_,hp,_=>by simp[nk] at hp
theorem o8: ∀(p:List Nat) (a:AV),nk a p=true->gV a p+wid (mC a p)<=wid a
 |[],a,_=>by cases a<;>simp[mC,gV]
 |j::p, .agg l,hp=>by
  simp only[nk,aa2,aa1] at hp
  have h1:=o8 p (nth l j) hp.2
  have h2:=qv l j hp.1
  simp only[mC,ae,gV,wid];omega
 |_::_, .cG,hp|_::_, .lit _,hp|_::_, .ad _ _,hp|_::_, .bh _,hp|_::_, .an _ _ _,hp
 |_::_, .ptr _ _ _ _,hp|_::_, .jS _ _,hp|_::_, .mp _,hp|_::_, .cD _,hp|_::_, .ku _ _,hp
 |_::_, .bL _ _,hp|_::_, .jj _ _,hp|_::_, .jE _ _ _ _,hp=>by simp[nk] at hp
theorem yx{P:Program}: ∀(l:List AV) (fs:List Field) (j:Nat) (f:Field),dG P l fs->mO fs j=some f->j<l.length/\bC P (nth l j) f.type
 |[],[],_,_,_,h=>by simp[mO] at h
 |[],_::_,_,_,h,_=>by simp[dG] at h
 |_::_,[],_,_,h,_=>by simp[dG] at h
 |a::l,g::fs,0,f,ht,h=>by
  simp only[mO,aa4] at h;subst h
  simp only[dG] at ht
  exact⟨by simp,by simpa[nth] using ht.1⟩
 |a::l,g::fs,j+1,f,ht,h=>by
  simp only[dG] at ht
  simp only[mO] at h
  obtain⟨h1,h2⟩:=yx l fs j f ht.2 h
  exact⟨by simpa using h1,by simpa[nth] using h2⟩
theorem yL{C:Ctx}(g:TypeId->AV->AV)(hg: ∀T a s o,bC C.P a T->M C a s o->M C (g T a) s o/\bC C.P (g T a) T)(hl:eR C.P):
  ∀(fs:List Field) (l:List AV) (pre:List AV) (s:Src) (o:Nat),dG C.P l fs->ML C l s o->
   ML C (Ic g fs pre.length (.agg (pre++l))) s o/\dG C.P (Ic g fs pre.length (.agg (pre++l))) fs
 |[],[],_,_,_,_,_=>by simp[Ic,ML,dG]
 |[],_::_,_,_,_,h,_=>by simp[dG] at h
 |_::_,[],_,_,_,h,_=>by simp[dG] at h
 | f::fs,a::l,pre,s,o,ht,h=>by
  simp only[dG] at ht
  simp only[ML] at h
  have hn: ∀(pre l:List AV) (a:AV),nth (pre++a::l) pre.length=a:=by
   intro pre;induction pre with
   |nil=>intro l a;rfl
   |cons b pre ih=>intro l a;simp only[List.cons_append,List.length_cons,nth];exact ih l a
  have ih:=yL g hg hl fs l (pre++[a]) s (o+wid a) ht.2 h.2
  rw[List.append_assoc,List.singleton_append] at ih
  have e:(pre++[a]).length=pre.length+1:=by simp
  rw[e] at ih
  simp only[Ic,ae,hn,ML,dG]
  obtain⟨h1,h2⟩:=hg f.type a s o ht.1 h.1
  have hw:wid (g f.type a)=wid a:=by rw[dE hl _ _ h2,dE hl _ _ ht.1]
  rw[hw]
  exact⟨⟨h1,ih.1⟩,h2,ih.2⟩
theorem mo{C:Ctx}(hl:eR C.P): ∀(d:Nat) (T:TypeId) (a:AV) (s:Src) (o:Nat),bC C.P a T->M C a s o->M C (expand C.P d T a) s o/\bC C.P (expand C.P d T a) T
 |0,T,a,s,o,ht,h=>by simpa[expand] using⟨h,ht⟩
 | d+1,T,a,s,o,ht,h=>by
  simp only[expand]
  split
  ·rename_i k hk
   cases a<;>simp only[bC,hk] at ht<;>try (first|exact ht.elim|(obtain⟨h1,_⟩:=ht;simp at h1;done)|(obtain⟨fs,h1,_⟩:=ht;simp at h1;done)|(obtain⟨⟨ms,h1⟩,_⟩:=ht;simp at h1;done))
   obtain⟨n,rfl⟩:=ht
   exact⟨h,by simp[toInt,bC,hk]⟩
  ·rename_i hk
   cases a<;>simp only[bC,hk] at ht<;>try (first|exact ht.elim|(obtain⟨h1,_⟩:=ht;simp at h1;done)|(obtain⟨fs,h1,_⟩:=ht;simp at h1;done)|(obtain⟨⟨ms,h1⟩,_⟩:=ht;simp at h1;done))
   obtain⟨n,rfl⟩:=ht
   exact⟨h,by simp[toBool,bC,hk]⟩
  ·rename_i hk
   cases a<;>simp only[bC,hk] at ht<;>try (first|exact ht.elim|(obtain⟨h1,_⟩:=ht;simp at h1;done)|(obtain⟨fs,h1,_⟩:=ht;simp at h1;done)|(obtain⟨⟨ms,h1⟩,_⟩:=ht;simp at h1;done))
   obtain⟨n,rfl⟩:=ht
   exact⟨h,by simp[toStr,bC,hk]⟩
  ·rename_i E hk
   cases a<;>simp only[bC,hk] at ht<;>try (first|exact ht.elim|(obtain⟨fs,h1,_⟩:=ht;simp at h1;done)|(obtain⟨⟨ms,h1⟩,_⟩:=ht;simp at h1;done))
   ·subst ht
    simp only[M] at h
    refine⟨?_,by simp[ai,bC,bI,hk]⟩
    simp only[ai,M,bI,List.length_nil]
    exact⟨trivial,none,0,h.1,Nat.le_refl _,fun hne=>absurd rfl hne⟩
   ·obtain⟨h1,h2⟩:=ht
    simp only[aa4,TypeDesc.slice.injEq] at h1
    subst h1
    exact⟨by simpa[ai] using h,by simpa[ai,bC,hk] using h2⟩
   ·obtain⟨h1,_⟩:=ht;simp at h1
   ·obtain⟨h1,_⟩:=ht;simp at h1
  ·rename_i K V hk
   cases a<;>simp only[bC,hk] at ht<;>try (first|exact ht.elim|(obtain⟨fs,h1,_⟩:=ht;simp at h1;done)|(obtain⟨⟨ms,h1⟩,_⟩:=ht;simp at h1;done)|(obtain⟨h1,_⟩:=ht;simp at h1;done))
   ·subst ht
    simp only[M] at h
    refine⟨?_,by simp[xv,bC,bI,hk]⟩
    simp only[CX,xv,M]
    exact .inl ⟨h.1,trivial,trivial⟩
   ·obtain⟨h1,h2⟩:=ht
    simp only[aa4,TypeDesc.map.injEq] at h1
    obtain⟨rfl,rfl⟩:=h1
    exact⟨by simpa[CX,xv] using h,by simpa[xv,bC,hk] using h2⟩
  ·rename_i fs hk
   cases a<;>simp only[bC,hk] at ht<;>try (first|exact ht.elim|(obtain⟨h1,_⟩:=ht;simp at h1;done)|(obtain⟨⟨ms,h1⟩,_⟩:=ht;simp at h1;done))
   rename_i l
   obtain⟨fs',⟨h1,h0⟩,h2⟩:=ht
   simp only[aa4,TypeDesc.struct.injEq] at h1
   subst h1
   simp only[M] at h
   have:=yL (expand C.P d) (fun T a s o=>mo hl d T a s o) hl fs.toList l [] s o h2 h
   simp only[List.length_nil,List.nil_append] at this
   refine⟨by simpa[M] using this.1,?_⟩
   simp only[bC]
   exact⟨fs,⟨hk,h0⟩,this.2⟩
  ·exact⟨h,ht⟩
end Go.Dn
