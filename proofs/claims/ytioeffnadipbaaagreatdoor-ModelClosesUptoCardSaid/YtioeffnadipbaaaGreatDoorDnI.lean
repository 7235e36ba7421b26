import Derived.Test.YtioeffnadipbaaaGreatDoorDnH
import Derived.Stop.IfaceNil
namespace Go.Dn
open Go
theorem Lf{C e T ox oy a b x g f}(h:XD e a b=some (true,x))(i:Rel C a g)(j:Rel C b f):
  ∃v,(do eqGuard e T ox oy g f;binOp e T g f).run C.P C.w= .ok v C.w/\Rel C x v:=by
 unfold XD at h;split at h
 ·rename_i k n p m
  have:=a0 i;subst this
  have:=a0 j;subst this
  split at h
  ·rename_i l;subst l
   have c: ∀o:BinOp,(eqGuard o T ox oy (.int k n) (.int k m)).run C.P C.w= .ok () C.w:=by
    intro o;unfold eqGuard;split<;>rfl
   cases e<;>simp only[ab9,aC8,aD4,true_and,reduceCtorEq,bne_iff_ne,ne_eq,at3] at h
   case add=>subst h;exact⟨_,by simp[c,binOp,Op.intArith],a9 rfl⟩
   case sub=>subst h;exact⟨_,by simp[c,binOp,Op.intArith],a9 rfl⟩
   case mul=>subst h;exact⟨_,by simp[c,binOp,Op.intArith],a9 rfl⟩
   case quo=>obtain⟨d,rfl⟩:=h;exact⟨_,by simp[c,binOp,Op.intDiv,d],a9 rfl⟩
   case rem=>obtain⟨d,rfl⟩:=h;exact⟨_,by simp[c,binOp,Op.intDiv,d],a9 rfl⟩
   case and=>subst h;exact⟨_,by simp[c,binOp,Op.intBits],a9 rfl⟩
   case or=>subst h;exact⟨_,by simp[c,binOp,Op.intBits],a9 rfl⟩
   case shl=>obtain⟨d,rfl⟩:=h;exact⟨_,by simp[c,binOp,Op.shift,show ¬ m<0 by omega],a9 rfl⟩
   case shr=>obtain⟨d,rfl⟩:=h;exact⟨_,by simp[c,binOp,Op.shift,show ¬ m<0 by omega],a9 rfl⟩
   case eql=>subst h;exact⟨_,by simp[c,binOp,Op.intCmp],a9 rfl⟩
   case neq=>subst h;exact⟨_,by simp[c,binOp,Op.intCmp],a9 rfl⟩
   case lss=>subst h;exact⟨_,by simp[c,binOp,Op.intCmp],a9 rfl⟩
   case leq=>subst h;exact⟨_,by simp[c,binOp,Op.intCmp],a9 rfl⟩
   case gtr=>subst h;exact⟨_,by simp[c,binOp,Op.intCmp],a9 rfl⟩
   case geq=>subst h;exact⟨_,by simp[c,binOp,Op.intCmp],a9 rfl⟩
  ·have c: ∀o:BinOp,(o= .shl\/o= .shr)->(eqGuard o T ox oy (.int k n) (.int p m)).run C.P C.w= .ok () C.w:=by
    rintro o (rfl|rfl)<;>rfl
   cases e<;>simp only[ab8,aC8,aD4,reduceCtorEq,at3] at h
   case shl=>obtain⟨d,rfl⟩:=h;exact⟨_,by simp[c,binOp,Op.shift,show ¬ m<0 by omega],a9 rfl⟩
   case shr=>obtain⟨d,rfl⟩:=h;exact⟨_,by simp[c,binOp,Op.shift,show ¬ m<0 by omega],a9 rfl⟩
 ·rename_i n m
  have:=a0 i;subst this
  have:=a0 j;subst this
  have c: ∀o:BinOp,(eqGuard o T ox oy (.string n) (.string m)).run C.P C.w= .ok () C.w:=by
   intro o;unfold eqGuard;split<;>rfl
  cases e<;>simp only[ac0,aC8,aD4,true_and,reduceCtorEq] at h
  case add=>
   obtain⟨d,rfl⟩:=h;have d:=Nat.le_of_ble_eq_true d;have q:IntKind.i64.max=9223372036854775807:=by decide
   exact⟨_,by simp[c,binOp,Op.stringOp];omega,a9 rfl⟩
  case eql=>subst h;exact⟨_,by simp[c,binOp,Op.stringOp],a9 rfl⟩
  case neq=>subst h;exact⟨_,by simp[c,binOp,Op.stringOp],a9 rfl⟩
  case lss=>subst h;exact⟨_,by simp[c,binOp,Op.stringOp],a9 rfl⟩
  case gtr=>subst h;exact⟨_,by simp[c,binOp,Op.stringOp],a9 rfl⟩
 ·simp at h
theorem run_equal_bool{P w T}(a:P.underlying T=some .bool) n m:(Op.equal T (.bool n) (.bool m)).run P w= .ok (n==m) w:=by
 have h: ∀d,(Op.equalIn (d+1) T (.bool n) (.bool m)).run P w= .ok (n==m) w:=fun d=>by
  simp_all[Op.equalIn,run_underlying]
 exact h _
theorem bytes_beq(s t:ByteArray):(s==t)=(s.toList==t.toList):=by
 obtain⟨a⟩:=s;obtain⟨b⟩:=t;have h:(ByteArray.mk a==ByteArray.mk b)=true↔a=b:=by
  show(a==b)=true↔a=b
  simp
 rw[Bool.eq_iff_iff,h,ByteArray.toList_eq,ByteArray.toList_eq];simp
theorem Tl{C:Ctx}{T a b e}(h:eqV C.P T a b=some e) d:ec C.P T=false/\(∃t,C.P.underlying T=some t)/\∃u v,a= .lit u/\b= .lit v/\(Op.equalIn (d+1) T u v).run C.P C.w= .ok e C.w:=by
 unfold eqV at h;split at h
 ·split at h
  ·rename_i c
   split at h
   ·rename_i f
    subst f;cases h;refine⟨by unfold ec;rw[c],⟨_,c⟩,_,_,rfl,rfl,?_⟩;unfold Op.equalIn;simp[run_underlying c]
   ·cases h
  ·cases h
 ·split at h
  ·rename_i c
   cases h;refine⟨by unfold ec;rw[c],⟨_,c⟩,_,_,rfl,rfl,?_⟩;unfold Op.equalIn;simp only[Sem.run_bind,run_underlying c,Result.andThen_ok,Sem.run_pure,bytes_beq]
  ·cases h
 ·split at h
  ·rename_i c
   cases h;refine⟨by unfold ec;rw[c],⟨_,c⟩,_,_,rfl,rfl,?_⟩;unfold Op.equalIn;simp[run_underlying c]
  ·cases h
 ·cases h
theorem Fe{C:Ctx}{T xs j u}(c:ec C.P T=false){t}(a:C.P.underlying T=some t)(b:xs[j]? =some u):(part T xs j).run C.P C.w= .ok u C.w:=by
 simp_all[part,iC]
theorem Jc{C:Ctx} xs n(d:Nat): ∀g l m (j:Nat) (e:Bool),VB C.P g l m j=some e->ML C l (fun k=>xs[k]?) j->ML C m (fun k=>n[k]?) j->
  (forIn g (none,()) fun(f:Field) _=>if f.name≠ "_" then do
    let a←part f.type xs f.offset
    let b←part f.type n f.offset
    let c←Op.equalIn (d+1) f.type a b
    if(!c)=true then pure (ForInStep.done (some false,())) else pure (ForInStep.yield (none,()))
   else pure (ForInStep.yield (none,()))).run C.P C.w= .ok (bif e then(none,()) else(some false,())) C.w
 |[],l,m,j,e,h,_,_=>by
  cases l<;>cases m<;>simp only[VB,reduceCtorEq,aC8] at h
  subst h;simp[Sem.run_pure]
 |f::g,[],m,j,e,h,_,_=>by simp[VB] at h
 |f::g,a::l,[],j,e,h,_,_=>by simp[VB] at h
 | f ::g,a::l,b::m,j,e,h,i,o=>by
  rw[VB] at h;split at h
  ·rename_i q
   rw[aC6,bne_iff_ne] at q;obtain⟨z,p⟩:=q;have p:=Nat.eq_of_beq_eq_true p;split at h
   ·rename_i x A
    split at h
    ·rename_i y D
     cases h;obtain⟨s,⟨t,r⟩,u,v,rfl,rfl,B⟩:=Tl A d;simp only[ML,M,wid] at i o;have E:=Jc xs n d g l m (j+1) y D i.2 o.2;simp only[List.forIn_cons,Sem.run_bind,if_pos z,p,Fe s r i.1.1,Fe s r o.1.1,B,Result.andThen_ok];cases x<;>simp_all
    ·cases h
   ·cases h
  ·cases h
theorem uI{C T b}(j:C.P.underlying T=some (.struct b))(i:C.P.stoodInHeld T=false){xs a l m e}(n:VB C.P b.toList l m 0=some e)
  (f:ML C l (fun k=>xs[k]?) 0) (g:ML C m (fun k=>a[k]?) 0):(Op.equal T (.agg xs) (.agg a)).run C.P C.w= .ok e C.w:=by
 have h: ∀d,(Op.equalIn (d+2) T (.agg xs) (.agg a)).run C.P C.w= .ok e C.w:=fun d=>by
  unfold Op.equalIn;have o:program.run C.P C.w= .ok C.P C.w:=rfl;simp only[Sem.run_bind,run_underlying j,Result.andThen_ok,o,i,←Array.forIn_toList,Bool.false_eq_true,if_false];have c:=Jc xs a d _ l m 0 e n f g;rw[c];cases e<;>rfl
 exact h 9998
theorem GP{C f T ox oy a b x c j i}(h:Of C.P f T a b=some (c,x))(k:Rel C a j)(p:Rel C b i):
  ∃v,(do eqGuard f T ox oy j i;binOp f T j i).run C.P C.w= .ok v C.w/\Rel C x v:=by
 unfold Of at h;split at h
 ·rename_i l m
  split at h
  ·rename_i B g
   split at h
   ·cases h
   rename_i d;rw[Bool.not_eq_true,Bool.or_eq_false_iff] at d;obtain⟨A,r⟩:=d;split at h
   ·rename_i e u
    obtain⟨xs,rfl,_,z⟩:=te k;obtain⟨s,rfl,_,t⟩:=te p;have q:=uI g A u z t;have y:(program:Sem Program).run C.P C.w= .ok C.P C.w:=rfl;have d: ∀o:BinOp,(o= .eql\/o= .neq)->(eqGuard o T ox oy (.agg xs) (.agg s)).run C.P C.w= .ok () C.w:=by
     rintro o (rfl|rfl)
     all_goals
      unfold eqGuard;simp[y,r]
    split at h
    ·cases h;exact⟨_,by simp only[Sem.run_bind,d _ (.inl rfl),Result.andThen_ok,binOp,q];rfl,a9 rfl⟩
    ·cases h;exact⟨_,by simp only[Sem.run_bind,d _ (.inr rfl),Result.andThen_ok,binOp,q];rfl,a9 rfl⟩
    ·cases h
   ·cases h
  ·cases h
 ·rename_i n m
  have:=a0 k;subst this
  have:=a0 p;subst this
  have d: ∀o:BinOp,(eqGuard o T ox oy (.bool n) (.bool m)).run C.P C.w= .ok () C.w:=by
   intro o;unfold eqGuard;split<;>rfl
  split at h
  ·rename_i g
   cases f<;>simp only[aC8,aD4,reduceCtorEq] at h
   case eql=>obtain⟨_,rfl⟩:=h;exact⟨_,by simp only[Sem.run_bind,d,Result.andThen_ok,binOp,run_equal_bool g];rfl,a9 rfl⟩
   case neq=>obtain⟨_,rfl⟩:=h;exact⟨_,by simp only[Sem.run_bind,d,Result.andThen_ok,binOp,run_equal_bool g];rfl,a9 rfl⟩
  ·simp at h
 ·simp at h
theorem LM{C j T ox oy a x e}(h:X7 C.P j T oy a=some (true,x))(l:Rel C a e):
  ∃v,(do eqGuard j T ox oy e .nilIface;binOp j T e .nilIface).run C.P C.w= .ok v C.w/\Rel C x v/\oy= .const .nilIface:=by
 unfold X7 at h;split at h
 ·split at h
  ·rename_i q c b m d
   have g:C.P.toProgram.isIface T=true:=by unfold Program.isIface;rw[m]
   have p:c=true:=by
    split at h
    ·cases h;rfl
    ·cases h;rfl
    ·cases h
   subst p;have k:(e= .nilIface/\b=true)\/ ∃u v,e= .iface u v/\b=false:=by
    unfold OV at d;split at d
    ·rename_i u
     have:=a0 l
     subst this;simp only[aC8,aD4] at d;obtain⟨i,rfl⟩:=d;unfold aD at i;split at i
     ·exact .inl ⟨rfl,rfl⟩
     ·exact .inr ⟨_,_,rfl,rfl⟩
     ·cases i
    ·obtain⟨u,n⟩:=Ue l
     simp only[aC8,aD4] at d;exact .inr ⟨_,u,n,d.2.symm⟩
    ·cases d
   rcases k with⟨rfl,rfl⟩|⟨u,v,rfl,rfl⟩
   ·have f: ∀o:BinOp,(eqGuard o T ox (.const .nilIface) .nilIface .nilIface).run C.P C.w= .ok () C.w:=by
     intro o;unfold eqGuard
     cases o<;>simp
    split at h
    ·cases h;exact⟨_,by simp only[Sem.run_bind,f,Result.andThen_ok,run_eql_nil_nil_at C.w T g],a9 rfl,rfl⟩
    ·cases h;exact⟨_,by simp only[Sem.run_bind,f,Result.andThen_ok,run_neq_nil_nil_at C.w T g];rfl,a9 rfl,rfl⟩
    ·cases h
   ·have f: ∀o:BinOp,(eqGuard o T ox (.const .nilIface) (.iface u v) .nilIface).run C.P C.w= .ok () C.w:=by
     intro o;unfold eqGuard
     cases o<;>simp
    split at h
    ·cases h;exact⟨_,by simp only[Sem.run_bind,f,Result.andThen_ok,run_eql_iface_nil C.w T g u v],a9 rfl,rfl⟩
    ·cases h;exact⟨_,by simp only[Sem.run_bind,f,Result.andThen_ok,run_neq_iface_nil C.w T g u v];rfl,a9 rfl,rfl⟩
    ·cases h
  ·cases h
 ·cases h
mutual
theorem iT{C:Ctx}: ∀(a:AV) (T:TypeId) (s:Src) (o:Nat),xl C.P a T=true->M C a s o->bE C.P a T
 | .lit v,T,s,o,h,hm=>by
  simp only[xl] at h;simp only[bE];simp only[M] at hm;split at h<;>simp_all
  ·split at h<;>simp_all
  ·split at h<;>simp_all
  ·split at h<;>simp_all
  ·split at h<;>simp_all
  ·split at h<;>simp_all
 | .fh K V ks vs,T,s,o,h,hm=>by
  simp only[xl] at h;simp only[M] at hm;split at h
  ·rename_i K' V' hE
   simp only[aC6,beq_iff_eq] at h;obtain⟨rfl,rfl⟩:=h;simp only[bE];refine⟨hE,?_⟩;rcases hm with⟨_,_,_,rfl⟩|⟨b,ents,clock,_,_,_,_,_,h6,_⟩
   ·trivial
   ·exact h6
  ·simp at h
 | .ah E l,T,s,o,h,hm=>by
  simp only[xl] at h;simp only[M] at hm;split at h
  ·rename_i E' hE
   simp only[beq_iff_eq] at h;subst h
   simp only[bE];exact⟨hE,hm.1⟩
  ·simp at h
 | .agg l,T,s,o,h,hm=>by
  simp only[xl] at h;simp only[M] at hm;split at h
  ·rename_i fs hfs
   simp only[aC6,Nat.blt_eq] at h;simp only[bE];exact⟨fs,⟨hfs,h.1⟩,Ah l fs.toList s o h.2 hm⟩
  ·simp at h
 | .jK E a,T,s,o,h,hm=>by
  simp only[xl] at h;simp only[M] at hm;obtain⟨_,_,_,_,h3,_⟩:=hm;split at h
  ·rename_i E' hE
   simp only[beq_iff_eq] at h;subst h
   simp only[bE];exact⟨hE,h3⟩
  ·simp at h
 | .jT U a,T,s,o,h,hm=>by
  simp only[xl] at h;simp only[M] at hm;obtain⟨_,_,_,_,h3⟩:=hm;split at h
  ·rename_i ms hE
   simp only[bE];exact⟨⟨ms,hE⟩,iT a U _ _ h h3⟩
  ·simp at h
 | .cP,_,_,_,h,_| .aH _,_,_,_,h,_| .ak _ _ _,_,_,_,h,_| .ptr _ _ _ _,_,_,_,h,_| .mp _,_,_,_,h,_| .cn _,_,_,_,h,_
 | .lZ _ _,_,_,_,h,_| .bo _ _,_,_,_,h,_=>by simp[xl] at h
theorem Ah{C:Ctx}: ∀(l:List AV) (fs:List Field) (s:Src) (o:Nat),Ll C.P l fs=true->ML C l s o->eB C.P l fs
 |[],[],_,_,_,_=>by simp[eB]
 |[],_::_,_,_,h,_=>by simp[Ll] at h
 |_::_,[],_,_,h,_=>by simp[Ll] at h
 |a::l,f::fs,s,o,h,hm=>by
  simp only[Ll,aC6] at h;simp only[ML] at hm;simp only[eB];exact⟨iT a f.type s o h.1 hm.1,Ah l fs s _ h.2 hm.2⟩
end
theorem vJ{C:Ctx}(hI:Inv C): ∀(d:Nat) (T:TypeId) (cs r:List Value) (a:AV),oF C.P d T cs=some (a,r)->
  ∃pre,cs=pre++r/\pre.length=wid a/\M C a (fun j=>pre[j]?) 0
 |0,_,_,_,_,h=>by simp[oF] at h
 | d +1,T,cs,r,a,h=>by
  simp only[oF] at h;split at h
  ·rename_i fs hfs
   split at h
   ·rename_i l r' hz
    simp only[aC8,aD4] at h;obtain⟨rfl,rfl⟩:=h;obtain⟨pre,h1,h2,h3⟩:=zfields_spec hI d fs.toList cs _ l hz;exact⟨pre,h1,by simpa[wid] using h2,by simpa[M] using h3⟩
   ·simp at h
  ·simp at h
  ·split at h
   ·rename_i v r'
    split at h
    ·rename_i hv
     simp only[aC8,aD4] at h;obtain⟨rfl,rfl⟩:=h;exact⟨[v],rfl,by simp[wid],by simp[M];exact hv⟩
    ·simp at h
   ·simp at h
  ·simp at h
where
 zfields_spec {C:Ctx} (hI:Inv C) (d:Nat): ∀(fs:List Field) (cs r:List Value) (l:List AV),oF.zfields (oF C.P d) fs cs=some (l,r)->
   ∃pre,cs=pre++r/\pre.length=fc l/\ML C l (fun j=>pre[j]?) 0
  |[],cs,r,l,h=>by
   simp only[oF.zfields,aC8,aD4] at h;obtain⟨rfl,rfl⟩:=h;exact⟨[],rfl,by simp[fc],by simp[ML]⟩
  | f::fs,cs,r,l,h=>by
   simp only[oF.zfields] at h;split at h
   ·rename_i a r1 hz1
    split at h
    ·rename_i l1 r2 hz2
     simp only[aC8,aD4] at h;obtain⟨rfl,rfl⟩:=h;obtain⟨pre,h1,h2,h3⟩:=vJ hI d f.type cs r1 a hz1;obtain⟨pre',h4,h5,h6⟩:=zfields_spec hI d fs r1 _ l1 hz2;refine⟨pre++pre',by rw[h1,h4,List.append_assoc],by simp[fc,h2,h5],?_⟩;simp only[ML];refine⟨kB hI (fun j hj=>?_) h3,ML_shift hI h6 (fun j hj=>?_)⟩
     ·simp only[Nat.zero_add];rw[List.getElem?_append_left (by omega)]
     ·simp only[Nat.zero_add];rw[List.getElem?_append_right (by omega)];congr 1;omega
    ·simp at h
   ·simp at h
 ML_shift {C:Ctx} (hI:Inv C) {l:List AV} {s s':Src} {o o':Nat} (h:ML C l s o) (hs: ∀j,j<fc l->s' (o'+j)=s (o+j)):ML C l s' o':=by
  have:=kB (a:= .agg l) hI (s:=s) (s':=s') (o:=o) (o':=o') (by simpa[wid] using hs) (by simpa[M] using h)
  simpa[M] using this
theorem ez{C}(b:Inv C){T z}(h:je C.P T=some z):
  ∃i a,C.P.info? T=some i/\i.zero=some a/\Rel C z a/\xl C.P z T=true/\bE C.P z T:=by
 unfold je at h
 grind [vJ,nD,iT,Rel,a9]
theorem jM{P w T i a}(c:P.info? T=some i)(b:i.zero=some a):(zeroValue T).run P w= .ok a w:=by
 simp_all[zeroValue,typeInfo]
theorem BE{a b:ByteArray}(h:(a==b)=true):a=b:=by
 cases a;exact congrArg _ (eq_of_beq h)
theorem Ew{a b}(h:eP a b=true):a=b:=by
 unfold eP at h
 grind [BE]
theorem rj{P K d}(f:P.underlying K=some d){a b}(c:plainKey P K a=true)(e:plainKey P K b=true):
  Instr.sameNow d a b=some (eP a b):=by
 unfold plainKey at c e;rw[f] at c e;cases a<;>simp at c<;>cases d<;>simp at c<;>cases b<;>simp at e
 ·rfl
 ·grind [Instr.sameNow,eP]
 rfl
theorem findNow_spec{C K V d}(o:C.P.underlying K=some d){f}(l:plainKey C.P K f=true) z:
  ∀g b i,cF C V g b->(∀e,e∈b->plainKey C.P K e.key=true)->
   px g f=false/\dj g f z=z/\Instr.findNow d f b i=some none\/
   px g f=true/\∃j e,b[j]? =some e/\e.key=f/\Instr.findNow d f b i=some (some (i+j,e.val))/\Rel C (dj g f z) e.val/\bE C.P (dj g f z) V
 |[],[],i,_,_=> .inl ⟨rfl,rfl,rfl⟩
 |[],_::_,_,h,_=>by simp[cF] at h
 |_::_,[],_,h,_=>by simp[cF] at h
 | (k,a)::g,e::b,i,h,p=>by
  simp only[cF] at h;obtain⟨m,x,u,w⟩:=h;have n:=rj o l (p e (by simp));rw[m] at n;cases c:eP f k with
  |true=>
   right
   refine⟨by simp[px,c],0,e,rfl,by rw[m];exact(Ew c).symm,by simp[Instr.findNow,m,n,c],by simpa[dj,c] using u,by simpa[dj,c] using x⟩
  | false=>
   rcases findNow_spec o l z g b (i+1) w (fun e v=>p e (by simp[v])) with⟨q,r,s⟩|⟨q,j,y,r,s,A,B,t⟩
   ·grind [px,dj,Instr.findNow]
   ·right
    exact⟨by simp[px,q],j+1,y,by simpa using r,s,by simp[Instr.findNow,m,n,c,A];omega,by simpa[dj,c] using B,by simpa[dj,c] using t⟩
theorem fV{P K a}(h:plainKey P K a=true): ∃d,P.underlying K=some d/\match d with| .int _| .string| .bool=>True|_=>False:=by
 unfold plainKey at h
 grind
theorem run_checkKey{P w K a}(h:plainKey P K a=true) b n:(Instr.checkKey b (n+1) K a).run P w= .ok () w:=by
 obtain⟨d,hd,c⟩:=fV h;unfold plainKey at h;cases a<;>cases d<;>simp at h c<;>simp[Instr.checkKey,run_underlying hd]
theorem run_getObj_map{P w b a c}(h:w.heap[b]? =some (.map a c)):(getObj b).run P w= .ok (.map a c) w:=by
 grind [getObj,Sem.run]
theorem og{C}(d:Inv C){i}(e:i<C.st.length){K V c}(h:ay C.st i= .map K V c):
  ∃a b,C.w.heap[(C.ι i).block]? =some (.map a b)/\cF C V c a.toList/\l5 C.P K a.toList b:=by
 have:=d.obj i e
 rw[h] at this;exact this.2
theorem fm{C}(c:Inv C){T a v}(b:bE C.P a T)(g:Rel C a v):Rel C (expand C.P cr T a) v/\bE C.P (expand C.P cr T a) T:=by
 obtain⟨k,i⟩:=mY c.lay cr T a _ _ b g.2.2;have j:a≠ .cP:=by intro e;subst e;simp[bE] at b
 have h:cg (expand C.P cr T a)=cg a:=by
  cases f:C.P.underlying T with
  |none=>cases a<;>simp[bE,f] at b
  |some d=>
   cases d<;>cases a<;>simp[bE,f] at b<;>simp[expand,cr,f,cg]
   grind
 refine⟨⟨.inl (by rw[h];exact g.1.resolve_right j), .inl ?_,k⟩,i⟩;rw[dB c.lay _ _ i,←dB c.lay _ _ b];exact g.2.1.resolve_right j
end Go.Dn
