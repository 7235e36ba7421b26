import Derived.Test.YtioeffnadipbaaaGreatDoorDnH
import Derived.Stop.IfaceNil
namespace Go.Dn
open Go
theorem IP{C e T ox oy a b x g f}(h:Tz e a b=some (true,x))(i:Rel C a g)(j:Rel C b f):
  ∃v,(do eqGuard e T ox oy g f;binOp e T g f).run C.P C.w= .ok v C.w/\Rel C x v:=by
 unfold Tz at h;split at h
 ·rename_i k n p m
  have:=aL i;subst this
  have:=aL j;subst this
  split at h
  ·rename_i l;subst l
   have c: ∀o:BinOp,(eqGuard o T ox oy (.int k n) (.int k m)).run C.P C.w= .ok () C.w:=by
    intro o;unfold eqGuard;split<;>rfl
   cases e<;>simp only[WE,an5,ao1,true_and,reduceCtorEq,bne_iff_ne,ne_eq,an2] at h
   case add=>subst h;exact⟨_,by simp[c,binOp,Op.intArith],aW rfl⟩
   case sub=>subst h;exact⟨_,by simp[c,binOp,Op.intArith],aW rfl⟩
   case mul=>subst h;exact⟨_,by simp[c,binOp,Op.intArith],aW rfl⟩
   case quo=>obtain⟨d,rfl⟩:=h;exact⟨_,by simp[c,binOp,Op.intDiv,d],aW rfl⟩
   case rem=>obtain⟨d,rfl⟩:=h;exact⟨_,by simp[c,binOp,Op.intDiv,d],aW rfl⟩
   case and=>subst h;exact⟨_,by simp[c,binOp,Op.intBits],aW rfl⟩
   case or=>subst h;exact⟨_,by simp[c,binOp,Op.intBits],aW rfl⟩
   case shl=>obtain⟨d,rfl⟩:=h;exact⟨_,by simp[c,binOp,Op.shift,show ¬ m<0 by omega],aW rfl⟩
   case shr=>obtain⟨d,rfl⟩:=h;exact⟨_,by simp[c,binOp,Op.shift,show ¬ m<0 by omega],aW rfl⟩
   case eql=>subst h;exact⟨_,by simp[c,binOp,Op.intCmp],aW rfl⟩
   case neq=>subst h;exact⟨_,by simp[c,binOp,Op.intCmp],aW rfl⟩
   case lss=>subst h;exact⟨_,by simp[c,binOp,Op.intCmp],aW rfl⟩
   case leq=>subst h;exact⟨_,by simp[c,binOp,Op.intCmp],aW rfl⟩
   case gtr=>subst h;exact⟨_,by simp[c,binOp,Op.intCmp],aW rfl⟩
   case geq=>subst h;exact⟨_,by simp[c,binOp,Op.intCmp],aW rfl⟩
  ·have c: ∀o:BinOp,(o= .shl\/o= .shr)->(eqGuard o T ox oy (.int k n) (.int p m)).run C.P C.w= .ok () C.w:=by
    rintro o (rfl|rfl)<;>rfl
   cases e<;>simp only[WD,an5,ao1,reduceCtorEq,an2] at h
   case shl=>obtain⟨d,rfl⟩:=h;exact⟨_,by simp[c,binOp,Op.shift,show ¬ m<0 by omega],aW rfl⟩
   case shr=>obtain⟨d,rfl⟩:=h;exact⟨_,by simp[c,binOp,Op.shift,show ¬ m<0 by omega],aW rfl⟩
 ·rename_i n m
  have:=aL i;subst this
  have:=aL j;subst this
  have c: ∀o:BinOp,(eqGuard o T ox oy (.string n) (.string m)).run C.P C.w= .ok () C.w:=by
   intro o;unfold eqGuard;split<;>rfl
  cases e<;>simp only[WG,an5,ao1,true_and,reduceCtorEq] at h
  case add=>
   obtain⟨d,rfl⟩:=h;have d:=Nat.le_of_ble_eq_true d;have q:IntKind.i64.max=9223372036854775807:=by decide
   exact⟨_,by simp[c,binOp,Op.stringOp];omega,aW rfl⟩
  case eql=>subst h;exact⟨_,by simp[c,binOp,Op.stringOp],aW rfl⟩
  case neq=>subst h;exact⟨_,by simp[c,binOp,Op.stringOp],aW rfl⟩
  case lss=>subst h;exact⟨_,by simp[c,binOp,Op.stringOp],aW rfl⟩
  case gtr=>subst h;exact⟨_,by simp[c,binOp,Op.stringOp],aW rfl⟩
 ·simp at h
theorem run_equal_bool{P w T}(a:P.underlying T=some .bool) n m:(Op.equal T (.bool n) (.bool m)).run P w= .ok (n==m) w:=by
 have h: ∀d,(Op.equalIn (d+1) T (.bool n) (.bool m)).run P w= .ok (n==m) w:=fun d=>by
  simp_all[Op.equalIn,run_underlying]
 exact h _
theorem bytes_beq(s t:ByteArray):(s==t)=(s.toList==t.toList):=by
 obtain⟨a⟩:=s;obtain⟨b⟩:=t;have h:(ByteArray.mk a==ByteArray.mk b)=true↔a=b:=by
  show(a==b)=true↔a=b
  simp
 rw[Bool.eq_iff_iff,h,ByteArray.toList_eq,ByteArray.toList_eq];simp
theorem PY{C:Ctx}{T a b e}(h:eqV C.P T a b=some e) d:dJ C.P T=false/\(∃t,C.P.underlying T=some t)/\∃u v,a= .lit u/\b= .lit v/\(Op.equalIn (d+1) T u v).run C.P C.w= .ok e C.w:=by
 unfold eqV at h;split at h
 ·split at h
  ·rename_i c
   split at h
   ·rename_i f
    subst f;cases h;refine⟨by unfold dJ;rw[c],⟨_,c⟩,_,_,rfl,rfl,?_⟩;unfold Op.equalIn;simp[run_underlying c]
   ·cases h
  ·cases h
 ·split at h
  ·rename_i c
   cases h;refine⟨by unfold dJ;rw[c],⟨_,c⟩,_,_,rfl,rfl,?_⟩;unfold Op.equalIn;simp only[Sem.run_bind,run_underlying c,Result.andThen_ok,Sem.run_pure,bytes_beq]
  ·cases h
 ·split at h
  ·rename_i c
   cases h;refine⟨by unfold dJ;rw[c],⟨_,c⟩,_,_,rfl,rfl,?_⟩;unfold Op.equalIn;simp[run_underlying c]
  ·cases h
 ·cases h
theorem Dd{C:Ctx}{T xs j u}(c:dJ C.P T=false){t}(a:C.P.underlying T=some t)(b:xs[j]? =some u):(part T xs j).run C.P C.w= .ok u C.w:=by
 simp_all[part,hG]
theorem GI{C:Ctx} xs n(d:Nat): ∀g l m (j:Nat) (e:Bool),RQ C.P g l m j=some e->ML C l (fun k=>xs[k]?) j->ML C m (fun k=>n[k]?) j->
  (forIn g (none,()) fun(f:Field) _=>if f.name≠ "_" then do
    let a←part f.type xs f.offset
    let b←part f.type n f.offset
    let c←Op.equalIn (d+1) f.type a b
    if(!c)=true then pure (ForInStep.done (some false,())) else pure (ForInStep.yield (none,()))
   else pure (ForInStep.yield (none,()))).run C.P C.w= .ok (bif e then(none,()) else(some false,())) C.w
 |[],l,m,j,e,h,_,_=>by
  cases l<;>cases m<;>simp only[RQ,reduceCtorEq,an5] at h
  subst h;simp[Sem.run_pure]
 |f::g,[],m,j,e,h,_,_=>by simp[RQ] at h
 |f::g,a::l,[],j,e,h,_,_=>by simp[RQ] at h
 | f ::g,a::l,b::m,j,e,h,i,o=>by
  rw[RQ] at h;split at h
  ·rename_i q
   rw[an3,bne_iff_ne] at q;obtain⟨z,p⟩:=q;have p:=Nat.eq_of_beq_eq_true p;split at h
   ·rename_i x A
    split at h
    ·rename_i y D
     cases h;obtain⟨s,⟨t,r⟩,u,v,rfl,rfl,B⟩:=PY A d;simp only[ML,M,wid] at i o;have E:=GI xs n d g l m (j+1) y D i.2 o.2;simp only[List.forIn_cons,Sem.run_bind,if_pos z,p,Dd s r i.1.1,Dd s r o.1.1,B,Result.andThen_ok];cases x<;>simp_all
    ·cases h
   ·cases h
  ·cases h
theorem tR{C T b}(j:C.P.underlying T=some (.struct b))(i:C.P.stoodInHeld T=false){xs a l m e}(n:RQ C.P b.toList l m 0=some e)
  (f:ML C l (fun k=>xs[k]?) 0) (g:ML C m (fun k=>a[k]?) 0):(Op.equal T (.agg xs) (.agg a)).run C.P C.w= .ok e C.w:=by
 have h: ∀d,(Op.equalIn (d+2) T (.agg xs) (.agg a)).run C.P C.w= .ok e C.w:=fun d=>by
  unfold Op.equalIn;have o:program.run C.P C.w= .ok C.P C.w:=rfl;simp only[Sem.run_bind,run_underlying j,Result.andThen_ok,o,i,←Array.forIn_toList,Bool.false_eq_true,if_false];have c:=GI xs a d _ l m 0 e n f g;rw[c];cases e<;>rfl
 exact h 9998
theorem Ez{C f T ox oy a b x c j i}(h:Lw C.P f T a b=some (c,x))(k:Rel C a j)(p:Rel C b i):
  ∃v,(do eqGuard f T ox oy j i;binOp f T j i).run C.P C.w= .ok v C.w/\Rel C x v:=by
 unfold Lw at h;split at h
 ·rename_i l m
  split at h
  ·rename_i B g
   split at h
   ·cases h
   rename_i d;rw[Bool.not_eq_true,Bool.or_eq_false_iff] at d;obtain⟨A,r⟩:=d;split at h
   ·rename_i e u
    obtain⟨xs,rfl,_,z⟩:=sF k;obtain⟨s,rfl,_,t⟩:=sF p;have q:=tR g A u z t;have y:(program:Sem Program).run C.P C.w= .ok C.P C.w:=rfl;have d: ∀o:BinOp,(o= .eql\/o= .neq)->(eqGuard o T ox oy (.agg xs) (.agg s)).run C.P C.w= .ok () C.w:=by
     rintro o (rfl|rfl)
     all_goals
      unfold eqGuard;simp[y,r]
    split at h
    ·cases h;exact⟨_,by simp only[Sem.run_bind,d _ (.inl rfl),Result.andThen_ok,binOp,q];rfl,aW rfl⟩
    ·cases h;exact⟨_,by simp only[Sem.run_bind,d _ (.inr rfl),Result.andThen_ok,binOp,q];rfl,aW rfl⟩
    ·cases h
   ·cases h
  ·cases h
 ·rename_i n m
  have:=aL k;subst this
  have:=aL p;subst this
  have d: ∀o:BinOp,(eqGuard o T ox oy (.bool n) (.bool m)).run C.P C.w= .ok () C.w:=by
   intro o;unfold eqGuard;split<;>rfl
  split at h
  ·rename_i g
   cases f<;>simp only[an5,ao1,reduceCtorEq] at h
   case eql=>obtain⟨_,rfl⟩:=h;exact⟨_,by simp only[Sem.run_bind,d,Result.andThen_ok,binOp,run_equal_bool g];rfl,aW rfl⟩
   case neq=>obtain⟨_,rfl⟩:=h;exact⟨_,by simp only[Sem.run_bind,d,Result.andThen_ok,binOp,run_equal_bool g];rfl,aW rfl⟩
  ·simp at h
 ·simp at h
theorem Ji{C j T ox oy a x e}(h:TV C.P j T oy a=some (true,x))(l:Rel C a e):
  ∃v,(do eqGuard j T ox oy e .nilIface;binOp j T e .nilIface).run C.P C.w= .ok v C.w/\Rel C x v/\oy= .const .nilIface:=by
 unfold TV at h;split at h
 ·split at h
  ·rename_i q c b m d
   have g:C.P.toProgram.isIface T=true:=by unfold Program.isIface;rw[m]
   have p:c=true:=by
    split at h
    ·cases h;rfl
    ·cases h;rfl
    ·cases h
   subst p;have k:(e= .nilIface/\b=true)\/ ∃u v,e= .iface u v/\b=false:=by
    unfold L6 at d;split at d
    ·rename_i u
     have:=aL l
     subst this;simp only[an5,ao1] at d;obtain⟨i,rfl⟩:=d;unfold aC at i;split at i
     ·exact .inl ⟨rfl,rfl⟩
     ·exact .inr ⟨_,_,rfl,rfl⟩
     ·cases i
    ·obtain⟨u,n⟩:=QA l
     simp only[an5,ao1] at d;exact .inr ⟨_,u,n,d.2.symm⟩
    ·cases d
   rcases k with⟨rfl,rfl⟩|⟨u,v,rfl,rfl⟩
   ·have f: ∀o:BinOp,(eqGuard o T ox (.const .nilIface) .nilIface .nilIface).run C.P C.w= .ok () C.w:=by
     intro o;unfold eqGuard
     cases o<;>simp
    split at h
    ·cases h;exact⟨_,by simp only[Sem.run_bind,f,Result.andThen_ok,run_eql_nil_nil_at C.w T g],aW rfl,rfl⟩
    ·cases h;exact⟨_,by simp only[Sem.run_bind,f,Result.andThen_ok,run_neq_nil_nil_at C.w T g];rfl,aW rfl,rfl⟩
    ·cases h
   ·have f: ∀o:BinOp,(eqGuard o T ox (.const .nilIface) (.iface u v) .nilIface).run C.P C.w= .ok () C.w:=by
     intro o;unfold eqGuard
     cases o<;>simp
    split at h
    ·cases h;exact⟨_,by simp only[Sem.run_bind,f,Result.andThen_ok,run_eql_iface_nil C.w T g u v],aW rfl,rfl⟩
    ·cases h;exact⟨_,by simp only[Sem.run_bind,f,Result.andThen_ok,run_neq_iface_nil C.w T g u v];rfl,aW rfl,rfl⟩
    ·cases h
  ·cases h
 ·cases h
mutual
theorem iq{C:Ctx}: ∀(a:AV) (T:TypeId) (s:Src) (o:Nat),wa C.P a T=true->M C a s o->bu C.P a T
 | .lit v,T,s,o,h,hm=>by
  simp only[wa] at h;simp only[bu];simp only[M] at hm;split at h<;>simp_all
  ·split at h<;>simp_all
  ·split at h<;>simp_all
  ·split at h<;>simp_all
  ·split at h<;>simp_all
  ·split at h<;>simp_all
 | .eO K V ks vs,T,s,o,h,hm=>by
  simp only[wa] at h;simp only[M] at hm;split at h
  ·rename_i K' V' hE
   simp only[an3,beq_iff_eq] at h;obtain⟨rfl,rfl⟩:=h;simp only[bu];refine⟨hE,?_⟩;rcases hm with⟨_,_,_,rfl⟩|⟨b,ents,clock,_,_,_,_,_,h6,_⟩
   ·trivial
   ·exact h6
  ·simp at h
 | .ad E l,T,s,o,h,hm=>by
  simp only[wa] at h;simp only[M] at hm;split at h
  ·rename_i E' hE
   simp only[beq_iff_eq] at h;subst h
   simp only[bu];exact⟨hE,hm.1⟩
  ·simp at h
 | .agg l,T,s,o,h,hm=>by
  simp only[wa] at h;simp only[M] at hm;split at h
  ·rename_i fs hfs
   simp only[an3,Nat.blt_eq] at h;simp only[bu];exact⟨fs,⟨hfs,h.1⟩,yR l fs.toList s o h.2 hm⟩
  ·simp at h
 | .jA E a,T,s,o,h,hm=>by
  simp only[wa] at h;simp only[M] at hm;obtain⟨_,_,_,_,h3,_⟩:=hm;split at h
  ·rename_i E' hE
   simp only[beq_iff_eq] at h;subst h
   simp only[bu];exact⟨hE,h3⟩
  ·simp at h
 | .jz U a,T,s,o,h,hm=>by
  simp only[wa] at h;simp only[M] at hm;obtain⟨_,_,_,_,h3⟩:=hm;split at h
  ·rename_i ms hE
   simp only[bu];exact⟨⟨ms,hE⟩,iq a U _ _ h h3⟩
  ·simp at h
 | .cK,_,_,_,h,_| .aK _,_,_,_,h,_| .ax _ _ _,_,_,_,h,_| .ptr _ _ _ _,_,_,_,h,_| .mp _,_,_,_,h,_| .bJ _,_,_,_,h,_
 | .lC _ _,_,_,_,h,_| .bp _ _,_,_,_,h,_=>by simp[wa] at h
theorem yR{C:Ctx}: ∀(l:List AV) (fs:List Field) (s:Src) (o:Nat),IW C.P l fs=true->ML C l s o->ea C.P l fs
 |[],[],_,_,_,_=>by simp[ea]
 |[],_::_,_,_,h,_=>by simp[IW] at h
 |_::_,[],_,_,h,_=>by simp[IW] at h
 |a::l,f::fs,s,o,h,hm=>by
  simp only[IW,an3] at h;simp only[ML] at hm;simp only[ea];exact⟨iq a f.type s o h.1 hm.1,yR l fs s _ h.2 hm.2⟩
end
theorem uU{C:Ctx}(hI:Inv C): ∀(d:Nat) (T:TypeId) (cs r:List Value) (a:AV),nX C.P d T cs=some (a,r)->
  ∃pre,cs=pre++r/\pre.length=wid a/\M C a (fun j=>pre[j]?) 0
 |0,_,_,_,_,h=>by simp[nX] at h
 | d +1,T,cs,r,a,h=>by
  simp only[nX] at h;split at h
  ·rename_i fs hfs
   split at h
   ·rename_i l r' hz
    simp only[an5,ao1] at h;obtain⟨rfl,rfl⟩:=h;obtain⟨pre,h1,h2,h3⟩:=zfields_spec hI d fs.toList cs _ l hz;exact⟨pre,h1,by simpa[wid] using h2,by simpa[M] using h3⟩
   ·simp at h
  ·simp at h
  ·split at h
   ·rename_i v r'
    split at h
    ·rename_i hv
     simp only[an5,ao1] at h;obtain⟨rfl,rfl⟩:=h;exact⟨[v],rfl,by simp[wid],by simp[M];exact hv⟩
    ·simp at h
   ·simp at h
  ·simp at h
where
 zfields_spec {C:Ctx} (hI:Inv C) (d:Nat): ∀(fs:List Field) (cs r:List Value) (l:List AV),nX.zfields (nX C.P d) fs cs=some (l,r)->
   ∃pre,cs=pre++r/\pre.length=eL l/\ML C l (fun j=>pre[j]?) 0
  |[],cs,r,l,h=>by
   simp only[nX.zfields,an5,ao1] at h;obtain⟨rfl,rfl⟩:=h;exact⟨[],rfl,by simp[eL],by simp[ML]⟩
  | f::fs,cs,r,l,h=>by
   simp only[nX.zfields] at h;split at h
   ·rename_i a r1 hz1
    split at h
    ·rename_i l1 r2 hz2
     simp only[an5,ao1] at h;obtain⟨rfl,rfl⟩:=h;obtain⟨pre,h1,h2,h3⟩:=uU hI d f.type cs r1 a hz1;obtain⟨pre',h4,h5,h6⟩:=zfields_spec hI d fs r1 _ l1 hz2;refine⟨pre++pre',by rw[h1,h4,List.append_assoc],by simp[eL,h2,h5],?_⟩;simp only[ML];refine⟨j5 hI (fun j hj=>?_) h3,ML_shift hI h6 (fun j hj=>?_)⟩
     ·simp only[Nat.zero_add];rw[List.getElem?_append_left (by omega)]
     ·simp only[Nat.zero_add];rw[List.getElem?_append_right (by omega)];congr 1;omega
    ·simp at h
   ·simp at h
 ML_shift {C:Ctx} (hI:Inv C) {l:List AV} {s s':Src} {o o':Nat} (h:ML C l s o) (hs: ∀j,j<eL l->s' (o'+j)=s (o+j)):ML C l s' o':=by
  have:=j5 (a:= .agg l) hI (s:=s) (s':=s') (o:=o) (o':=o') (by simpa[wid] using hs) (by simpa[M] using h)
  simpa[M] using this
theorem dY{C}(b:Inv C){T z}(h:iC C.P T=some z):
  ∃i a,C.P.info? T=some i/\i.zero=some a/\Rel C z a/\wa C.P z T=true/\bu C.P z T:=by
 unfold iC at h
 grind [uU,mP,iq,Rel,aW]
theorem jq{P w T i a}(c:P.info? T=some i)(b:i.zero=some a):(zeroValue T).run P w= .ok a w:=by
 simp_all[zeroValue,typeInfo]
theorem Am{a b:ByteArray}(h:(a==b)=true):a=b:=by
 cases a;exact congrArg _ (eq_of_beq h)
theorem CL{a b}(h:eM a b=true):a=b:=by
 unfold eM at h
 grind [Am]
theorem qD{P K d}(f:P.underlying K=some d){a b}(c:plainKey P K a=true)(e:plainKey P K b=true):
  Instr.sameNow d a b=some (eM a b):=by
 unfold plainKey at c e;rw[f] at c e;cases a<;>simp at c<;>cases d<;>simp at c<;>cases b<;>simp at e
 ·rfl
 ·grind [Instr.sameNow,eM]
 rfl
theorem findNow_spec{C K V d}(o:C.P.underlying K=some d){f}(l:plainKey C.P K f=true) z:
  ∀g b i,cE C V g b->(∀e,e∈b->plainKey C.P K e.key=true)->
   r7 g f=false/\de g f z=z/\Instr.findNow d f b i=some none\/
   r7 g f=true/\∃j e,b[j]? =some e/\e.key=f/\Instr.findNow d f b i=some (some (i+j,e.val))/\Rel C (de g f z) e.val/\bu C.P (de g f z) V
 |[],[],i,_,_=> .inl ⟨rfl,rfl,rfl⟩
 |[],_::_,_,h,_=>by simp[cE] at h
 |_::_,[],_,h,_=>by simp[cE] at h
 | (k,a)::g,e::b,i,h,p=>by
  simp only[cE] at h;obtain⟨m,x,u,w⟩:=h;have n:=qD o l (p e (by simp));rw[m] at n;cases c:eM f k with
  |true=>
   right
   refine⟨by simp[r7,c],0,e,rfl,by rw[m];exact(CL c).symm,by simp[Instr.findNow,m,n,c],by simpa[de,c] using u,by simpa[de,c] using x⟩
  | false=>
   rcases findNow_spec o l z g b (i+1) w (fun e v=>p e (by simp[v])) with⟨q,r,s⟩|⟨q,j,y,r,s,A,B,t⟩
   ·grind [r7,de,Instr.findNow]
   ·right
    exact⟨by simp[r7,q],j+1,y,by simpa using r,s,by simp[Instr.findNow,m,n,c,A];omega,by simpa[de,c] using B,by simpa[de,c] using t⟩
theorem fO{P K a}(h:plainKey P K a=true): ∃d,P.underlying K=some d/\match d with| .int _| .string| .bool=>True|_=>False:=by
 unfold plainKey at h
 grind
theorem run_checkKey{P w K a}(h:plainKey P K a=true) b n:(Instr.checkKey b (n+1) K a).run P w= .ok () w:=by
 obtain⟨d,hd,c⟩:=fO h;unfold plainKey at h;cases a<;>cases d<;>simp at h c<;>simp[Instr.checkKey,run_underlying hd]
theorem run_getObj_map{P w b a c}(h:w.heap[b]? =some (.map a c)):(getObj b).run P w= .ok (.map a c) w:=by
 grind [getObj,Sem.run]
theorem nH{C}(d:Inv C){i}(e:i<C.st.length){K V c}(h:au C.st i= .map K V c):
  ∃a b,C.w.heap[(C.ι i).block]? =some (.map a b)/\cE C V c a.toList/\lF C.P K a.toList b:=by
 have:=d.obj i e
 rw[h] at this;exact this.2
theorem eR{C}(c:Inv C){T a v}(b:bu C.P a T)(g:Rel C a v):Rel C (expand C.P cd T a) v/\bu C.P (expand C.P cd T a) T:=by
 obtain⟨k,i⟩:=mw c.lay cd T a _ _ b g.2.2;have j:a≠ .cK:=by intro e;subst e;simp[bu] at b
 have h:bV (expand C.P cd T a)=bV a:=by
  cases f:C.P.underlying T with
  |none=>cases a<;>simp[bu,f] at b
  |some d=>
   cases d<;>cases a<;>simp[bu,f] at b<;>simp[expand,cd,f,bV]
   grind
 refine⟨⟨.inl (by rw[h];exact g.1.resolve_right j), .inl ?_,k⟩,i⟩;rw[dw c.lay _ _ i,←dw c.lay _ _ b];exact g.2.1.resolve_right j
end Go.Dn
