import Derived.Test.YtioeffnadipbaaaGreatDoorDnH
import Derived.Stop.IfaceNil
namespace Go.Dn
open Go
theorem Gp{C:Ctx}{op:BinOp}{T:TypeId}{ox oy:Operand}{a b x:AV}{va vb:Value}(h:ON op a b=some (true,x))(ha:Rel C a va)(hb:Rel C b vb):
  ∃v,(do eqGuard op T ox oy va vb;binOp op T va vb).run C.P C.w= .ok v C.w/\Rel C x v:=by
 unfold ON at h
 split at h
 ·rename_i k n k' m
  have:=aH ha;subst this
  have:=aH hb;subst this
  split at h
  ·rename_i hk;subst hk
   have hg: ∀o:BinOp,(eqGuard o T ox oy (.int k n) (.int k m)).run C.P C.w= .ok () C.w:=by
    intro o;unfold eqGuard;split<;>rfl
   cases op<;>simp only[TB,aa3,aa9,true_and,reduceCtorEq,bne_iff_ne,ne_eq,aa0] at h
   case add=>subst h;exact⟨_,by simp[hg,binOp,Op.intArith],aQ rfl⟩
   case sub=>subst h;exact⟨_,by simp[hg,binOp,Op.intArith],aQ rfl⟩
   case mul=>subst h;exact⟨_,by simp[hg,binOp,Op.intArith],aQ rfl⟩
   case quo=>obtain⟨h0,rfl⟩:=h;exact⟨_,by simp[hg,binOp,Op.intDiv,h0],aQ rfl⟩
   case rem=>obtain⟨h0,rfl⟩:=h;exact⟨_,by simp[hg,binOp,Op.intDiv,h0],aQ rfl⟩
   case and=>subst h;exact⟨_,by simp[hg,binOp,Op.intBits],aQ rfl⟩
   case or=>subst h;exact⟨_,by simp[hg,binOp,Op.intBits],aQ rfl⟩
   case shl=>obtain⟨h0,rfl⟩:=h;exact⟨_,by simp[hg,binOp,Op.shift,show ¬ m<0 by omega],aQ rfl⟩
   case shr=>obtain⟨h0,rfl⟩:=h;exact⟨_,by simp[hg,binOp,Op.shift,show ¬ m<0 by omega],aQ rfl⟩
   case eql=>subst h;exact⟨_,by simp[hg,binOp,Op.intCmp],aQ rfl⟩
   case neq=>subst h;exact⟨_,by simp[hg,binOp,Op.intCmp],aQ rfl⟩
   case lss=>subst h;exact⟨_,by simp[hg,binOp,Op.intCmp],aQ rfl⟩
   case leq=>subst h;exact⟨_,by simp[hg,binOp,Op.intCmp],aQ rfl⟩
   case gtr=>subst h;exact⟨_,by simp[hg,binOp,Op.intCmp],aQ rfl⟩
   case geq=>subst h;exact⟨_,by simp[hg,binOp,Op.intCmp],aQ rfl⟩
  ·have hg: ∀o:BinOp,(o= .shl\/o= .shr)->(eqGuard o T ox oy (.int k n) (.int k' m)).run C.P C.w= .ok () C.w:=by
    rintro o (rfl|rfl)<;>rfl
   cases op<;>simp only[Rc,aa3,aa9,reduceCtorEq,aa0] at h
   case shl=>obtain⟨h0,rfl⟩:=h;exact⟨_,by simp[hg,binOp,Op.shift,show ¬ m<0 by omega],aQ rfl⟩
   case shr=>obtain⟨h0,rfl⟩:=h;exact⟨_,by simp[hg,binOp,Op.shift,show ¬ m<0 by omega],aQ rfl⟩
 ·rename_i n m
  have:=aH ha;subst this
  have:=aH hb;subst this
  have hg: ∀o:BinOp,(eqGuard o T ox oy (.string n) (.string m)).run C.P C.w= .ok () C.w:=by
   intro o;unfold eqGuard;split<;>rfl
  cases op<;>simp only[Ue,aa3,aa9,true_and,reduceCtorEq] at h
  case add=>
   obtain⟨h0,rfl⟩:=h
   have h0:=Nat.le_of_ble_eq_true h0
   have h1:IntKind.i64.max=9223372036854775807:=by decide
   exact⟨_,by simp[hg,binOp,Op.stringOp];omega,aQ rfl⟩
  case eql=>subst h;exact⟨_,by simp[hg,binOp,Op.stringOp],aQ rfl⟩
  case neq=>subst h;exact⟨_,by simp[hg,binOp,Op.stringOp],aQ rfl⟩
  case lss=>subst h;exact⟨_,by simp[hg,binOp,Op.stringOp],aQ rfl⟩
  case gtr=>subst h;exact⟨_,by simp[hg,binOp,Op.stringOp],aQ rfl⟩
 ·simp at h
theorem run_equal_bool{P:Program}{w:World}{T:TypeId}(hT:P.underlying T=some .bool)(n m:Bool):(Op.equal T (.bool n) (.bool m)).run P w= .ok (n==m) w:=by
 have h: ∀d,(Op.equalIn (d+1) T (.bool n) (.bool m)).run P w= .ok (n==m) w:=fun d=>by
  unfold Op.equalIn
  simp[run_underlying hT]
 exact h 9999
theorem bytes_beq(s t:ByteArray):(s==t)=(s.toList==t.toList):=by
 obtain⟨a⟩:=s
 obtain⟨b⟩:=t
 have h:((ByteArray.mk a==ByteArray.mk b)=true)↔a=b:=by
  show((a==b)=true)↔a=b
  exact beq_iff_eq
 rw[Bool.eq_iff_iff,h,beq_iff_eq,ByteArray.toList_eq,ByteArray.toList_eq]
 simp_all
theorem Mu{C:Ctx}{T:TypeId}{a b:AV}{e:Bool}(h:WD C.P T a b=some e)(d:Nat):dK C.P T=false/\(∃t,C.P.underlying T=some t)/\∃u v,a= .lit u/\b= .lit v/\(Op.equalIn (d+1) T u v).run C.P C.w= .ok e C.w:=by
 unfold WD at h
 split at h
 ·split at h
  ·rename_i hT
   split at h
   ·rename_i hk
    subst hk
    cases h
    refine⟨by unfold dK;rw[hT],⟨_,hT⟩,_,_,rfl,rfl,?_⟩
    unfold Op.equalIn
    simp[run_underlying hT]
   ·cases h
  ·cases h
 ·split at h
  ·rename_i hT
   cases h
   refine⟨by unfold dK;rw[hT],⟨_,hT⟩,_,_,rfl,rfl,?_⟩
   unfold Op.equalIn
   simp only[Sem.run_bind,run_underlying hT,Result.andThen_ok,Sem.run_pure,bytes_beq]
  ·cases h
 ·split at h
  ·rename_i hT
   cases h
   refine⟨by unfold dK;rw[hT],⟨_,hT⟩,_,_,rfl,rfl,?_⟩
   unfold Op.equalIn
   simp[run_underlying hT]
  ·cases h
 ·cases h
theorem BS{C:Ctx}{T:TypeId}{xs:Array Value}{j:Nat}{u:Value}(h1:dK C.P T=false){t:TypeDesc}(h2:C.P.underlying T=some t)(h3:xs[j]? =some u):(part T xs j).run C.P C.w= .ok u C.w:=by
 unfold part
 simp_all[iu]
theorem D2{C:Ctx}(xs ys:Array Value)(d:Nat): ∀(fs:List Field) (l m:List AV) (j:Nat) (e:Bool),N6 C.P fs l m j=some e->ML C l (fun k=>xs[k]?) j->ML C m (fun k=>ys[k]?) j->
  (forIn fs ((none,()):Option Bool×Unit) fun(f:Field) _=>if f.name≠ "_" then do
    let a←part f.type xs f.offset
    let b←part f.type ys f.offset
    let c←Op.equalIn (d+1) f.type a b
    if(!c)=true then pure (ForInStep.done (some false,())) else pure (ForInStep.yield (none,()))
   else pure (ForInStep.yield (none,()))).run C.P C.w= .ok (bif e then(none,()) else(some false,())) C.w
 |[],l,m,j,e,h,_,_=>by
  cases l<;>cases m<;>simp only[N6,reduceCtorEq,aa3] at h
  subst h
  simp[Sem.run_pure]
 |f::fs,[],m,j,e,h,_,_=>by simp[N6] at h
 |f::fs,a::l,[],j,e,h,_,_=>by simp[N6] at h
 | f ::fs,a::l,b::m,j,e,h,ha,hb=>by
  rw[N6] at h
  split at h
  ·rename_i hc
   rw[aa1,bne_iff_ne] at hc
   obtain⟨hn,ho⟩:=hc
   have ho:=Nat.eq_of_beq_eq_true ho
   split at h
   ·rename_i x hx
    split at h
    ·rename_i y hy
     cases h
     obtain⟨h1,⟨t,h2⟩,u,v,rfl,rfl,h3⟩:=Mu hx d
     simp only[ML,M,wid] at ha hb
     have ih:=D2 xs ys d fs l m (j+1) y hy ha.2 hb.2
     simp only[List.forIn_cons,Sem.run_bind,if_pos hn,ho,BS h1 h2 ha.1.1,BS h1 h2 hb.1.1,h3,Result.andThen_ok]
     cases x with
     |true=>
      simp only[Bool.not_true,Bool.false_eq_true,if_false,Sem.run_pure,Result.andThen_ok,ab9]
      exact ih
     |false=>
      simp only[Bool.not_false,if_true,Sem.run_pure,Result.andThen_ok,Bool.false_and,aa5]
    ·cases h
   ·cases h
  ·cases h
theorem ry{C:Ctx}{T:TypeId}{fs:Array Field}(hT:C.P.underlying T=some (.struct fs))(hs:C.P.stoodInHeld T=false){xs ys:Array Value}{l m:List AV}{e:Bool}(he:N6 C.P fs.toList l m 0=some e)
  (ha:ML C l (fun k=>xs[k]?) 0) (hb:ML C m (fun k=>ys[k]?) 0):(Op.equal T (.agg xs) (.agg ys)).run C.P C.w= .ok e C.w:=by
 have h: ∀d,(Op.equalIn (d+2) T (.agg xs) (.agg ys)).run C.P C.w= .ok e C.w:=fun d=>by
  unfold Op.equalIn
  have hp:(program:Sem Program).run C.P C.w= .ok C.P C.w:=rfl
  simp only[Sem.run_bind,run_underlying hT,Result.andThen_ok,hp,hs,←Array.forIn_toList,Bool.false_eq_true,if_false]
  have hl:=D2 xs ys d fs.toList l m 0 e he ha hb
  rw[hl]
  cases e<;>rfl
 exact h 9998
theorem Dg{C:Ctx}{op:BinOp}{T:TypeId}{ox oy:Operand}{a b x:AV}{c:Bool}{va vb:Value}(h:Kk C.P op T a b=some (c,x))(ha:Rel C a va)(hb:Rel C b vb):
  ∃v,(do eqGuard op T ox oy va vb;binOp op T va vb).run C.P C.w= .ok v C.w/\Rel C x v:=by
 unfold Kk at h
 split at h
 ·rename_i l m
  split at h
  ·rename_i fs hT
   split at h
   ·cases h
   rename_i hg
   rw[Bool.not_eq_true,Bool.or_eq_false_iff] at hg
   obtain⟨hs,hq⟩:=hg
   split at h
   ·rename_i e he
    obtain⟨xs,rfl,_,h1⟩:=tw ha
    obtain⟨ys,rfl,_,h2⟩:=tw hb
    have hr:=ry hT hs he h1 h2
    have hp:(program:Sem Program).run C.P C.w= .ok C.P C.w:=rfl
    have hg: ∀o:BinOp,(o= .eql\/o= .neq)->(eqGuard o T ox oy (.agg xs) (.agg ys)).run C.P C.w= .ok () C.w:=by
     rintro o (rfl|rfl)
     all_goals
      unfold eqGuard
      simp[hp,hq]
    split at h
    ·cases h;exact⟨_,by simp only[Sem.run_bind,hg _ (.inl rfl),Result.andThen_ok,binOp,hr];rfl,aQ rfl⟩
    ·cases h;exact⟨_,by simp only[Sem.run_bind,hg _ (.inr rfl),Result.andThen_ok,binOp,hr];rfl,aQ rfl⟩
    ·cases h
   ·cases h
  ·cases h
 ·rename_i n m
  have:=aH ha;subst this
  have:=aH hb;subst this
  have hg: ∀o:BinOp,(eqGuard o T ox oy (.bool n) (.bool m)).run C.P C.w= .ok () C.w:=by
   intro o;unfold eqGuard;split<;>rfl
  split at h
  ·rename_i hT
   cases op<;>simp only[aa3,aa9,reduceCtorEq] at h
   case eql=>obtain⟨_,rfl⟩:=h;exact⟨_,by simp only[Sem.run_bind,hg,Result.andThen_ok,binOp,run_equal_bool hT];rfl,aQ rfl⟩
   case neq=>obtain⟨_,rfl⟩:=h;exact⟨_,by simp only[Sem.run_bind,hg,Result.andThen_ok,binOp,run_equal_bool hT];rfl,aQ rfl⟩
  ·simp at h
 ·simp at h
theorem HU{C:Ctx}{op:BinOp}{T:TypeId}{ox:Operand}{oy:Operand}{a x:AV}{va:Value}(h:Pd C.P op T oy a=some (true,x))(ha:Rel C a va):
  ∃v,(do eqGuard op T ox oy va .nilIface;binOp op T va .nilIface).run C.P C.w= .ok v C.w/\Rel C x v/\oy= .const .nilIface:=by
 unfold Pd at h
 split at h
 ·split at h
  ·rename_i ms c b hT hb
   have hi:C.P.toProgram.isIface T=true:=by unfold Program.isIface;rw[hT]
   have hc:c=true:=by
    split at h
    ·cases h;rfl
    ·cases h;rfl
    ·cases h
   subst hc
   have key:(va= .nilIface/\b=true)\/ ∃u v,va= .iface u v/\b=false:=by
    unfold I4 at hb
    split at hb
    ·rename_i u
     have:=aH ha
     subst this
     simp only[aa3,aa9] at hb
     obtain⟨h1,rfl⟩:=hb
     unfold ay at h1
     split at h1
     ·exact .inl ⟨rfl,rfl⟩
     ·exact .inr ⟨_,_,rfl,rfl⟩
     ·cases h1
    ·obtain⟨u,hu⟩:=Mi ha
     simp only[aa3,aa9] at hb
     exact .inr ⟨_,u,hu,hb.2.symm⟩
    ·cases hb
   rcases key with⟨rfl,rfl⟩|⟨u,v,rfl,rfl⟩
   ·have hg: ∀o:BinOp,(eqGuard o T ox (.const .nilIface) .nilIface .nilIface).run C.P C.w= .ok () C.w:=by
     intro o;unfold eqGuard
     cases o<;>simp
    split at h
    ·cases h;exact⟨_,by simp only[Sem.run_bind,hg,Result.andThen_ok,run_eql_nil_nil_at C.w T hi],aQ rfl,rfl⟩
    ·cases h;exact⟨_,by simp only[Sem.run_bind,hg,Result.andThen_ok,run_neq_nil_nil_at C.w T hi];rfl,aQ rfl,rfl⟩
    ·cases h
   ·have hg: ∀o:BinOp,(eqGuard o T ox (.const .nilIface) (.iface u v) .nilIface).run C.P C.w= .ok () C.w:=by
     intro o;unfold eqGuard
     cases o<;>simp
    split at h
    ·cases h;exact⟨_,by simp only[Sem.run_bind,hg,Result.andThen_ok,run_eql_iface_nil C.w T hi u v],aQ rfl,rfl⟩
    ·cases h;exact⟨_,by simp only[Sem.run_bind,hg,Result.andThen_ok,run_neq_iface_nil C.w T hi u v];rfl,aQ rfl,rfl⟩
    ·cases h
  ·cases h
 ·cases h
mutual
theorem gn{C:Ctx}: ∀(a:AV) (T:TypeId) (s:Src) (o:Nat),ux C.P a T=true->M C a s o->br C.P a T
 | .lit v,T,s,o,h,hm=>by
  simp only[ux] at h
  simp only[br]
  simp only[M] at hm
  split at h<;>simp_all
  ·split at h<;>simp_all
  ·split at h<;>simp_all
  ·split at h<;>simp_all
  ·split at h<;>simp_all
  ·split at h<;>simp_all
 | .fJ K V ks vs,T,s,o,h,hm=>by
  simp only[ux] at h
  simp only[M] at hm
  split at h
  ·rename_i K' V' hE
   simp only[aa1,beq_iff_eq] at h
   obtain⟨rfl,rfl⟩:=h
   simp only[br]
   refine⟨hE,?_⟩
   obtain⟨b,ents,clock,_,_,_,_,_,h6,_⟩:=hm
   exact h6
  ·simp at h
 | .ad E l,T,s,o,h,hm=>by
  simp only[ux] at h
  simp only[M] at hm
  split at h
  ·rename_i E' hE
   simp only[beq_iff_eq] at h;subst h
   simp only[br];exact⟨hE,hm.1⟩
  ·simp at h
 | .agg l,T,s,o,h,hm=>by
  simp only[ux] at h
  simp only[M] at hm
  split at h
  ·rename_i fs hfs
   simp only[aa1,Nat.blt_eq] at h
   simp only[br];exact⟨fs,⟨hfs,h.1⟩,xB l fs.toList s o h.2 hm⟩
  ·simp at h
 | .iY E a,T,s,o,h,hm=>by
  simp only[ux] at h
  simp only[M] at hm
  obtain⟨_,_,_,_,h3,_⟩:=hm
  split at h
  ·rename_i E' hE
   simp only[beq_iff_eq] at h;subst h
   simp only[br];exact⟨hE,h3⟩
  ·simp at h
 | .iN U a,T,s,o,h,hm=>by
  simp only[ux] at h
  simp only[M] at hm
  obtain⟨_,_,_,_,h3⟩:=hm
  split at h
  ·rename_i ms hE
   simp only[br];exact⟨⟨ms,hE⟩,gn a U _ _ h h3⟩
  ·simp at h
 | .cK,_,_,_,h,_| .aX _,_,_,_,h,_| .aB _ _ _,_,_,_,h,_| .ptr _ _ _ _,_,_,_,h,_| .mp _,_,_,_,h,_| .de _,_,_,_,h,_
 | .jV _ _,_,_,_,h,_| .bq _ _,_,_,_,h,_=>by simp[ux] at h
theorem xB{C:Ctx}: ∀(l:List AV) (fs:List Field) (s:Src) (o:Nat),GX C.P l fs=true->ML C l s o->dy C.P l fs
 |[],[],_,_,_,_=>by simp[dy]
 |[],_::_,_,_,h,_=>by simp[GX] at h
 |_::_,[],_,_,h,_=>by simp[GX] at h
 |a::l,f::fs,s,o,h,hm=>by
  simp only[GX,aa1] at h
  simp only[ML] at hm
  simp only[dy]
  exact⟨gn a f.type s o h.1 hm.1,xB l fs s _ h.2 hm.2⟩
end
theorem sP{C:Ctx}(hI:Inv C): ∀(d:Nat) (T:TypeId) (cs r:List Value) (a:AV),ml C.P d T cs=some (a,r)->
  ∃pre,cs=pre++r/\pre.length=wid a/\M C a (fun j=>pre[j]?) 0
 |0,_,_,_,_,h=>by simp[ml] at h
 | d +1,T,cs,r,a,h=>by
  simp only[ml] at h
  split at h
  ·rename_i fs hfs
   split at h
   ·rename_i l r' hz
    simp only[aa3,aa9] at h
    obtain⟨rfl,rfl⟩:=h
    obtain⟨pre,h1,h2,h3⟩:=zfields_spec hI d fs.toList cs _ l hz
    exact⟨pre,h1,by simpa[wid] using h2,by simpa[M] using h3⟩
   ·simp at h
  ·simp at h
  ·split at h
   ·rename_i v r'
    split at h
    ·rename_i hv
     simp only[aa3,aa9] at h
     obtain⟨rfl,rfl⟩:=h
     exact⟨[v],rfl,by simp[wid],by simp[M];exact hv⟩
    ·simp at h
   ·simp at h
  ·simp at h
where
 zfields_spec {C:Ctx} (hI:Inv C) (d:Nat): ∀(fs:List Field) (cs r:List Value) (l:List AV),ml.zfields (ml C.P d) fs cs=some (l,r)->
   ∃pre,cs=pre++r/\pre.length=eH l/\ML C l (fun j=>pre[j]?) 0
  |[],cs,r,l,h=>by
   simp only[ml.zfields,aa3,aa9] at h
   obtain⟨rfl,rfl⟩:=h
   exact⟨[],rfl,by simp[eH],by simp[ML]⟩
  | f::fs,cs,r,l,h=>by
   simp only[ml.zfields] at h
   split at h
   ·rename_i a r1 hz1
    split at h
    ·rename_i l1 r2 hz2
     simp only[aa3,aa9] at h
     obtain⟨rfl,rfl⟩:=h
     obtain⟨pre,h1,h2,h3⟩:=sP hI d f.type cs r1 a hz1
     obtain⟨pre',h4,h5,h6⟩:=zfields_spec hI d fs r1 _ l1 hz2
     refine⟨pre++pre',by rw[h1,h4,List.append_assoc],by simp[eH,h2,h5],?_⟩
     simp only[ML]
     refine⟨jv hI (fun j hj=>?_) h3,ML_shift hI h6 (fun j hj=>?_)⟩
     ·simp only[Nat.zero_add];rw[List.getElem?_append_left (by omega)]
     ·simp only[Nat.zero_add];rw[List.getElem?_append_right (by omega)];congr 1;omega
    ·simp at h
   ·simp at h
 ML_shift {C:Ctx} (hI:Inv C) {l:List AV} {s s':Src} {o o':Nat} (h:ML C l s o) (hs: ∀j,j<eH l->s' (o'+j)=s (o+j)):ML C l s' o':=by
  have:=jv (a:= .agg l) hI (s:=s) (s':=s') (o:=o) (o':=o') (by simpa[wid] using hs) (by simpa[M] using h)
  simpa[M] using this
theorem ec{C:Ctx}(hI:Inv C){T:TypeId}{z:AV}(h:gG C.P T=some z):
  ∃i zv,C.P.info? T=some i/\i.zero=some zv/\Rel C z zv/\ux C.P z T=true/\br C.P z T:=by
 unfold gG at h
 split at h
 ·rename_i i hi
  split at h
  ·grind [sP,ov,gn]
  ·rename_i v hno hz
   split at h
   ·simp at h
   ·rename_i hc
    simp only[ab5,Bool.not_eq_true',not_or,Bool.not_eq_true,Bool.not_eq_false] at hc
    simp only[aa3] at h;subst h
    have hr:Rel C (.lit v) v:=aQ hc.1.2
    exact⟨i,v,hi,hz,hr,hc.2,gn _ _ _ _ hc.2 hr.2.2⟩
  ·simp at h
 ·simp at h
theorem jq{P:Program}{w:World}{T:TypeId}{i:TypeInfo}{zv:Value}(hi:P.info? T=some i)(hz:i.zero=some zv):(zeroValue T).run P w= .ok zv w:=by
 simp[zeroValue,typeInfo,hi,hz]
theorem zg{a b:ByteArray}(h:(a==b)=true):a=b:=by
 cases a;cases b
 exact congrArg ByteArray.mk (eq_of_beq h)
theorem B4{a b:Value}(h:dm a b=true):a=b:=by
 unfold dm at h
 grind [zg]
theorem pf{P:Program}{K:TypeId}{d:TypeDesc}(hK:P.underlying K=some d){a b:Value}(ha:plainKey P K a=true)(hb:plainKey P K b=true):
  Instr.sameNow d a b=some (dm a b):=by
 unfold plainKey at ha hb
 rw[hK] at ha hb
 cases a<;>simp at ha<;>cases d<;>simp at ha<;>cases b<;>simp at hb
 ·simp[Instr.sameNow,dm]
 ·subst ha;subst hb;simp[Instr.sameNow,dm]
 ·simp[Instr.sameNow,dm]
theorem findNow_spec{C:Ctx}{K V:TypeId}{d:TypeDesc}(hK:C.P.underlying K=some d){kv:Value}(hkv:plainKey C.P K kv=true)(z:AV):
  ∀(es:List (Value×AV)) (ents:List MapEntry) (i:Nat),bZ C V es ents->(∀e,e∈ents->plainKey C.P K e.key=true)->
   (re es kv=false/\dO es kv z=z/\Instr.findNow d kv ents i=some none)\/
   (re es kv=true/\∃j e,ents[j]? =some e/\e.key=kv/\Instr.findNow d kv ents i=some (some (i+j,e.val))/\Rel C (dO es kv z) e.val/\br C.P (dO es kv z) V)
 |[],[],i,_,_=> .inl ⟨rfl,rfl,rfl⟩
 |[],_::_,_,h,_=>by simp[bZ] at h
 |_::_,[],_,h,_=>by simp[bZ] at h
 | (k,a)::es,e::ents,i,h,hp=>by
  simp only[bZ] at h
  obtain⟨h1,h2,h3,h4⟩:=h
  have hs:=pf hK hkv (hp e (by simp))
  rw[h1] at hs
  cases hke:dm kv k with
  |true=>
   right
   refine⟨by simp[re,hke],0,e,rfl,by rw[h1];exact(B4 hke).symm,by simp[Instr.findNow,h1,hs,hke],by simpa[dO,hke] using h3,by simpa[dO,hke] using h2⟩
  | false=>
   rcases findNow_spec hK hkv z es ents (i+1) h4 (fun e he=>hp e (by simp[he])) with⟨g1,g2,g3⟩|⟨g1,j,e',g2,g3,g4,g5,g6⟩
   ·left
    exact⟨by simp[re,hke,g1],by simp[dO,hke,g2],by simp[Instr.findNow,h1,hs,hke,g3]⟩
   ·right
    exact⟨by simp[re,g1],j+1,e',by simpa using g2,g3,by simp[Instr.findNow,h1,hs,hke,g4];omega,by simpa[dO,hke] using g5,by simpa[dO,hke] using g6⟩
theorem fk{P:Program}{K:TypeId}{kv:Value}(h:plainKey P K kv=true): ∃d,P.underlying K=some d/\(match d with| .int _| .string| .bool=>True|_=>False):=by
 unfold plainKey at h
 grind
theorem run_checkKey{P:Program}{w:World}{K:TypeId}{kv:Value}(h:plainKey P K kv=true)(b:Bool)(n:Nat):(Instr.checkKey b (n+1) K kv).run P w= .ok () w:=by
 obtain⟨d,hd,h2⟩:=fk h
 unfold plainKey at h
 rw[hd] at h
 cases kv<;>simp at h<;>cases d<;>simp at h h2<;>simp[Instr.checkKey,run_underlying hd]
theorem run_getObj_map{P:Program}{w:World}{b:Nat}{es:Array MapEntry}{c:Nat}(h:w.heap[b]? =some (.map es c)):(getObj b).run P w= .ok (.map es c) w:=by
 simp[getObj,Sem.run,h]
theorem mF{C:Ctx}(hI:Inv C){i:Nat}(hi:i<C.st.length){K V:TypeId}{es:List (Value×AV)}(h:an C.st i= .map K V es):
  ∃entries clock,C.w.heap[(C.ι i).block]? =some (.map entries clock)/\bZ C V es entries.toList/\k9 C.P K entries.toList clock:=by
 have:=hI.obj i hi
 rw[h] at this
 exact this.2
theorem fc{C:Ctx}(hI:Inv C){T:TypeId}{a:AV}{v:Value}(ht:br C.P a T)(hr:Rel C a v):Rel C (expand C.P bX T a) v/\br C.P (expand C.P bX T a) T:=by
 obtain⟨h1,h2⟩:=lN hI.lay bX T a _ _ ht hr.2.2
 have hj:a≠ .cK:=by intro e;subst e;simp[br] at ht
 have hag:bO (expand C.P bX T a)=bO a:=by
  cases hu:C.P.underlying T with
  |none=>cases a<;>simp[br,hu] at ht
  |some d=>
   cases d<;>cases a<;>simp[br,hu] at ht<;>simp[expand,bX,hu,bO]
   subst ht;rfl
 refine⟨⟨.inl (by rw[hag];exact hr.1.resolve_right hj), .inl ?_,h1⟩,h2⟩
 rw[dn hI.lay _ _ h2,←dn hI.lay _ _ ht]
 exact hr.2.1.resolve_right hj
end Go.Dn
