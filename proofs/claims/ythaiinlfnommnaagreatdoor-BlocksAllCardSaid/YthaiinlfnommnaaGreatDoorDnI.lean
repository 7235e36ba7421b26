import Derived.Test.YthaiinlfnommnaaGreatDoorDnH
import Derived.Stop.IfaceNil
namespace Go.Dn
open Go
theorem Jh{C:Ctx}{op:BinOp}{T:TypeId}{ox oy:Operand}{a b x:AV}{va vb:Value}(h:QL op a b=some (true,x))(ha:Rel C a va)(hb:Rel C b vb):
  ∃v,(do eqGuard op T ox oy va vb;binOp op T va vb).run C.P C.w= .ok v C.w/\Rel C x v:=by
 unfold QL at h
 split at h
 ·rename_i k n k' m
  have:=aV ha;subst this
  have:=aV hb;subst this
  split at h
  ·rename_i hk;subst hk
   have hg: ∀o:BinOp,(eqGuard o T ox oy (.int k n) (.int k m)).run C.P C.w= .ok () C.w:=by
    intro o;unfold eqGuard;split<;>rfl
   cases op<;>simp only[aa5,ab1,true_and,reduceCtorEq,bne_iff_ne,ne_eq,aa2] at h
   case add=>subst h;exact⟨_,by simp[hg,binOp,Op.intArith],bh rfl⟩
   case sub=>subst h;exact⟨_,by simp[hg,binOp,Op.intArith],bh rfl⟩
   case mul=>subst h;exact⟨_,by simp[hg,binOp,Op.intArith],bh rfl⟩
   case quo=>obtain⟨h0,rfl⟩:=h;exact⟨_,by simp[hg,binOp,Op.intDiv,h0],bh rfl⟩
   case rem=>obtain⟨h0,rfl⟩:=h;exact⟨_,by simp[hg,binOp,Op.intDiv,h0],bh rfl⟩
   case and=>subst h;exact⟨_,by simp[hg,binOp,Op.intBits],bh rfl⟩
   case or=>subst h;exact⟨_,by simp[hg,binOp,Op.intBits],bh rfl⟩
   case shl=>obtain⟨h0,rfl⟩:=h;exact⟨_,by simp[hg,binOp,Op.shift,show ¬ m<0 by omega],bh rfl⟩
   case shr=>obtain⟨h0,rfl⟩:=h;exact⟨_,by simp[hg,binOp,Op.shift,show ¬ m<0 by omega],bh rfl⟩
   case eql=>subst h;exact⟨_,by simp[hg,binOp,Op.intCmp],bh rfl⟩
   case neq=>subst h;exact⟨_,by simp[hg,binOp,Op.intCmp],bh rfl⟩
   case lss=>subst h;exact⟨_,by simp[hg,binOp,Op.intCmp],bh rfl⟩
   case leq=>subst h;exact⟨_,by simp[hg,binOp,Op.intCmp],bh rfl⟩
   case gtr=>subst h;exact⟨_,by simp[hg,binOp,Op.intCmp],bh rfl⟩
   case geq=>subst h;exact⟨_,by simp[hg,binOp,Op.intCmp],bh rfl⟩
  ·simp at h
 ·rename_i n m
  have:=aV ha;subst this
  have:=aV hb;subst this
  have hg: ∀o:BinOp,(eqGuard o T ox oy (.string n) (.string m)).run C.P C.w= .ok () C.w:=by
   intro o;unfold eqGuard;split<;>rfl
  cases op<;>simp only[aa5,ab1,true_and,reduceCtorEq,aa2] at h
  case add=>
   obtain⟨h0,rfl⟩:=h
   have h1:IntKind.i64.max=9223372036854775807:=by decide
   exact⟨_,by simp[hg,binOp,Op.stringOp];omega,bh rfl⟩
  case eql=>subst h;exact⟨_,by simp[hg,binOp,Op.stringOp],bh rfl⟩
  case neq=>subst h;exact⟨_,by simp[hg,binOp,Op.stringOp],bh rfl⟩
  case lss=>subst h;exact⟨_,by simp[hg,binOp,Op.stringOp],bh rfl⟩
 ·simp at h
theorem run_equal_bool{P:Program}{w:World}{T:TypeId}(hT:P.underlying T=some .bool)(n m:Bool):(Op.equal T (.bool n) (.bool m)).run P w= .ok (n==m) w:=by
 have h: ∀d,(Op.equalIn (d+1) T (.bool n) (.bool m)).run P w= .ok (n==m) w:=fun d=>by
  unfold Op.equalIn
  simp[run_underlying hT]
 exact h 9999
theorem Ei{C:Ctx}{op:BinOp}{T:TypeId}{ox oy:Operand}{a b x:AV}{c:Bool}{va vb:Value}(h:Lo C.P op T a b=some (c,x))(ha:Rel C a va)(hb:Rel C b vb):
  ∃v,(do eqGuard op T ox oy va vb;binOp op T va vb).run C.P C.w= .ok v C.w/\Rel C x v:=by
 unfold Lo at h
 split at h
 ·rename_i n m
  have:=aV ha;subst this
  have:=aV hb;subst this
  have hg: ∀o:BinOp,(eqGuard o T ox oy (.bool n) (.bool m)).run C.P C.w= .ok () C.w:=by
   intro o;unfold eqGuard;split<;>rfl
  split at h
  ·rename_i hT
   cases op<;>simp only[aa5,ab1,reduceCtorEq] at h
   case eql=>obtain⟨_,rfl⟩:=h;exact⟨_,by simp only[Sem.run_bind,hg,Result.andThen_ok,binOp,run_equal_bool hT];rfl,bh rfl⟩
   case neq=>obtain⟨_,rfl⟩:=h;exact⟨_,by simp only[Sem.run_bind,hg,Result.andThen_ok,binOp,run_equal_bool hT];rfl,bh rfl⟩
  ·simp at h
 ·simp at h
theorem Ih{C:Ctx}{op:BinOp}{T:TypeId}{ox:Operand}{oy:Operand}{a x:AV}{va:Value}(h:Rq C.P op T oy a=some (true,x))(ha:Rel C a va):
  ∃v,(do eqGuard op T ox oy va .nilIface;binOp op T va .nilIface).run C.P C.w= .ok v C.w/\Rel C x v/\oy= .const .nilIface:=by
 unfold Rq at h
 split at h
 ·split at h
  ·rename_i ms c b hT hb
   have hi:C.P.toProgram.isIface T=true:=by unfold Program.isIface;rw[hT]
   have hc:c=true:=by
    split at h
    ·cases h;rfl
    ·cases h;rfl
    ·cases h
   subst hc
   have key:(va= .nilIface/\b=true)\/ ∃u v,va= .iface u v/\b=false:=by
    unfold Ku at hb
    split at hb
    ·rename_i u
     have:=aV ha
     subst this
     simp only[aa5,ab1] at hb
     obtain⟨h1,rfl⟩:=hb
     unfold aE at h1
     split at h1
     ·exact .inl ⟨rfl,rfl⟩
     ·exact .inr ⟨_,_,rfl,rfl⟩
     ·cases h1
    ·obtain⟨u,hu⟩:=O9 ha
     simp only[aa5,ab1] at hb
     exact .inr ⟨_,u,hu,hb.2.symm⟩
    ·cases hb
   rcases key with⟨rfl,rfl⟩|⟨u,v,rfl,rfl⟩
   ·have hg: ∀o:BinOp,(eqGuard o T ox (.const .nilIface) .nilIface .nilIface).run C.P C.w= .ok () C.w:=by
     intro o;unfold eqGuard
     cases o<;>simp
    split at h
    ·cases h;exact⟨_,by simp only[Sem.run_bind,hg,Result.andThen_ok,run_eql_nil_nil_at C.w T hi],bh rfl,rfl⟩
    ·cases h;exact⟨_,by simp only[Sem.run_bind,hg,Result.andThen_ok,run_neq_nil_nil_at C.w T hi];rfl,bh rfl,rfl⟩
    ·cases h
   ·have hg: ∀o:BinOp,(eqGuard o T ox (.const .nilIface) (.iface u v) .nilIface).run C.P C.w= .ok () C.w:=by
     intro o;unfold eqGuard
     cases o<;>simp
    split at h
    ·cases h;exact⟨_,by simp only[Sem.run_bind,hg,Result.andThen_ok,run_eql_iface_nil C.w T hi u v],bh rfl,rfl⟩
    ·cases h;exact⟨_,by simp only[Sem.run_bind,hg,Result.andThen_ok,run_neq_iface_nil C.w T hi u v];rfl,bh rfl,rfl⟩
    ·cases h
  ·cases h
 ·cases h
mutual
theorem jg{C:Ctx}: ∀(a:AV) (T:TypeId) (s:Src) (o:Nat),A6 C.P a T=true->M C a s o->bG C.P a T
 | .lit v,T,s,o,h,hm=>by
  simp only[A6] at h
  simp only[bG]
  simp only[M] at hm
  split at h<;>simp_all
  ·split at h<;>simp_all
  ·split at h<;>simp_all
  ·split at h<;>simp_all
  ·split at h<;>simp_all
  ·split at h<;>simp_all
 | .jJ K V ks vs,T,s,o,h,hm=>by
  simp only[A6] at h
  simp only[M] at hm
  split at h
  ·rename_i K' V' hE
   simp only[aa3,beq_iff_eq] at h
   obtain⟨rfl,rfl⟩:=h
   simp only[bG]
   refine⟨hE,?_⟩
   rcases hm with⟨_,_,rfl⟩|⟨b,ents,clock,_,_,_,_,_,h6,_⟩
   ·trivial
   ·exact h6
  ·simp at h
 | .ad E l,T,s,o,h,hm=>by
  simp only[A6] at h
  simp only[M] at hm
  split at h
  ·rename_i E' hE
   simp only[beq_iff_eq] at h;subst h
   simp only[bG];exact⟨hE,hm.1⟩
  ·simp at h
 | .agg l,T,s,o,h,hm=>by
  simp only[A6] at h
  simp only[M] at hm
  split at h
  ·rename_i fs hfs
   simp only[aa3,Nat.blt_eq] at h
   simp only[bG];exact⟨fs,⟨hfs,h.1⟩,yc l fs.toList s o h.2 hm⟩
  ·simp at h
 | .cP,_,_,_,h,_| .bp _,_,_,_,h,_| .ar _ _ _,_,_,_,h,_| .ptr _ _ _ _,_,_,_,h,_| .jX _ _,_,_,_,h,_| .mp _,_,_,_,h,_| .cK _,_,_,_,h,_
 | .kx _ _,_,_,_,h,_| .bQ _ _,_,_,_,h,_| .jq _ _,_,_,_,h,_=>by simp[A6] at h
theorem yc{C:Ctx}: ∀(l:List AV) (fs:List Field) (s:Src) (o:Nat),IF C.P l fs=true->ML C l s o->dI C.P l fs
 |[],[],_,_,_,_=>by simp[dI]
 |[],_::_,_,_,h,_=>by simp[IF] at h
 |_::_,[],_,_,h,_=>by simp[IF] at h
 |a::l,f::fs,s,o,h,hm=>by
  simp only[IF,aa3] at h
  simp only[ML] at hm
  simp only[dI]
  exact⟨jg a f.type s o h.1 hm.1,yc l fs s _ h.2 hm.2⟩
end
theorem sM{C:Ctx}(hI:Inv C): ∀(d:Nat) (T:TypeId) (cs r:List Value) (a:AV),mz C.P d T cs=some (a,r)->
  ∃pre,cs=pre++r/\pre.length=wid a/\M C a (fun j=>pre[j]?) 0
 |0,_,_,_,_,h=>by simp[mz] at h
 | d +1,T,cs,r,a,h=>by
  simp only[mz] at h
  split at h
  ·rename_i fs hfs
   split at h
   ·rename_i l r' hz
    simp only[aa5,ab1] at h
    obtain⟨rfl,rfl⟩:=h
    obtain⟨pre,h1,h2,h3⟩:=zfields_spec hI d fs.toList cs _ l hz
    exact⟨pre,h1,by simpa[wid] using h2,by simpa[M] using h3⟩
   ·simp at h
  ·simp at h
  ·split at h
   ·rename_i v r'
    split at h
    ·rename_i hv
     simp only[aa5,ab1] at h
     obtain⟨rfl,rfl⟩:=h
     exact⟨[v],rfl,by simp[wid],by simp[M];exact hv⟩
    ·simp at h
   ·simp at h
  ·simp at h
where
 zfields_spec {C:Ctx} (hI:Inv C) (d:Nat): ∀(fs:List Field) (cs r:List Value) (l:List AV),mz.zfields (mz C.P d) fs cs=some (l,r)->
   ∃pre,cs=pre++r/\pre.length=eU l/\ML C l (fun j=>pre[j]?) 0
  |[],cs,r,l,h=>by
   simp only[mz.zfields,aa5,ab1] at h
   obtain⟨rfl,rfl⟩:=h
   exact⟨[],rfl,by simp[eU],by simp[ML]⟩
  | f::fs,cs,r,l,h=>by
   simp only[mz.zfields] at h
   split at h
   ·rename_i a r1 hz1
    split at h
    ·rename_i l1 r2 hz2
     simp only[aa5,ab1] at h
     obtain⟨rfl,rfl⟩:=h
     obtain⟨pre,h1,h2,h3⟩:=sM hI d f.type cs r1 a hz1
     obtain⟨pre',h4,h5,h6⟩:=zfields_spec hI d fs r1 _ l1 hz2
     refine⟨pre++pre',by rw[h1,h4,List.append_assoc],by simp[eU,h2,h5],?_⟩
     simp only[ML]
     refine⟨jS hI (fun j hj=>?_) h3,ML_shift hI h6 (fun j hj=>?_)⟩
     ·simp only[Nat.zero_add];rw[List.getElem?_append_left (by omega)]
     ·simp only[Nat.zero_add];rw[List.getElem?_append_right (by omega)];congr 1;omega
    ·simp at h
   ·simp at h
 ML_shift {C:Ctx} (hI:Inv C) {l:List AV} {s s':Src} {o o':Nat} (h:ML C l s o) (hs: ∀j,j<eU l->s' (o'+j)=s (o+j)):ML C l s' o':=by
  have:=jS (a:= .agg l) hI (s:=s) (s':=s') (o:=o) (o':=o') (by simpa[wid] using hs) (by simpa[M] using h)
  simpa[M] using this
theorem dU{C:Ctx}(hI:Inv C){T:TypeId}{z:AV}(h:gT C.P T=some z):
  ∃i zv,C.P.info? T=some i/\i.zero=some zv/\Rel C z zv/\A6 C.P z T=true/\bG C.P z T:=by
 unfold gT at h
 split at h
 ·rename_i i hi
  split at h
  ·rename_i cs hz
   split at h
   ·rename_i l hzc
    split at h
    ·rename_i hc
     simp only[aa3] at hc
     simp only[aa5] at h;subst h
     obtain⟨pre,h1,h2,h3⟩:=sM hI cn T _ _ _ hzc
     simp only[List.append_nil] at h1
     have hr:Rel C (.agg l) (.agg cs):=by
      refine oZ hI h3 ?_ (fun j hj=>?_)
      ·rw[←h2,←h1];simp
      ·simp[←h1]
     exact⟨i,_,hi,hz,hr,hc.2,jg _ _ _ _ hc.2 hr.2.2⟩
    ·simp at h
   ·simp at h
  ·rename_i v hno hz
   split at h
   ·simp at h
   ·rename_i hc
    simp only[ab7,Bool.not_eq_true',not_or,Bool.not_eq_true,Bool.not_eq_false] at hc
    simp only[aa5] at h;subst h
    have hr:Rel C (.lit v) v:=bh hc.1.2
    exact⟨i,v,hi,hz,hr,hc.2,jg _ _ _ _ hc.2 hr.2.2⟩
  ·simp at h
 ·simp at h
theorem jK{P:Program}{w:World}{T:TypeId}{i:TypeInfo}{zv:Value}(hi:P.info? T=some i)(hz:i.zero=some zv):(zeroValue T).run P w= .ok zv w:=by
 simp[zeroValue,typeInfo,hi,hz]
theorem zc{a b:ByteArray}(h:(a==b)=true):a=b:=by
 cases a;cases b
 exact congrArg ByteArray.mk (eq_of_beq h)
theorem CQ{a b:Value}(h:dn a b=true):a=b:=by
 unfold dn at h
 split at h
 ·simp_all
 ·rw[zc h]
 ·simp_all
 ·simp at h
theorem pw{P:Program}{K:TypeId}{d:TypeDesc}(hK:P.underlying K=some d){a b:Value}(ha:plainKey P K a=true)(hb:plainKey P K b=true):
  Instr.sameNow d a b=some (dn a b):=by
 unfold plainKey at ha hb
 rw[hK] at ha hb
 cases a<;>simp at ha<;>cases d<;>simp at ha<;>cases b<;>simp at hb
 ·simp[Instr.sameNow,dn]
 ·subst ha;subst hb;simp[Instr.sameNow,dn]
 ·simp[Instr.sameNow,dn]
theorem findNow_spec{C:Ctx}{K V:TypeId}{d:TypeDesc}(hK:C.P.underlying K=some d){kv:Value}(hkv:plainKey C.P K kv=true)(z:AV):
  ∀(es:List (Value×AV)) (ents:List MapEntry) (i:Nat),ct C V es ents->(∀e,e∈ents->plainKey C.P K e.key=true)->
   (rC es kv=false/\dt es kv z=z/\Instr.findNow d kv ents i=some none)\/
   (rC es kv=true/\∃j e,ents[j]? =some e/\e.key=kv/\Instr.findNow d kv ents i=some (some (i+j,e.val))/\Rel C (dt es kv z) e.val/\bG C.P (dt es kv z) V)
 |[],[],i,_,_=> .inl ⟨rfl,rfl,rfl⟩
 |[],_::_,_,h,_=>by simp[ct] at h
 |_::_,[],_,h,_=>by simp[ct] at h
 | (k,a)::es,e::ents,i,h,hp=>by
  simp only[ct] at h
  obtain⟨h1,h2,h3,h4⟩:=h
  have hs:=pw hK hkv (hp e (by simp))
  rw[h1] at hs
  cases hke:dn kv k with
  |true=>
   right
   refine⟨by simp[rC,hke],0,e,rfl,by rw[h1];exact(CQ hke).symm,by simp[Instr.findNow,h1,hs,hke],by simpa[dt,hke] using h3,by simpa[dt,hke] using h2⟩
  | false=>
   rcases findNow_spec hK hkv z es ents (i+1) h4 (fun e he=>hp e (by simp[he])) with⟨g1,g2,g3⟩|⟨g1,j,e',g2,g3,g4,g5,g6⟩
   ·left
    exact⟨by simp[rC,hke,g1],by simp[dt,hke,g2],by simp[Instr.findNow,h1,hs,hke,g3]⟩
   ·right
    exact⟨by simp[rC,g1],j+1,e',by simpa using g2,g3,by simp[Instr.findNow,h1,hs,hke,g4];omega,by simpa[dt,hke] using g5,by simpa[dt,hke] using g6⟩
theorem fy{P:Program}{K:TypeId}{kv:Value}(h:plainKey P K kv=true): ∃d,P.underlying K=some d/\(match d with| .int _| .string| .bool=>True|_=>False):=by
 unfold plainKey at h
 cases kv<;>simp at h<;>split at h<;>simp_all
theorem run_checkKey{P:Program}{w:World}{K:TypeId}{kv:Value}(h:plainKey P K kv=true)(b:Bool)(n:Nat):(Instr.checkKey b (n+1) K kv).run P w= .ok () w:=by
 obtain⟨d,hd,h2⟩:=fy h
 unfold plainKey at h
 rw[hd] at h
 cases kv<;>simp at h<;>cases d<;>simp at h h2<;>simp[Instr.checkKey,run_underlying hd]
theorem run_getObj_map{P:Program}{w:World}{b:Nat}{es:Array MapEntry}{c:Nat}(h:w.heap[b]? =some (.map es c)):(getObj b).run P w= .ok (.map es c) w:=by
 simp[getObj,Sem.run,h]
theorem mH{C:Ctx}(hI:Inv C){i:Nat}(hi:i<C.st.length){K V:TypeId}{es:List (Value×AV)}(h:az C.st i= .map K V es):
  ∃entries clock,C.w.heap[(C.ι i).block]? =some (.map entries clock)/\ct C V es entries.toList/\ly C.P K entries.toList clock:=by
 have:=hI.obj i hi
 rw[h] at this
 exact this.2
theorem eP{C:Ctx}(hI:Inv C){T:TypeId}{a:AV}{v:Value}(ht:bG C.P a T)(hr:Rel C a v):Rel C (expand C.P cn T a) v/\bG C.P (expand C.P cn T a) T:=by
 obtain⟨h1,h2⟩:=ml hI.lay cn T a _ _ ht hr.2.2
 have hj:a≠ .cP:=by intro e;subst e;simp[bG] at ht
 have hag:b9 (expand C.P cn T a)=b9 a:=by
  cases hu:C.P.underlying T with
  |none=>cases a<;>simp[bG,hu] at ht
  |some d=>
   cases d<;>cases a<;>simp[bG,hu] at ht<;>simp[expand,cn,hu,b9]
 refine⟨⟨.inl (by rw[hag];exact hr.1.resolve_right hj), .inl ?_,h1⟩,h2⟩
 rw[dD hI.lay _ _ h2,←dD hI.lay _ _ ht]
 exact hr.2.1.resolve_right hj
end Go.Dn
