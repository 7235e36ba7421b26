import Derived.Test.YtioeffnadipbaaaGreatDoorDnG
namespace Go.Dn
open Go
theorem mX: ∀(l:List Field) (j:Nat),mA l j=l[j]?
 |[],_=>by simp[mA]
 |_::_,0=>by simp[mA]
 |_::l,j+1=>by simp[mA,mX l j]
theorem m9{P:Program}{T:TypeId}{j:Nat}{fd:Field}(h:mA (fieldsOf P T) j=some fd):
  ∃fs,P.underlying T=some (.struct fs)/\fs[j]? =some fd:=by
 unfold fieldsOf at h
 grind [mX,mA]
theorem Dq{P:Program}{T:TypeId}(h:P.cellsOf T≠0): ∃i,P.info? T=some i/\i.size=P.cellsOf T:=by
 unfold Program.cellsOf at h⊢
 cases hi:P.info? T with
 |none=>simp[hi] at h
 |some i=>exact⟨i,rfl,by simp⟩
theorem AU{P:Program}{w:World}{T:TypeId}(h:P.cellsOf T≠0):(sizeOf T).run P w= .ok (P.cellsOf T) w:=by
 obtain⟨i,hi,hs⟩:=Dq h
 simp[sizeOf,typeInfo,hi,hs]
theorem AS{C:Ctx}{i k off:Nat}{v:Value}(hl:kq C.st i=true)(hp:oZ C i k off v): ∃b o,v= .pointer (some ⟨b,o,none⟩):=by
 unfold kq at hl
 cases hx:an C.st i with
 |box Tb a=>obtain⟨_,rfl⟩:=hp.2.1 Tb a hx;exact⟨_,_,rfl⟩
 |row T0 xs=>obtain⟨_,rfl⟩:=hp.1 T0 xs (by rw[hx];rfl);exact⟨_,_,rfl⟩
 |kC T0 xs=>obtain⟨_,rfl⟩:=hp.1 T0 xs (by rw[hx];rfl);exact⟨_,_,rfl⟩
 |dead=>simp[hx] at hl
 |map _ _ _=>simp[hx] at hl
 |loop _=>simp[hx] at hl
 |iter _ _ _=>simp[hx] at hl
 |ext _=>simp[hx] at hl
 |dq _ _=>simp[hx] at hl
 |rows _ _ _ _=>simp[hx] at hl
 |fit _ _ _ _ _=>simp[hx] at hl
theorem td{C:Ctx}(hI:Inv C){T:TypeId}{p x:AV}{f:Nat}{c:Bool}{vp:Value}(h:gr C.P C.st T p f=some (c,x))(hr:Rel C p vp):
  ∃v,(Instr.fieldAt T vp f).run C.P C.w= .ok v C.w/\Rel C x v:=by
 unfold gr at h
 split at h
 ·simp at h
 rename_i fd hfd
 obtain⟨fs,hfs,hf⟩:=m9 hfd
 split at h
 ·simp at h
 rename_i hz
 have hsz:=AU (P:=C.P) (w:=C.w) hz
 have run: ∀b o,(Instr.fieldAt T (.pointer (some ⟨b,o,none⟩)) f).run C.P C.w= .ok (.pointer (some ⟨b,o+fd.offset,none⟩)) C.w:=by
  intro b o
  simp[Instr.fieldAt,run_underlying hfs,hf,Instr.sureAddr,fieldPlace,hsz,hz,eg]
 split at h
 ·rename_i i k path off
  split at h
  ·rename_i hlive
   simp only[aa3,aa9] at h
   obtain⟨_,rfl⟩:=h
   obtain⟨hi,hp⟩:=mz hr
   obtain⟨b,o,rfl⟩:=AS hlive hp
   refine⟨_,run b o,dV rfl rfl ?_ hI⟩
   simp only[M]
   refine⟨hi,_,rfl,rfl,fun T0 xs hx=>?_,fun T0 a hx=>?_,fun _ _ _ hx=>(by simp[kq,hx] at hlive),fun _ _ hx=>(by simp[kq,hx] at hlive),fun _ _ _ _ _ hx=>(by simp[kq,hx] at hlive),fun _ _ _ _ hx=>(by simp[kq,hx] at hlive)⟩
   ·obtain⟨h1,h2⟩:=hp.1 T0 xs hx
    simp only[Value.pointer.injEq,aa3,Addr.mk.injEq] at h2⊢
    exact⟨h1,h2.1,by omega,trivial⟩
   ·obtain⟨h1,h2⟩:=hp.2.1 T0 a hx
    simp only[Value.pointer.injEq,aa3,Addr.mk.injEq] at h2⊢
    exact⟨h1,h2.1,by omega,trivial⟩
  ·simp at h
 ·rename_i T0 a
  split at h
  ·rename_i l hl
   split at h
   ·rename_i hc
    simp only[aa1,aa0,beq_iff_eq] at hc
    obtain⟨⟨rfl,h2⟩,h3⟩:=hc
    simp only[aa3,aa9] at h
    obtain⟨_,rfl⟩:=h
    obtain⟨b,off,rfl,hX,ht,hm⟩:=yE hr
    obtain⟨hE,hTE⟩:=lN hI.lay bX T0 _ _ _ ht hm
    rw[hl] at hE hTE
    refine⟨_,run b off,dV rfl rfl ?_ hI⟩
    simp only[M]
    simp only[br] at hTE
    obtain⟨fs',⟨h4,_⟩,h5⟩:=hTE
    rw[hfs] at h4
    simp only[aa3,TypeDesc.struct.injEq] at h4
    subst h4
    have hfd':mA fs.toList f=some fd:=by rw[mX];simpa using hf
    obtain⟨_,h6⟩:=xw l fs.toList f fd h5 hfd'
    have h7:=BI l f _ off h2 (by simpa[M] using hE)
    rw[h3] at h7
    exact⟨b,off+fd.offset,rfl,hX,h6,h7⟩
   ·simp at h
  ·simp at h
 ·simp at h
theorem l7{C:Ctx}{a:AV}{k:IntKind}{n:Int}{v:Value}(h:ND a=some (k,n))(hr:Rel C a v):v= .int k n:=by
 unfold ND at h
 grind [aH]
theorem Ai{C:Ctx}{T:TypeId}{p i x:AV}{vp vi:Value}(h:Cx C.P T p i=some (true,x))(hr:Rel C p vp)(hri:Rel C i vi):
  ∃v,(Instr.index T vp vi).run C.P C.w= .ok v C.w/\Rel C x v:=by
 unfold Cx at h
 split at h
 ·rename_i s k n hT hn
  have:=l7 hn hri;subst this
  have:=aH hr;subst this
  simp only[aa3,aa9,aa1,aa0] at h
  obtain⟨⟨h1,h2⟩,rfl⟩:=h
  have hlt:n.toNat<s.size:=by omega
  have hb:s[n.toNat]? =some s[n.toNat]:=getElem?_pos s n.toNat hlt
  refine⟨.int .u8 (CT s n.toNat),?_,aQ rfl⟩
  simp only[Instr.index,Sem.run_bind,asIntOf,Sem.run_pure,Result.andThen_ok,run_underlying hT,if_pos h1,CT,hb]
 ·cases h
theorem s6{C:Ctx}(hI:Inv C){s:S}(hs:C.st=s.st){T:TypeId}{p i x:AV}{vp vi:Value}(h:gf C.P s T p i=some (true,x))(hr:Rel C p vp)(hri:Rel C i vi):
  ∃v,(Instr.indexAt T vp vi).run C.P C.w= .ok v C.w/\Rel C x v:=by
 unfold gf at h
 split at h
 ·rename_i E k n hT hn
  have:=l7 hn hri;subst this
  split at h
  ·rename_i E' l
   split at h
   ·rename_i hE
    obtain⟨rfl,hu⟩:=hE
    simp only[aa3,aa9,aa1,aa0] at h
    obtain⟨⟨h0,h1⟩,rfl⟩:=h
    obtain⟨hpt,q,cap,rfl,hcap,hne⟩:=mm hr
    have hk:n.toNat<l.length:=by omega
    obtain⟨b,off,rfl,hX,hm⟩:=hne (by intro e;subst e;simp at hk)
    have hp:=nF l n.toNat E hk hpt
    have hm':=Bg l n.toNat _ _ _ hk hm
    obtain⟨d,hd⟩:=Option.isSome_iff_exists.1 hu
    have hsz:=run_sizeOf (w:=C.w) hd
    refine⟨.pointer (some ⟨b,off+n.toNat*C.P.cellsOf E,none⟩),?_,dV rfl rfl ?_ hI⟩
    ·simp[Instr.indexAt,asIntOf,run_underlying hT,h0,h1,hsz,eg]
    ·simp only[M]
     exact⟨b,_,rfl,hX,hp,hm'⟩
   ·simp at h
  ·rename_i j lo len
   split at h
   ·rename_i E' xs hel
    split at h
    ·rename_i hE
     obtain⟨rfl,hu⟩:=hE
     simp only[aa3,aa9,aa1,aa0] at h
     obtain⟨⟨h0,h1⟩,rfl⟩:=h
     obtain⟨hj,hsl⟩:=fy hr
     rw[←hs] at hel
     obtain⟨hlen,hv⟩:=hsl.1 E xs hel
     rcases hv with⟨_,_,_,rfl⟩|⟨hnn,cap,q,rfl,hq,hc1,hc2⟩
     ·simp at h1;omega
     ·obtain⟨d,hd⟩:=Option.isSome_iff_exists.1 hu
      have hsz:=run_sizeOf (w:=C.w) hd
      have hq':=hq.resolve_right (by omega)
      subst hq'
      refine⟨.pointer (some ⟨(C.ι j).block,(lo+n.toNat)*C.P.cellsOf E,none⟩),?_,dV rfl rfl ?_ hI⟩
      ·simp[Instr.indexAt,asIntOf,run_underlying hT,h0,h1,hsz,eg,Nat.add_mul]
      ·simp only[M]
       refine⟨hj,_,rfl,rfl,fun T0 ys hx=>?_,fun T0 a hx=>?_,fun _ _ _ hx=>(by rw[hx] at hel;simp[gC] at hel),fun _ _ hx=>(by rw[hx] at hel;simp[gC] at hel),fun _ _ _ _ _ hx=>(by rw[hx] at hel;simp[gC] at hel),fun _ _ _ _ hx=>(by rw[hx] at hel;simp[gC] at hel)⟩
       ·rw[hel] at hx
        simp only[aa3,aa9] at hx
        obtain⟨rfl,rfl⟩:=hx
        exact⟨by omega,rfl⟩
       ·rw[hx] at hel;simp[gC] at hel
    ·simp at h
   ·rename_i hel
    split at h
    ·rename_i E' E2 ls pd hst
     split at h
     ·rename_i hE
      obtain⟨rfl,hu,hce⟩:=hE
      simp only[aa3,aa9,aa1,aa0] at h
      obtain⟨⟨h0,h1⟩,rfl⟩:=h
      obtain⟨hj,hsl⟩:=fy hr
      rw[←hs] at hst
      obtain⟨hlen,cap,rfl,hcap⟩:=hsl.2 _ _ _ _ hst
      obtain⟨d,hd⟩:=Option.isSome_iff_exists.1 hu
      have hsz:=run_sizeOf (w:=C.w) hd
      refine⟨.pointer (some ⟨(C.ι j).block,n.toNat,none⟩),?_,dV rfl rfl ?_ hI⟩
      ·simp[Instr.indexAt,asIntOf,run_underlying hT,h0,h1,hsz,eg,hce]
      ·simp only[M]
       refine⟨hj,_,rfl,rfl,fun T0 ys hx=>(by rw[hst] at hx;simp[gC] at hx),fun T0 a hx=>(by rw[hst] at hx;cases hx),fun _ _ _ hx=>(by rw[hst] at hx;cases hx),fun _ _ hx=>(by rw[hst] at hx;cases hx),fun _ _ _ _ _ hx=>(by rw[hst] at hx;cases hx),fun T0 E0 l0 p0 hx=>?_⟩
       rw[hst] at hx
       cases hx
       exact⟨by omega,rfl,rfl⟩
     ·simp at h
    ·simp at h
  ·simp at h
 ·rename_i len E k n hT hn
  have:=l7 hn hri;subst this
  split at h
  ·rename_i g off
   split at h
   ·rename_i hE
    obtain⟨hu,hce⟩:=hE
    simp only[aa3,aa9,aa1,aa0] at h
    obtain⟨⟨h0,h1⟩,rfl⟩:=h
    have:=aH hr;subst this
    obtain⟨d,hd⟩:=Option.isSome_iff_exists.1 hu
    have hsz:=run_sizeOf (w:=C.w) hd
    refine⟨.pointer (some ⟨g,off+n.toNat,none⟩),?_,aQ rfl⟩
    simp[Instr.indexAt,Instr.sureAddr,asIntOf,run_underlying hT,h0,h1,hsz,eg,hce]
   ·simp at h
  ·simp at h
 ·simp at h
theorem sq{C:Ctx}{s:S}{a:Act}(hs:db C s a){o:Option Operand}{d:Nat}{n:Int}(h:fG s o d=some n):
  (o=none/\n=d)\/ ∃x k,o=some x/\a.eval x= .int k n:=by
 unfold fG at h
 cases o with
 |none=>grind
 |some x=>
  simp only[Option.map_eq_some_iff] at h
  obtain⟨⟨k,m⟩,h1,rfl⟩:=h
  exact .inr ⟨x,k,rfl,l7 h1 (bm hs x)⟩
theorem gY{P:Program}{w:World}{isS:Bool}{len cap:Nat}{lo hi:Option Value}{l h:Int}(hlo:(lo=none/\l=0)\/ ∃k,lo=some (.int k l))(hhi:(hi=none/\h=len)\/ ∃k,hi=some (.int k h))
  (h1:0<=l) (h2:l<=h) (h3:h<=cap):(Instr.sliceBounds isS len cap lo hi none).run P w= .ok (l.toNat,h.toNat,cap) w:=by
 rcases hlo with⟨rfl,rfl⟩|⟨k,rfl⟩<;>rcases hhi with⟨rfl,rfl⟩|⟨k',rfl⟩
 ·simp[Instr.sliceBounds]
 ·simp[Instr.sliceBounds,Instr.sliceBound,asIntOf,h3,show 0<=h by omega]
 ·simp[Instr.sliceBounds,Instr.sliceBound,asIntOf,h1,h2]
 ·obtain⟨m,rfl⟩:=Int.eq_ofNat_of_zero_le (show 0<=h by omega)
  simp[Instr.sliceBounds,Instr.sliceBound,asIntOf,h1,h2,show m<=cap by omega]
theorem iW{P:Program}{T:TypeId}: ∀(l:List AV) (n:Nat),bC P l T->bC P (l.take n) T
 |_,0,_=>by simp[bC]
 |[],_+1,_=>by simp[bC]
 |a::l,n+1,h=>by simp only[bC] at h;simpa[bC] using⟨h.1,iW l n h.2⟩
theorem j6{P:Program}{T:TypeId}: ∀(l:List AV) (n:Nat),bC P l T->bC P (l.drop n) T
 |_,0,h=>by simpa using h
 |[],_+1,_=>by simp[bC]
 |a::l,n+1,h=>by simp only[bC] at h;simpa using j6 l n h.2
theorem qf{C:Ctx}: ∀(l:List AV) (n z:Nat) (s:Src) (o:Nat),MR C l z s o->MR C (l.take n) z s o
 |_,0,_,_,_,_=>by simp[MR]
 |[],_+1,_,_,_,_=>by simp[MR]
 |a::l,n+1,z,s,o,h=>by simp only[MR] at h;simpa[MR] using⟨h.1,qf l n z s _ h.2⟩
theorem tB{C:Ctx}: ∀(l:List AV) (n z:Nat) (s:Src) (o:Nat),MR C l z s o->MR C (l.drop n) z s (o+n*z)
 |_,0,_,_,_,h=>by simpa using h
 |[],_+1,_,_,_,_=>by simp[MR]
 |a::l,n+1,z,s,o,h=>by
  simp only[MR] at h
  have:=tB l n z s (o+z) h.2
  simp only[List.drop_succ_cons]
  rwa [show o+(n+1)*z=o+z+n*z by rw[Nat.add_mul];omega]
theorem tj{st:List Obj}{i:Nat}{T:TypeId}{xs:List AV}(h:gC (an st i)=some (T,xs)){p:TypeId->TypeId->List (List Value)->Option Nat->Prop}: ∀T E ls pd,an st i= .rows T E ls pd->p T E ls pd:=
 fun _ _ _ _ hx=>by rw[hx] at h;simp[gC] at h
theorem Ag{C:Ctx}(hI:Inv C){s:S}{a:Act}(hs:db C s a){T:TypeId}{p x:AV}{lo hi:Option Operand}{vp:Value}(h:pK C.P s T p lo hi=some (true,x))(hr:Rel C p vp):
  ∃v,(Instr.sliceAt T vp (lo.map a.eval) (hi.map a.eval) none).run C.P C.w= .ok v C.w/\Rel C x v:=by
 have lom: ∀{n:Int},fG s lo 0=some n->((lo.map a.eval)=none/\n=0)\/ ∃k,lo.map a.eval=some (.int k n):=by
  intro n hb
  rcases sq hs hb with⟨h1,h2⟩|⟨x,k,h1,h2⟩
  ·exact .inl ⟨by simp[h1],by simpa using h2⟩
  ·exact .inr ⟨k,by simp[h1,h2]⟩
 have him: ∀{n:Int} {d:Nat},fG s hi d=some n->((hi.map a.eval)=none/\n=d)\/ ∃k,hi.map a.eval=some (.int k n):=by
  intro n d hb
  rcases sq hs hb with⟨h1,h2⟩|⟨x,k,h1,h2⟩
  ·exact .inl ⟨by simp[h1],h2⟩
  ·exact .inr ⟨k,by simp[h1,h2]⟩
 unfold pK at h
 split at h
 ·rename_i b
  split at h
  ·rename_i l hh hT hlo hhi
   simp only[aa3,aa9,aa1,aa0] at h
   obtain⟨⟨⟨h1,h2⟩,h3⟩,rfl⟩:=h
   have:=aH hr;subst this
   have hb:=gY (P:=C.P) (w:=C.w) (isS:=false) (lom hlo) (him hhi) h1 h2 h3
   exact⟨_,by simp[Instr.sliceAt,Instr.slice,run_underlying hT,hb],aQ rfl⟩
  ·simp at h
 ·rename_i E l0
  split at h
  ·rename_i E' l hh hT hlo hhi
   split at h
   ·rename_i hE
    obtain⟨rfl,hu⟩:=hE
    simp only[aa3,aa9,aa1,aa0] at h
    obtain⟨⟨⟨h1,h2⟩,h3⟩,rfl⟩:=h
    obtain⟨hpt,q,cap,rfl,hcap,hne⟩:=mm hr
    obtain⟨d,hd⟩:=Option.isSome_iff_exists.1 hu
    have hz:=run_sizeOf (w:=C.w) hd
    have hb:=gY (P:=C.P) (w:=C.w) (isS:=true) (cap:=cap) (lom hlo) (him hhi) h1 h2 (by omega)
    have hlen:((l0.take hh.toNat).drop l.toNat).length=hh.toNat - l.toNat:=by simp;omega
    refine⟨.slice (if cap=l.toNat then q else q.map (·.add (l.toNat*C.P.cellsOf E))) (hh.toNat - l.toNat) (cap - l.toNat),by simp[Instr.sliceAt,Instr.slice,run_underlying hT,hb,hz],dV rfl rfl ?_ hI⟩
    simp only[M]
    refine⟨j6 _ _ (iW _ _ hpt),_,_,by rw[hlen],by rw[hlen];omega,fun hne'=>?_⟩
    have hpos:0<hh.toNat - l.toNat:=by
     rw[←hlen];exact List.length_pos_iff.2 hne'
    obtain⟨b,off,rfl,hX,hm⟩:=hne (by intro e;subst e;simp at h3;omega)
    rw[if_neg (by omega)]
    exact⟨b,off+l.toNat*C.P.cellsOf E,by simp[eg],hX,tB _ _ _ _ _ (qf _ _ _ _ _ hm)⟩
   ·simp at h
  ·simp at h
 ·rename_i i lo0 n
  split at h
  ·rename_i E' E xs l hh hT hel hlo hhi
   split at h
   ·rename_i hE
    obtain⟨rfl,hu⟩:=hE
    simp only[aa3,aa9,aa1,aa0] at h
    obtain⟨⟨⟨h1,h2⟩,h3⟩,rfl⟩:=h
    obtain⟨hi',hsl⟩:=fy hr
    obtain⟨d,hd⟩:=Option.isSome_iff_exists.1 hu
    have hz:=run_sizeOf (w:=C.w) hd
    rw[←hs.st] at hel
    obtain⟨hlen,hv⟩:=hsl.1 _ xs hel
    rcases hv with⟨hnil,rfl,rfl,rfl⟩|⟨hnn,cap,q,rfl,hq,hc1,hc2⟩
    ·have hl0:l=0:=by simp at h3;omega
     have hh0:hh=0:=by simp at h3;omega
     subst hl0;subst hh0
     have hb:=gY (P:=C.P) (w:=C.w) (isS:=true) (cap:=0) (lom hlo) (him hhi) h1 h2 (by simp)
     refine⟨.slice none 0 0,by simp[Instr.sliceAt,Instr.slice,run_underlying hT,hb,hz],dV rfl rfl ?_ hI⟩
     simp only[M]
     refine⟨hi',_,rfl,rfl,fun T0 ys hx=>?_,tj hel⟩
     rw[hel] at hx
     simp only[aa3,aa9] at hx
     obtain⟨rfl,rfl⟩:=hx
     exact⟨by simp, .inl ⟨hnil,rfl,by simp,by simp⟩⟩
    ·have hb:=gY (P:=C.P) (w:=C.w) (isS:=true) (cap:=cap) (lom hlo) (him hhi) h1 h2 (by omega)
     refine⟨.slice (if cap=l.toNat then some q else some (q.add (l.toNat*C.P.cellsOf E))) (hh.toNat - l.toNat) (cap - l.toNat),by simp[Instr.sliceAt,Instr.slice,run_underlying hT,hb,hz],dV rfl rfl ?_ hI⟩
     simp only[M]
     refine⟨hi',_,rfl,rfl,fun T0 ys hx=>?_,tj hel⟩
     rw[hel] at hx
     simp only[aa3,aa9] at hx
     obtain⟨rfl,rfl⟩:=hx
     have e1:hh.toNat - l.toNat=(hh - l).toNat:=by omega
     refine⟨by omega, .inr ⟨hnn,cap - l.toNat,_,by rw[←apply_ite some,e1],?_,by omega,by omega⟩⟩
     by_cases hml:cap=l.toNat
     ·rw[if_pos hml]
      by_cases hl0:l.toNat=0
      ·rcases hq with rfl|⟨_,h⟩
       ·left;simp[hl0]
       ·right;exact⟨by omega,by omega⟩
      ·right;exact⟨by omega,by omega⟩
     ·rw[if_neg hml]
      left
      have hq':=hq.resolve_right (by omega)
      rw[hq',eg,Nat.add_mul]
   ·simp at h
  ·simp at h
 ·simp at h
theorem AR{C:Ctx}{s:S}{a:Act}(hs:db C s a){o:Option Operand}{n:Int}(h:uq s o=some n): ∃x k,o=some x/\a.eval x= .int k n:=by
 cases o with
 |none=>cases h
 |some x=>
  simp only[uq,Option.map_eq_some_iff] at h
  obtain⟨⟨k,m⟩,h1,rfl⟩:=h
  exact⟨x,k,rfl,l7 h1 (bm hs x)⟩
theorem Aa{C:Ctx}(hI:Inv C){s:S}{a:Act}(hs:db C s a){T:TypeId}{p x:AV}{lo hi:Option Operand}{m:Operand}{vp:Value}(h:lZ C.P s T p lo hi m=some (true,x))(hr:Rel C p vp):
  ∃v,(Instr.sliceAt T vp (lo.map a.eval) (hi.map a.eval) (some (a.eval m))).run C.P C.w= .ok v C.w/\Rel C x v:=by
 unfold lZ at h
 split at h
 ·rename_i i n
  split at h
  ·rename_i E' E xs hh mx hT hel hhi hmx
   split at h
   ·rename_i hE
    obtain⟨rfl,hu⟩:=hE
    simp only[aa3,aa9,aa1,aa0] at h
    obtain⟨⟨⟨h1,h2⟩,h3⟩,rfl⟩:=h
    obtain⟨hx,k0,rfl,heh⟩:=AR hs hhi
    obtain⟨m',k,e,hem⟩:=AR hs hmx
    cases e
    obtain⟨hi',hsl⟩:=fy hr
    obtain⟨d,hd⟩:=Option.isSome_iff_exists.1 hu
    have hz:=run_sizeOf (w:=C.w) hd
    rw[←hs.st] at hel
    obtain⟨hlen,hv⟩:=hsl.1 _ xs hel
    obtain⟨mn,rfl⟩:=Int.eq_ofNat_of_zero_le (show 0<=mx by omega)
    obtain⟨hn,rfl⟩:=Int.eq_ofNat_of_zero_le h1
    have bounds: ∀cap,n<=cap->(Instr.sliceBounds true n cap none (some (.int k0 hn)) (some (.int k mn))).run C.P C.w= .ok (0,hn,mn) C.w:=fun cap hc=>by
     simp[Instr.sliceBounds,Instr.sliceBound,asIntOf,show mn<=cap by omega,show hn<=mn by omega]
    rcases hv with⟨hnil,rfl,_,rfl⟩|⟨hnn,cap,q,rfl,hq,hc1,hc2⟩
    ·obtain rfl:mn=0:=by omega
     obtain rfl:hn=0:=by omega
     refine⟨.slice none 0 0,?_,dV rfl rfl ?_ hI⟩
     ·simp only[Option.map_none,Option.map_some,heh,hem]
      have b0:=bounds 0 (Nat.le_refl _)
      simp only[Int.natCast_zero] at b0⊢
      simp[Instr.sliceAt,Instr.slice,run_underlying hT,hz,b0]
     ·simp only[M]
      refine⟨hi',_,rfl,rfl,fun T0 ys hx=>?_,tj hel⟩
      rw[hel] at hx
      simp only[aa3,aa9] at hx
      obtain⟨rfl,rfl⟩:=hx
      exact⟨by simp, .inl ⟨hnil,rfl,rfl,by simp⟩⟩
    ·have hq':q=⟨(C.ι i).block,0,none⟩:=by
      rcases hq with h|⟨_,h⟩
      ·simpa using h
      ·omega
     subst hq'
     refine⟨.slice (some ⟨(C.ι i).block,0,none⟩) hn mn,?_,dV rfl rfl ?_ hI⟩
     ·simp only[Option.map_none,Option.map_some,heh,hem]
      simp[Instr.sliceAt,Instr.slice,run_underlying hT,hz,bounds cap hc1,eg]
     ·simp only[M]
      refine⟨hi',_,rfl,rfl,fun T0 ys hx=>?_,tj hel⟩
      rw[hel] at hx
      simp only[aa3,aa9] at hx
      obtain⟨rfl,rfl⟩:=hx
      exact⟨by simp only[Int.toNat_natCast];omega, .inr ⟨hnn,mn,⟨(C.ι i).block,0,none⟩,rfl, .inl (by simp),by simp only[Int.toNat_natCast];omega,by omega⟩⟩
   ·simp at h
  ·simp at h
 ·simp at h
end Go.Dn
