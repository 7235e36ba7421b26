import Derived.Test.YthaiinlfnommnaaGreatDoorDbME
import Derived.Test.YthaiinlfnommnaaGreatDoorDbMA
namespace Go.Proofs.YthaiinlfnommnaaGreatDoor
open Go Go.Dn Go.Rl Go.Proofs
theorem BK{gs:List (List Int)}(h:gs.flatten.Nodup){i j:Nat}(hi:i<gs.length)(hj:j<gs.length){c:Int}(h1:c∈gs[i])(h2:c∈gs[j]):i=j:=by
 have h3:=(List.pairwise_flatten.1 h).2
 rw[List.pairwise_iff_getElem] at h3
 rcases Nat.lt_trichotomy i j with e|e|e
 ·exact absurd rfl (h3 i j hi hj e c h1 c h2)
 ·exact e
 ·exact absurd rfl (h3 j i hj hi e c h2 c h1)
theorem O5(ds:List AV)(r:AV):(A5 ds r).rel=uq ds r:=rfl
theorem R8{ds rs:List AV}{g:List Int}{l:List AV}{x:QD}(h:x∈xj ds rs g l):x.rel∈g:=by
 obtain⟨r,_,h2,_,rfl⟩:=uf h
 exact h2
theorem QE{ds rs:List AV}{g:List Int}{l:List AV}{x:QD}(h:x∈xh ds rs g l):x.rel∈g:=by
 obtain⟨r,_,h2,_,h4⟩:=Ap h
 rw[(qX h4).1]
 exact h2
theorem G1{n m:Nat}{L:Gr}{g:List Int}: ∀(f:Nat) (done:List Int),g∈si n m L f done->∃a:Int,0<=a/\g=fV n m L a
 |0,_,h=>by cases h
 | f+1,done,h=>by
  rw[si] at h
  cases e:decide (eG n m L done<0) with
  |true=>rw[e] at h;cases h
  |false=>
   rw[e,aa7] at h
   rcases List.mem_cons.1 h with rfl|h
   ·exact⟨_,by simpa using e,rfl⟩
   ·exact G1 f _ h
theorem EU{ds rs:List AV}(f:qL ds rs){g:List Int}(hg:g∈jO ds rs){a b:Int}(ha:a∈g)(hb:0<=b/\b<ds.length)(hm:gr ds.length (jm ds rs) (oN ds rs) a b=true):b∈g:=by
 obtain⟨c,h0,rfl⟩:=G1 _ _ hg
 obtain⟨h1,h2⟩:=o7.1 ha
 exact o7.2 ⟨hb,xH f.wg h0 h1.1 hb.1 h2 hm⟩
theorem Db: ∀(n:Nat) {l:List Nat},l.Nodup->(∀x,x∈l->x<n)->l.length<=n
 |0,[],_,_=>Nat.le_refl _
 |0,a::_,_,h=>absurd (h a List.mem_cons_self) (by omega)
 | n+1,l,hn,h=>by
  have h1:=Db n (l:=l.erase n) (hn.erase n) fun x hx=>by
   have h3:=h x (List.mem_of_mem_erase hx)
   have h4:x≠n:=fun e=>hn.not_mem_erase (e▸hx)
   omega
  rcases Classical.em (n∈l) with e|e
  ·rw[List.length_erase_of_mem e] at h1;omega
  ·rw[List.erase_of_not_mem e] at h1;omega
theorem Kx{a:cq}(h:iP (aH a)=true){p:Nat}(hp:p<a.bl.length):p∈bU (aH a):=by
 rcases Classical.em (p∈bU (aH a)) with e|e
 ·exact e
 ·have h1:=Db a.bl.length (l:=p::bU (aH a)) (List.nodup_cons.2 ⟨e,Cy _⟩) fun x hx=>by
   rcases List.mem_cons.1 hx with rfl|hx
   ·exact hp
   ·have:=q8 hx
    rwa [fB] at this
  rw[List.length_cons,kt h] at h1
  omega
theorem Ou(ds bd:List AV)(l:AV)(h:toInt (ae l 0)=1):toInt (ae (P3 (wL ds bd l)) 0)=1/\toInt (ae (P3 (wL ds bd l)) 2)=bD (toStr (ae (ae l 1) 0)) ds:=by
 unfold wL tJ
 rw[h]
 exact⟨rfl,rfl⟩
end Go.Proofs.YthaiinlfnommnaaGreatDoor
namespace Go.Proofs.YthaiinlfnommnaaGreatDoor
open Go Go.Dn Go.Rl Go.Proofs
attribute [local irreducible] bf vc
set_option maxRecDepth 20000
noncomputable def rX(a b:Tm):Bool:= @decide (a=b) (Classical.propDecidable _)
noncomputable def tg(a b:List Tm):Bool:= @decide (a=b) (Classical.propDecidable _)
def DD:List AV->Nat
 |a::_=>(cx a).gu
 |[]=>0
noncomputable def St:List AV->Option (Bool×AV)
 |[.agg [.lit (.int .i64 o1), .lit (.string s1), .lit (.int .i64 n1), .ad 56 l1], .agg [.lit (.int .i64 o2), .lit (.string s2), .lit (.int .i64 n2), .ad 56 l2]]=>some (decide (aO (aa l1)<=100000), .bool (rX (.mk o1 s1 n1 (aa l1)) (.mk o2 s2 n2 (aa l2))))
 |_=>none
def EB.quiet(b:EB)(l:List Nat):EB:=⟨{b.E with quiet:=fun f=>jH f l||b.E.quiet f},⟨b.ok.prog,b.ok.il,b.ok.call,b.ok.lk,b.ok.loop⟩,⟨b.mono.call,b.mono.loop,b.mono.lk⟩⟩
noncomputable def SR(κ:Kp):EB:=EB.quiet (BLi κ) [129,81,82,45,20,19,10,11]
noncomputable def Ai(κ:Kp)(n:Nat):Env:=(SR κ).E.aG 129 (below St DD n)
theorem xSt(κ:Kp)(r:Nat)(a b:AT)(i:Nat)(I:Nat->S->Prop)(n:Nat)(K:Exit->S->Prop):(vc (Ai κ r) 12 129 none 0 (ah (Pr κ).toProgram 129 4) (sp 53 [(2, .ptr 0 0 [] 0),(3, .ptr 1 0 [] 0),(5, .int i)] [.box 56 (cv a), .box 56 (cv b)]) (bL (Ai κ r) 129 4 0 I n K))=(
 letI z1:=Int.toNat (↑i:Int)
 letI z2:=nth a.l z1
 letI z3:=nth b.l z1
 letI z4:=(↑i:Int)<(↑(a.l.length):Int)
 letI z5:=ai (ae z2 3)
 aC (decide z4) (ba (true&&decide z4) (ba (true&&decide ((↑i:Int)<(↑(b.l.length):Int))) (ba (decide (aO (aa z5)<=100000)&&Nat.blt (DD [AV.agg
 [AV.int (toInt (ae z2 0)),AV.str (toStr (ae z2 1)),AV.int (toInt (ae z2 2)),AV.ad 56 z5],AV.agg [AV.int (toInt (ae z3 0)),AV.str (toStr (ae z3 1)),AV.int
 (toInt (ae z3 2)),AV.ad 56 (ai (ae z3 3))]]) r) (aC (!rX (Tm.mk (toInt (ae z2 0)) (toStr (ae z2 1)) (toInt (ae z2 2)) (aa z5)) (Tm.mk (toInt (ae z3 0)) (toStr
 (ae z3 1)) (toInt (ae z3 2)) (aa (ai (ae z3 3))))) (K Exit.ret (sp 53 [(4,AV.bool false)] [])) (∃(e0:Nat),e0<n/\I e0 (sp 53 [(2,AV.ptr 0 0 [] 0),(3,
 AV.ptr 1 0 [] 0),(5,AV.int (IntKind.wrap IntKind.i64 ((↑i:Int)+(1:Int))))] [Obj.box 56 (cv a),Obj.box 56 (cv b)])))))) (K (Exit.exit 0) (sp 53 [] []))):=by kernel_rfl
theorem Mn(a:Tm):rX a a=true:=by unfold rX;simp
theorem uI(a:List Tm):tg a a=true:=by unfold tg;simp
theorem FU:tg [] []=true:=uI []
theorem Ce(a b:Tm)(l m:List Tm):tg (a::l) (b::m)=(rX a b&&tg l m):=by
 unfold tg rX
 rw[Bool.eq_iff_iff,aa3]
 simp
theorem RE(o1 o2:Int)(s1 s2:ByteArray)(n1 n2:Int)(l m:List Tm):rX (.mk o1 s1 n1 l) (.mk o2 s2 n2 m)=(decide (o1=o2)&&(decide (s1=s2)&&(decide (n1=n2)&&tg l m))):=by
 unfold tg rX
 rw[Bool.eq_iff_iff]
 simp
theorem Gm{l m:List Tm}(h:l.length≠m.length):tg l m=false:=by
 unfold tg
 simp
 rintro rfl
 exact h rfl
structure V8 where
 a:AT
 b:AT
 i:Nat
abbrev Re(x:V8):S:=sp 53 [(2, .ptr 0 0 [] 0),(3, .ptr 1 0 [] 0),(5, .int x.i)] [.box 56 (cv x.a), .box 56 (cv x.b)]
def Dv(r:Nat)(x:V8):Prop:=x.a.l.length=x.b.l.length/\aO (aa x.a.l)<=100000/\aO (aa x.a.l)<r/\x.i<=x.a.l.length
noncomputable def Gp(x:V8):Out (Exit×S):= .aC (tg (aa (x.a.l.drop x.i)) (aa (x.b.l.drop x.i))) (.one (.exit 0,sp 53 [] [])) (.one (.ret,sp 53 [(4, .bool false)] []))
theorem Ra(x y:AV):DD [.agg [.int (toInt (ae x 0)), .str (toStr (ae x 1)), .int (toInt (ae x 2)), .ad 56 (ai (ae x 3))],y]=(cx x).gu:=by
 show(cx (.agg [.lit (.int .i64 (toInt (ae x 0))), .lit (.string (toStr (ae x 1))), .lit (.int .i64 (toInt (ae x 2))), .ad 56 (ai (ae x 3))])).gu=_
 rw[iU,←cz]
theorem lSs(κ:Kp)(r:Nat):bk (Ai κ r) 12 129 4 (aP 0 Re (Dv r) Gp):=by
 refine aL (fun x=>x.a.l.length - x.i) ?_
 rintro⟨a,b,i⟩ K ⟨h1,h2,h3,h4⟩ ho
 simp only at h1 h2 h3 h4
 rw[show(Ai κ r).P=Pr κ from rfl]
 refine Eq.mpr (xSt κ r a b i _ _ K) ?_
 simp only[Gp,Out.run,af] at ho
 have hlen:=eB (aa a.l)
 rw[dz] at hlen
 simp only[Int.toNat_natCast,Ra,←cz]
 rw[af,aa2,aa4]
 refine⟨fun h=>?_,fun h=>?_⟩
 ·have hk:i<a.l.length:=by omega
  have hx:nth a.l i∈a.l:=by rw[aZ _ _ hk];exact List.getElem_mem _
  have hc:=tP hx
  have hc2:(cx (nth a.l i)).gu=1+aO (aa (ai (ae (nth a.l i) 3))):=by rw[cz];rfl
  rw[dL a.l i hk,dL b.l i (by omega),Ce] at ho
  refine an.2 ⟨by simp;omega,an.2 ⟨by simp;omega,an.2 ⟨?_,af.2 ⟨fun e=>ho.2 ?_,fun e=>?_⟩⟩⟩⟩
  ·rw[aa3,aa2,Nat.blt_eq];omega
  ·rw[Bool.not_eq_true'] at e
   rw[e,Bool.false_and]
  ·rw[ab4] at e
   rw[e,ac1] at ho
   rw[aW (n:=(i:Int)+1) (by omega) (by omega)]
   refine⟨_,?_,⟨a,b,i+1⟩,rfl,⟨h1,h2,h3,hk⟩,rfl,?_⟩
   ·simp only;omega
   ·simp only[Gp,Out.run,af]
    exact ho
 ·rw[ab0 (by omega),ab0 (by omega)] at ho
  exact ho.1 FU
noncomputable def H9(κ:Kp)(r:Nat):Env:=(Ai κ r).ak 129 4 (aP 0 Re (Dv r) Gp)
theorem ySt(κ:Kp)(r:Nat)(a b:AT)(K:AV->List Dn.Obj->Prop):(bf (H9 κ r) 12 129 [cv a,cv b] [] K)=(
 letI z1:=K (AV.bool false) []
 letI z2:=Pg.toProgram (Env.P (Ai κ r))
 aC (a.op != b.op) z1 (aC (!ByteArray.toList a.s==ByteArray.toList b.s) z1 (aC (a.n != b.n) z1 (aC ((↑(a.l.length):Int) != (↑(b.l.length):Int)) z1 (ah z2
 129 4=ah z2 129 4/\∃(e0:V8),sp 53 [(2,AV.ptr 0 0 [] 0),(3,AV.ptr 1 0 [] 0),(5,AV.int 0)] [Obj.box 56 (cv a),Obj.box 56 (cv b)]=Re e0/\Dv r e0/\
 aC (tg (aa (List.drop e0.i e0.a.l)) (aa (List.drop e0.i e0.b.l))) (K (AV.bool true) []) z1))))):=by kernel_rfl
theorem Yq(κ:Kp)(r:Nat)(hp:gm (Pr κ) 129 (below St DD r)):aD (H9 κ r)/\aj (H9 κ r)/\(H9 κ r).P=Pr κ:=
 have h:aD (Ai κ r):=(SR κ).ok.eo hp
 have hm:aj (Ai κ r):=(SR κ).mono.aG
 ⟨h.ak hm (lSs κ r),hm.ak aI,rfl⟩
theorem pSt(κ:Kp)(r:Nat):cy (H9 κ r) 12 129 (fun xs=>bif Nat.beq (DD xs) r then St xs else none):=by
 intro args x hh
 cases hb:Nat.beq (DD args) r with
 |false=>simp only[hb] at hh;cases hh
 | true=>
  simp only[hb,aa9] at hh
  unfold St at hh
  split at hh
  ·rename_i o1 s1 n1 l1 o2 s2 n2 l2
   simp only[aa5,ab1,aa2] at hh
   obtain⟨h1,rfl⟩:=hh
   have hr:1+aO (aa l1)=r:=by
    have:=Nat.eq_of_beq_eq_true hb
    rw[←this]
    show _=(cx (.agg [.lit (.int .i64 o1), .lit (.string s1), .lit (.int .i64 n1), .ad 56 l1])).gu
    rw[iU];rfl
   refine⟨_,rfl,rfl,?_⟩
   refine Eq.mpr (ySt κ r ⟨o1,s1,n1,l1⟩ ⟨o2,s2,n2,l2⟩ _) ?_
   rw[RE]
   have hse:(ByteArray.toList s1==ByteArray.toList s2)=decide (s1=s2):=by
    have:=Ee s1 s2
    unfold ll at this
    rw[this,Bool.eq_iff_iff];simp
   simp only[hse,af,bne_iff_ne,bne_eq_false_iff_eq]
   refine⟨fun e=>by rw[aa6 e];rfl,fun e=>⟨fun e2=>?_,fun e2=>⟨fun e3=>?_,fun e3=>⟨fun e4=>?_,fun e4=>⟨trivial,⟨⟨o1,s1,n1,l1⟩,⟨o2,s2,n2,l2⟩,0⟩,rfl,⟨by simp only;omega,h1,by simp only;omega,Nat.zero_le _⟩,?_⟩⟩⟩⟩⟩
   ·rw[Bool.not_eq_true'] at e2
    rw[e2,Bool.false_and,Bool.and_false]
   ·rw[aa6 e3,Bool.false_and,Bool.and_false,Bool.and_false]
   ·rw[Gm (by rw[dz,dz];omega)];simp
   ·rw[ab4] at e2
    rw[aa8 e,e2,aa8 e3,ac1,ac1,ac1]
    simp only[ab2]
    exact⟨fun e=>by rw[e],fun e=>by rw[e]⟩
  ·cases hh
theorem qSt(κ:Kp):gm (Pr κ) 129 St:=aD.pZ St DD (H9 κ) (Yq κ) (pSt κ)
noncomputable def Sb(κ:Kp):EB:=⟨(SR κ).E.aG 129 St,(SR κ).ok.eo (qSt κ),(SR κ).mono.aG⟩
theorem xSl(κ:Kp)(l m:List AV)(i:Nat)(I:Nat->S->Prop)(n:Nat)(K:Exit->S->Prop):(vc (Sb κ).E 12 81 none 0 (ah (Pr κ).toProgram 81 4) (sp 29 [(0, .ad 56 l),(1, .ad 56 m),(5, .int i)] []) (bL (Sb κ).E 81 4 0 I n K))=(
 letI z1:=Int.toNat (↑i:Int)
 letI z2:=(↑i:Int)<(↑(l.length):Int)
 letI z3:=aa (ai (ae (nth l z1) 3))
 aC (decide z2) (ba (true&&decide z2) (ba (true&&decide ((↑i:Int)<(↑(m.length):Int))) (ba (decide (aO z3<=100000)) (aC (!rX (Tm.mk (toInt (ae (nth l
 z1) 0)) (toStr (ae (nth l z1) 1)) (toInt (ae (nth l z1) 2)) z3) (Tm.mk (toInt (ae (nth m z1) 0)) (toStr (ae (nth m z1) 1)) (toInt (ae (nth m z1) 2)) (aa (ai (ae
 (nth m z1) 3))))) (K Exit.ret (sp 29 [(4,AV.bool false)] [])) (∃(e0:Nat),e0<n/\I e0 (sp 29 [(0,AV.ad 56 l),(1,AV.ad 56 m),(5,AV.int (IntKind.wrap
 IntKind.i64 ((↑i:Int)+(1:Int))))] [])))))) (K (Exit.exit 0) (sp 29 [] []))):=by kernel_rfl
structure Wn where
 l:List AV
 m:List AV
 i:Nat
abbrev Vf(x:Wn):S:=sp 29 [(0, .ad 56 x.l),(1, .ad 56 x.m),(5, .int x.i)] []
def J8(x:Wn):Prop:=x.l.length=x.m.length/\aO (aa x.l)<=100000/\x.i<=x.l.length
noncomputable def K6(x:Wn):Out (Exit×S):= .aC (tg (aa (x.l.drop x.i)) (aa (x.m.drop x.i))) (.one (.exit 0,sp 29 [] [])) (.one (.ret,sp 29 [(4, .bool false)] []))
theorem lSv(κ:Kp):bk (Sb κ).E 12 81 4 (aP 0 Vf J8 K6):=by
 refine aL (fun x=>x.l.length - x.i) ?_
 rintro⟨l,m,i⟩ K ⟨h1,h2,h4⟩ ho
 simp only at h1 h2 h4
 rw[show(Sb κ).E.P=Pr κ from rfl]
 refine Eq.mpr (xSl κ l m i _ _ K) ?_
 simp only[K6,Out.run,af] at ho
 have hlen:=eB (aa l)
 rw[dz] at hlen
 simp only[Int.toNat_natCast,←cz]
 rw[af,aa2,aa4]
 refine⟨fun h=>?_,fun h=>?_⟩
 ·have hk:i<l.length:=by omega
  have hx:nth l i∈l:=by rw[aZ _ _ hk];exact List.getElem_mem _
  have hc:=tP hx
  have hc2:(cx (nth l i)).gu=1+aO (aa (ai (ae (nth l i) 3))):=by rw[cz];rfl
  rw[dL l i hk,dL m i (by omega),Ce] at ho
  refine an.2 ⟨by simp;omega,an.2 ⟨by simp;omega,an.2 ⟨?_,af.2 ⟨fun e=>ho.2 ?_,fun e=>?_⟩⟩⟩⟩
  ·rw[aa2];omega
  ·rw[Bool.not_eq_true'] at e
   rw[e,Bool.false_and]
  ·rw[ab4] at e
   rw[e,ac1] at ho
   rw[aW (n:=(i:Int)+1) (by omega) (by omega)]
   refine⟨_,?_,⟨l,m,i+1⟩,rfl,⟨h1,h2,hk⟩,rfl,?_⟩
   ·simp only;omega
   ·simp only[K6,Out.run,af]
    exact ho
 ·rw[ab0 (by omega),ab0 (by omega)] at ho
  exact ho.1 FU
noncomputable def YX(κ:Kp):EB:=(Sb κ).loop (lSv κ)
theorem ySv(κ:Kp)(l m:List AV)(K:AV->List Dn.Obj->Prop):(bf (YX κ).E 12 81 [.ad 56 l, .ad 56 m] [] K)=(
 letI z1:=Pg.toProgram (Env.P (EB.E (Sb κ)))
 aC ((↑(l.length):Int) != (↑(m.length):Int)) (K (AV.bool false) []) (ah z1 81 4=ah z1 81 4/\∃(e0:Wn),sp 29 [(0,AV.ad 56 l),(1,AV.ad 56 m),(5,
 AV.int 0)] []=Vf e0/\J8 e0/\aC (tg (aa (List.drop e0.i e0.l)) (aa (List.drop e0.i e0.m))) (K (AV.bool true) []) (K (AV.bool false) []))):=by kernel_rfl
noncomputable def Z5:List AV->Option (Bool×AV)
 |[.ad 56 l, .ad 56 m]=>some (decide (aO (aa l)<=100000), .bool (tg (aa l) (aa m)))
 |_=>none
theorem pSv(κ:Kp):cy (YX κ).E 12 81 Z5:=by
 intro args x hh
 unfold Z5 at hh
 split at hh
 ·rename_i l m
  simp only[aa5,ab1,aa2] at hh
  obtain⟨h1,rfl⟩:=hh
  refine⟨_,rfl,rfl,?_⟩
  refine Eq.mpr (ySv κ l m _) ?_
  simp only[af,bne_iff_ne,bne_eq_false_iff_eq]
  refine⟨fun e=>by rw[Gm (by rw[dz,dz];omega)],fun e=>⟨trivial,⟨l,m,0⟩,rfl,⟨by simp only;omega,h1,Nat.zero_le _⟩,?_⟩⟩
  simp only[ab2]
  exact⟨fun e=>by rw[e],fun e=>by rw[e]⟩
 ·cases hh
noncomputable def RR(κ:Kp):EB:=(YX κ).pure (pSv κ)
theorem xST(κ:Kp)(l m:List AV)(i:Int)(I:Nat->S->Prop)(n:Nat)(K:Exit->S->Prop):(vc (RR κ).E 12 130 none 0 (ah (Pr κ).toProgram 130 4) (sp 26 [(0, .ad 9 l),(1, .ad 9 m),(5, .int i)] []) (bL (RR κ).E 130 4 0 I n K))=(
 letI z1:=i<(↑(l.length):Int)
 aC (decide z1) (ba (decide ((0:Int)<=i)&&decide z1) (ba (decide ((0:Int)<=i)&&decide (i<(↑(m.length):Int))) (aC (!ByteArray.toList (toStr (nth l
 i.toNat))==ByteArray.toList (toStr (nth m i.toNat))) (K Exit.ret (sp 26 [(4,AV.bool false)] [])) (∃(e0:Nat),e0<n/\I e0 (sp 26 [(0,AV.ad 9 l),(1,
 AV.ad 9 m),(5,AV.int (IntKind.wrap IntKind.i64 (i+(1:Int))))] []))))) (K (Exit.exit 0) (sp 26 [] []))):=by kernel_rfl
def jn(l m:List AV):Bool:=decide (l.map toStr=m.map toStr)
abbrev TB(a:List AV×List AV×Int):S:=sp 26 [(0, .ad 9 a.1),(1, .ad 9 a.2.1),(5, .int a.2.2)] []
def LM(a:List AV×List AV×Int):Out (Exit×S):= .aC (jn (a.1.drop a.2.2.toNat) (a.2.1.drop a.2.2.toNat)) (.one (.exit 0,sp 26 [] [])) (.one (.ret,sp 26 [(4, .bool false)] []))
theorem lST(κ:Kp):bk (RR κ).E 12 130 4 (aP 0 TB uk LM):=by
 refine aL (fun a=>a.1.length - a.2.2.toNat) ?_
 rintro⟨l,m,i⟩ K ⟨h1,h2,h3,h4⟩ ho
 simp only at h1 h2 h3 h4
 rw[show(RR κ).E.P=Pr κ from rfl]
 refine Eq.mpr (xST κ l m i _ _ K) ?_
 simp only[aM] at h2
 simp only[LM,Out.run,af] at ho
 simp only[af,an,aa2,aa4,aa3,Bool.not_eq_true',ab4]
 refine⟨fun hi=>⟨⟨h3,hi⟩,⟨h3,by omega⟩,?_⟩,fun hi=>?_⟩
 ·rw[ab3 (show i.toNat<l.length by omega),←aZ l i.toNat (by omega),ab3 (show i.toNat<m.length by omega),←aZ m i.toNat (by omega)] at ho
  simp only[jn,ac2,List.cons.injEq] at ho
  refine⟨fun e=>?_,fun e=>?_⟩
  ·have e':toStr (nth l i.toNat)≠toStr (nth m i.toNat):=fun h=>by
    have:=Au.2 h
    unfold ll at this;rw[this] at e;cases e
   exact ho.2 (by simp[e'])
  ·have e':toStr (nth l i.toNat)=toStr (nth m i.toNat):=Au.1 e
   rw[aW (n:=i+1) (by omega) (by omega)]
   refine⟨_,?_,(l,m,i+1),rfl,⟨h1,by simpa[aM] using h2,by simp only;omega,by simp only;omega⟩,rfl,?_⟩
   ·simp only;omega
   ·simp only[LM,Out.run,af,show(i+1).toNat=i.toNat+1 by omega,jn]
    simpa[e'] using ho
 ·rw[ab0 (by omega),ab0 (by omega)] at ho
  exact ho.1 rfl
noncomputable def Xf(κ:Kp):EB:=(RR κ).loop (lST κ)
theorem yST(κ:Kp)(l m:List AV)(K:AV->List Dn.Obj->Prop):(bf (Xf κ).E 12 130 [.ad 9 l, .ad 9 m] [] K)=(
 letI z1:=Pg.toProgram (Env.P (EB.E (RR κ)))
 aC ((↑(l.length):Int) != (↑(m.length):Int)) (K (AV.bool false) []) (ah z1 130 4=ah z1 130 4/\∃(e0:List AV×List AV×Int),sp 26 [(0,AV.ad 9 l),(1,
 AV.ad 9 m),(5,AV.int 0)] []=TB e0/\uk e0/\aC (jn (List.drop (Int.toNat e0.2.2) e0.1) (List.drop (Int.toNat e0.2.2) e0.2.1)) (K (AV.bool true) []) (K
 (AV.bool false) []))):=by kernel_rfl
def ZR:List AV->Option (Bool×AV)
 |[.ad 9 l, .ad 9 m]=>some (decide (l.length<=aM), .bool (jn l m))
 |_=>none
theorem pST(κ:Kp):cy (Xf κ).E 12 130 ZR:=by
 intro args x hh
 unfold ZR at hh
 split at hh
 ·rename_i l m
  simp only[aa5,ab1,aa2] at hh
  obtain⟨h1,rfl⟩:=hh
  refine⟨_,rfl,rfl,?_⟩
  refine Eq.mpr (yST κ l m _) ?_
  simp only[af,bne_iff_ne,bne_eq_false_iff_eq]
  refine⟨fun e=>?_,fun e=>⟨trivial,(l,m,0),rfl,⟨by simp only;omega,h1,by simp only;omega,by simp only;omega⟩,?_⟩⟩
  ·have:jn l m=false:=by
    unfold jn
    rw[aa6]
    intro h
    have:=congrArg List.length h
    simp at this;omega
   rw[this]
  ·simp only[ab9,ab2]
   exact⟨fun e=>by rw[e],fun e=>by rw[e]⟩
 ·cases hh
noncomputable def Wc(κ:Kp):EB:=(Xf κ).pure (pST κ)
structure SV where
 op:Int
 nu:Int
 rl:Int
 c:List AV
 t:List AV
 bc:List AV
 bs:List AV
 ec:List AV
 es:List AV
 s:ByteArray
 X:AT
 Y:AT
abbrev Wy(d:SV):AV:= .agg [.int d.op, .int d.nu, .int d.rl, .ad 3 d.c, .ad 56 d.t, .ad 3 d.bc, .ad 9 d.bs, .ad 3 d.ec, .ad 9 d.es, .lit (.string d.s),cv d.X,cv d.Y]
theorem ySs(κ:Kp)(d e:SV)(K:AV->List Dn.Obj->Prop):(bf (Wc κ).E 12 82 [Wy d,Wy e] [] K)=(
 letI z2:=K (AV.bool false) []
 letI z3:=rX (Tm.mk d.X.op d.X.s d.X.n (aa d.X.l)) (Tm.mk e.X.op e.X.s e.X.n (aa e.X.l))
 letI z4:=rX (Tm.mk d.Y.op d.Y.s d.Y.n (aa d.Y.l)) (Tm.mk e.Y.op e.Y.s e.Y.n (aa e.Y.l))
 letI z6:=decide (d.bs.length<=9223372036854775807)
 letI z7:=decide (d.es.length<=9223372036854775807)
 letI z8:=tg (aa d.t) (aa e.t)
 letI z1:=aC z3 (aC z4 (aC z8 z2 z2) z2) z2
 letI z5:=ba z6 (aC (jn d.bs e.bs) (ba z7 z1) z1)
 aC (d.op != e.op) z2 (aC (d.nu != e.nu) z2 (aC (d.rl != e.rl) z2 (aC (!ByteArray.toList d.s==ByteArray.toList e.s) z2 (ba (decide (aO (aa d.X.l)<=100000))
 (ba (decide (aO (aa d.Y.l)<=100000)) (ba (decide (aO (aa d.t)<=100000)) (ba (decide (d.c.length<=9223372036854775807)) (aC (iw d.c e.c) (ba (decide
 (d.bc.length<=9223372036854775807)) (aC (iw d.bc e.bc) (ba (decide (d.ec.length<=9223372036854775807)) (ba z6 (aC (jn d.bs e.bs) (ba z7 (aC z3 (aC z4 (aC z8
 (aC (iw d.ec e.ec) (K (AV.bool (jn d.es e.es)) []) z2) z2) z2) z2)) (aC z3 (aC z4 (aC z8 (aC (iw d.ec e.ec) z2 z2) z2) z2) z2)))) z5)) z5))))))))):=by kernel_rfl
def CC(d:SV):Bool:=(decide (aO (aa d.X.l)<=100000)&&(decide (aO (aa d.Y.l)<=100000)&&decide (aO (aa d.t)<=100000)))&&(decide (d.c.length<=aM)&&(decide (d.bc.length<=aM)&&(decide (d.ec.length<=aM)&&(decide (d.bs.length<=aM)&&decide (d.es.length<=aM)))))
noncomputable def kn(d e:SV):Bool:=((decide (d.op=e.op)&&decide (d.nu=e.nu))&&(decide (d.rl=e.rl)&&ll d.s e.s))&&((rX d.X.tm e.X.tm&&rX d.Y.tm e.Y.tm)&&(tg (aa d.t) (aa e.t)&&((iw d.c e.c&&(iw d.bc e.bc&&iw d.ec e.ec))&&(jn d.bs e.bs&&jn d.es e.es))))
noncomputable def Y4:List AV->Option (Bool×AV)
 | [.agg [.lit (.int .i64 o1), .lit (.int .i64 h1), .lit (.int .i64 r1), .ad 3 c1, .ad 56 t1, .ad 3 b1, .ad 9 v1, .ad 3 e1, .ad 9 w1, .lit (.string s1), .agg [.lit (.int .i64 xo1), .lit (.string xs1), .lit (.int .i64 xn1), .ad 56 xl1], .agg [.lit (.int .i64 yo1), .lit (.string ys1), .lit (.int .i64 yn1), .ad 56 yl1]],
   .agg [.lit (.int .i64 o2), .lit (.int .i64 h2), .lit (.int .i64 r2), .ad 3 c2, .ad 56 t2, .ad 3 b2, .ad 9 v2, .ad 3 e2, .ad 9 w2, .lit (.string s2), .agg [.lit (.int .i64 xo2), .lit (.string xs2), .lit (.int .i64 xn2), .ad 56 xl2], .agg [.lit (.int .i64 yo2), .lit (.string ys2), .lit (.int .i64 yn2), .ad 56 yl2]]]=>
  some (CC ⟨o1,h1,r1,c1,t1,b1,v1,e1,w1,s1,⟨xo1,xs1,xn1,xl1⟩,⟨yo1,ys1,yn1,yl1⟩⟩, .bool (kn ⟨o1,h1,r1,c1,t1,b1,v1,e1,w1,s1,⟨xo1,xs1,xn1,xl1⟩,⟨yo1,ys1,yn1,yl1⟩⟩ ⟨o2,h2,r2,c2,t2,b2,v2,e2,w2,s2,⟨xo2,xs2,xn2,xl2⟩,⟨yo2,ys2,yn2,yl2⟩⟩))
 |_=>none
theorem kSs(κ:Kp)(d e:SV)(hf:CC d=true)(K:AV->List Dn.Obj->Prop)(hK:K (.bool (kn d e)) []):bf (Wc κ).E 12 82 [Wy d,Wy e] [] K:=by
 refine Eq.mpr (ySs κ d e _) ?_
 simp only[CC,aa3] at hf
 obtain⟨⟨f1,f2,f3⟩,f4,f5,f6,f7,f8⟩:=hf
 have f4:decide (d.c.length<=9223372036854775807)=true:=f4
 have f5:decide (d.bc.length<=9223372036854775807)=true:=f5
 have f6:decide (d.ec.length<=9223372036854775807)=true:=f6
 have f7:decide (d.bs.length<=9223372036854775807)=true:=f7
 have f8:decide (d.es.length<=9223372036854775807)=true:=f8
 have hx:kn d e=(((decide (d.op=e.op)&&decide (d.nu=e.nu))&&(decide (d.rl=e.rl)&&(ByteArray.toList d.s==ByteArray.toList e.s)))&&((rX (Tm.mk d.X.op d.X.s d.X.n (aa d.X.l)) (Tm.mk e.X.op e.X.s e.X.n (aa e.X.l))&&rX (Tm.mk d.Y.op d.Y.s d.Y.n (aa d.Y.l)) (Tm.mk e.Y.op e.Y.s e.Y.n (aa e.Y.l)))&&(tg (aa d.t) (aa e.t)&&((iw d.c e.c&&(iw d.bc e.bc&&iw d.ec e.ec))&&(jn d.bs e.bs&&jn d.es e.es))))):=rfl
 rw[hx] at hK
 simp only[f1,f2,f3,f4,f5,f6,f7,f8]
 have hb: ∀a b:Int,(a != b)= !decide (a=b):=fun a b=>rfl
 simp only[hb]
 generalize decide (d.op=e.op)=a1 at hK⊢
 generalize decide (d.nu=e.nu)=a2 at hK⊢
 generalize decide (d.rl=e.rl)=a3 at hK⊢
 generalize (ByteArray.toList d.s==ByteArray.toList e.s)=a4 at hK⊢
 generalize rX (Tm.mk d.X.op d.X.s d.X.n (aa d.X.l)) (Tm.mk e.X.op e.X.s e.X.n (aa e.X.l))=a5 at hK⊢
 generalize rX (Tm.mk d.Y.op d.Y.s d.Y.n (aa d.Y.l)) (Tm.mk e.Y.op e.Y.s e.Y.n (aa e.Y.l))=a6 at hK⊢
 generalize tg (aa d.t) (aa e.t)=a7 at hK⊢
 generalize iw d.c e.c=a8 at hK⊢
 generalize iw d.bc e.bc=a9 at hK⊢
 generalize iw d.ec e.ec=b1 at hK⊢
 generalize jn d.bs e.bs=b2 at hK⊢
 generalize jn d.es e.es=b3 at hK⊢
 clear hx f1 f2 f3 f4 f5 f6 f7 f8
 cases a1 with
 |false=>exact hK
 |true=>
 cases a2 with
 |false=>exact hK
 |true=>
 cases a3 with
 |false=>exact hK
 |true=>
 cases a4 with
 |false=>exact hK
 |true=>
 cases a8<;>cases a9<;>cases b1<;>cases b2<;>cases a5<;>cases a6<;>cases a7<;>cases b3<;>exact hK
theorem pSs(κ:Kp):cy (Wc κ).E 12 82 Y4:=by
 intro args x hh
 unfold Y4 at hh
 split at hh
 ·rename_i o1 h1 r1 c1 t1 b1 v1 e1 w1 s1 xo1 xs1 xn1 xl1 yo1 ys1 yn1 yl1 o2 h2 r2 c2 t2 b2 v2 e2 w2 s2 xo2 xs2 xn2 xl2 yo2 ys2 yn2 yl2
  simp only[aa5,ab1] at hh
  obtain⟨hf,rfl⟩:=hh
  refine⟨_,rfl,rfl,?_⟩
  refine kSs κ ⟨o1,h1,r1,c1,t1,b1,v1,e1,w1,s1,⟨xo1,xs1,xn1,xl1⟩,⟨yo1,ys1,yn1,yl1⟩⟩ ⟨o2,h2,r2,c2,t2,b2,v2,e2,w2,s2,⟨xo2,xs2,xn2,xl2⟩,⟨yo2,ys2,yn2,yl2⟩⟩ hf _ ?_
  rfl
 ·cases hh
noncomputable def R0(κ:Kp):EB:=(Wc κ).pure (pSs κ)
def Nf(x:AV):SV:=⟨toInt (ae x 0),toInt (ae x 1),toInt (ae x 2),ai (ae x 3),ai (ae x 4),ai (ae x 5),ai (ae x 6),ai (ae x 7),ai (ae x 8),toStr (ae x 9),uv (ae x 10),uv (ae x 11)⟩
noncomputable def O8:List AV->List AV->Bool
 |[],[]=>true
 |x::l,y::m=>kn (Nf x) (Nf y)&&O8 l m
 |_,_=>false
theorem Ge: ∀{l m:List AV},l.length≠m.length->O8 l m=false
 |[],[],h=>absurd rfl h
 |[],_::_,_=>rfl
 |_::_,[],_=>rfl
 |x::l,y::m,h=>by rw[O8,Ge (l:=l) (m:=m) (fun e=>h (by simp[e])),Bool.and_false]
theorem xAk(κ:Kp)(a b:QD)(i:Nat)(I:Nat->S->Prop)(n:Nat)(K:Exit->S->Prop):(vc (R0 κ).E 12 45 none 0 (ah (Pr κ).toProgram 45 5) (sp 51 [(2, .ptr 0 0 [] 0),(3, .ptr 1 0 [] 0),(6, .int i)] [.box 45 (qA a), .box 45 (qA b)]) (bL (R0 κ).E 45 5 0 I n K))=(
 letI z1:=nth a.steps (Int.toNat (↑i:Int))
 letI z2:=nth b.steps (Int.toNat (↑i:Int))
 letI z3:=(↑i:Int)<(↑(a.steps.length):Int)
 aC (decide z3) (ba (true&&decide z3) (ba (true&&decide ((↑i:Int)<(↑(b.steps.length):Int))) (ba (CC {op:=toInt (ae z1 0),nu:=toInt (ae z1 1),rl:=toInt (ae z1 2),c:=ai (ae z1 3),t:=ai (ae z1 4),bc:=ai (ae z1 5),bs:=ai (ae z1 6),ec:=ai (ae z1 7),es:=ai (ae z1 8),s:=toStr (ae z1 9),X:={op:=toInt (ae (ae z1 10) 0),s:=toStr (ae (ae z1 10) 1),n:=toInt (ae (ae z1 10) 2),l:=ai (ae (ae z1 10) 3)},Y:={op:=toInt (ae (ae z1 11) 0),s:=toStr (ae (ae z1 11) 1),n:=toInt (ae (ae z1 11) 2),l:=ai (ae (ae z1 11) 3)}}) (aC (!kn {op:=toInt (ae z1 0),nu:=toInt (ae z1 1),rl:=toInt (ae z1 2),c:=ai (ae z1 3),t:=ai (ae z1 4),bc:=ai (ae z1 5),bs:=ai (ae z1 6),ec:=ai (ae z1 7),es:=ai (ae z1 8),s:=toStr (ae z1 9),X:={op:=toInt (ae (ae z1 10) 0),s:=toStr (ae (ae z1 10) 1),n:=toInt (ae (ae z1 10) 2),l:=ai (ae (ae z1 10) 3)},Y:={op:=toInt (ae (ae z1 11) 0),s:=toStr (ae (ae z1 11) 1),n:=toInt (ae (ae z1 11) 2),l:=ai (ae (ae z1 11) 3)}} {op:=toInt (ae z2 0),nu:=toInt (ae z2 1),rl:=toInt (ae z2 2),c:=ai (ae z2 3),t:=ai (ae z2 4),bc:=ai (ae z2 5),bs:=ai (ae z2 6),ec:=ai (ae z2 7),es:=ai (ae z2 8),s:=toStr (ae z2 9),X:={op:=toInt (ae (ae z2 10) 0),s:=toStr (ae (ae z2 10) 1),n:=toInt (ae (ae z2 10) 2),l:=ai (ae (ae z2 10) 3)},Y:={op:=toInt (ae (ae z2 11) 0),s:=toStr (ae (ae z2 11) 1),n:=toInt (ae (ae z2 11) 2),l:=ai (ae (ae z2 11) 3)}}) (K Exit.ret (sp 51 [(4,AV.bool false)] [])) (∃(e0:Nat),e0<n/\I e0 (sp 51 [(2,AV.ptr 0 0 [] 0),(3,AV.ptr 1 0 [] 0),(6,AV.int (IntKind.wrap IntKind.i64 ((↑i:Int)+(1:Int))))] [Obj.box 45 (AV.agg [AV.int a.rel,AV.ad 58 a.steps,AV.ad 56 a.out,AV.int a.delta]),Obj.box 45 (AV.agg [AV.int b.rel,AV.ad 58 b.steps,AV.ad 56 b.out,AV.int b.delta])])))))) (K (Exit.exit 0) (sp 51 [] []))):=by kernel_rfl
structure Wh where
 a:QD
 b:QD
 i:Nat
abbrev VG(x:Wh):S:=sp 51 [(2, .ptr 0 0 [] 0),(3, .ptr 1 0 [] 0),(6, .int x.i)] [.box 45 (qA x.a), .box 45 (qA x.b)]
def Ol(l:List AV):Bool:=decide (l.length<=100000)&&l.all fun x=>CC (Nf x)
def Jv(x:Wh):Prop:=x.a.steps.length=x.b.steps.length/\Ol x.a.steps=true/\x.i<=x.a.steps.length
noncomputable def Kh(x:Wh):Out (Exit×S):= .aC (O8 (x.a.steps.drop x.i) (x.b.steps.drop x.i)) (.one (.exit 0,sp 51 [] [])) (.one (.ret,sp 51 [(4, .bool false)] []))
theorem lAk(κ:Kp):bk (R0 κ).E 12 45 5 (aP 0 VG Jv Kh):=by
 refine aL (fun x=>x.a.steps.length - x.i) ?_
 rintro⟨a,b,i⟩ K ⟨h1,h2,h4⟩ ho
 simp only at h1 h2 h4
 rw[show(R0 κ).E.P=Pr κ from rfl]
 refine Eq.mpr (xAk κ a b i _ _ K) ?_
 simp only[Kh,Out.run,af] at ho
 rw[Ol,aa3,aa2,List.all_eq_true] at h2
 have hlen:=h2.1
 simp only[Int.toNat_natCast]
 rw[af,aa2,aa4]
 refine⟨fun h=>?_,fun h=>?_⟩
 ·have hk:i<a.steps.length:=by omega
  have hx:nth a.steps i∈a.steps:=by rw[aZ _ _ hk];exact List.getElem_mem _
  have hf:=h2.2 _ hx
  rw[ab3 hk,ab3 (show i<b.steps.length by omega),←aZ _ _ hk,←aZ _ _ (show i<b.steps.length by omega),O8] at ho
  refine an.2 ⟨by simp;omega,an.2 ⟨by simp;omega,an.2 ⟨hf,af.2 ⟨fun e=>ho.2 ?_,fun e=>?_⟩⟩⟩⟩
  ·rw[Bool.not_eq_true'] at e
   rw[show kn (Nf (nth a.steps i)) (Nf (nth b.steps i))=false from e,Bool.false_and]
  ·rw[ab4] at e
   rw[show kn (Nf (nth a.steps i)) (Nf (nth b.steps i))=true from e,ac1] at ho
   rw[aW (n:=(i:Int)+1) (by omega) (by omega)]
   refine⟨_,?_,⟨a,b,i+1⟩,rfl,⟨h1,by rw[Ol,aa3,aa2,List.all_eq_true];exact h2,hk⟩,rfl,?_⟩
   ·simp only;omega
   ·simp only[Kh,Out.run,af]
    exact ho
 ·rw[ab0 (by omega),ab0 (by omega)] at ho
  exact ho.1 rfl
noncomputable def WK(κ:Kp):EB:=(R0 κ).loop (lAk κ)
theorem yAk(κ:Kp)(a b:QD)(K:AV->List Dn.Obj->Prop):(bf (WK κ).E 12 45 [qA a,qA b] [] K)=(
 letI z1:=K (AV.bool false) []
 letI z2:=Pg.toProgram (Env.P (EB.E (R0 κ)))
 ba (decide (aO (aa a.out)<=100000)) (aC (a.rel != b.rel) z1 (aC (!tg (aa a.out) (aa b.out)) z1 (aC ((↑(a.steps.length):Int) != (↑(b.steps.length):Int)) z1
 (ah z2 45 5=ah z2 45 5/\∃(e0:Wh),sp 51 [(2,AV.ptr 0 0 [] 0),(3,AV.ptr 1 0 [] 0),(6,AV.int 0)] [Obj.box 45 (AV.agg [AV.int a.rel,AV.ad 58 a.steps,
 AV.ad 56 a.out,AV.int a.delta]),Obj.box 45 (AV.agg [AV.int b.rel,AV.ad 58 b.steps,AV.ad 56 b.out,AV.int b.delta])]=VG e0/\Jv e0/\aC (O8 (List.drop e0.i
 e0.a.steps) (List.drop e0.i e0.b.steps)) (K (AV.bool true) []) z1))))):=by kernel_rfl
noncomputable def alike(a b:QD):Bool:=decide (a.rel=b.rel)&&(tg (aa a.out) (aa b.out)&&O8 a.steps b.steps)
def sd(a:QD):Bool:=decide (aO (aa a.out)<=100000)&&Ol a.steps
noncomputable def ZC:List AV->Option (Bool×AV)
 |[.agg [.lit (.int .i64 r1), .ad 58 s1, .ad 56 o1, .lit (.int .i64 d1)], .agg [.lit (.int .i64 r2), .ad 58 s2, .ad 56 o2, .lit (.int .i64 d2)]]=>some (sd ⟨r1,s1,o1,d1⟩, .bool (alike ⟨r1,s1,o1,d1⟩ ⟨r2,s2,o2,d2⟩))
 |_=>none
theorem pAk(κ:Kp):cy (WK κ).E 12 45 ZC:=by
 intro args x hh
 unfold ZC at hh
 split at hh
 ·rename_i r1 s1 o1 d1 r2 s2 o2 d2
  simp only[aa5,ab1,sd,aa3] at hh
  obtain⟨⟨h1,h2⟩,rfl⟩:=hh
  refine⟨_,rfl,rfl,?_⟩
  refine Eq.mpr (yAk κ ⟨r1,s1,o1,d1⟩ ⟨r2,s2,o2,d2⟩ _) (an.2 ⟨h1,?_⟩)
  simp only[alike,af,bne_iff_ne,bne_eq_false_iff_eq]
  refine⟨fun e=>by rw[aa6 e];rfl,fun e=>⟨fun e2=>?_,fun e2=>⟨fun e3=>?_,fun e3=>⟨trivial,⟨⟨r1,s1,o1,d1⟩,⟨r2,s2,o2,d2⟩,0⟩,rfl,⟨by simp only;omega,h2,Nat.zero_le _⟩,?_⟩⟩⟩⟩
  ·rw[Bool.not_eq_true'] at e2
   rw[e2,Bool.false_and,Bool.and_false]
  ·rw[Ge (by omega)];simp
  ·rw[ab4] at e2
   rw[aa8 e,e2,ac1,ac1]
   simp only[ab2]
   exact⟨fun e=>by rw[e],fun e=>by rw[e]⟩
 ·cases hh
noncomputable def RI(κ:Kp):EB:=(WK κ).pure (pAk κ)
theorem xHs(κ:Kp)(l:List AV)(k:Int)(i:Nat)(I:Nat->S->Prop)(n:Nat)(K:Exit->S->Prop):(vc (RI κ).E 12 20 none 0 (ah (Pr κ).toProgram 20 2) (sp 18 [(0, .ad 3 l),(1, .int k),(5, .int i)] []) (bL (RI κ).E 20 2 0 I n K))=(
 letI z1:=(↑i:Int)<(↑(l.length):Int)
 aC (decide z1) (ba (true&&decide z1) (aC (toInt (nth l (Int.toNat (↑i:Int)))==k) (K Exit.ret (sp 18 [(4,AV.bool true)] [])) (∃(e0:Nat),e0<n/\I e0
 (sp 18 [(0,AV.ad 3 l),(1,AV.int k),(5,AV.int (IntKind.wrap IntKind.i64 ((↑i:Int)+(1:Int))))] [])))) (K (Exit.exit 0) (sp 18 [] []))):=by kernel_rfl
def tD(k:Int)(l:List AV):Bool:=l.any fun x=>toInt x==k
structure Wj where
 l:List AV
 k:Int
 i:Nat
abbrev Vp(x:Wj):S:=sp 18 [(0, .ad 3 x.l),(1, .int x.k),(5, .int x.i)] []
def JR(x:Wj):Prop:=x.l.length<=aM/\x.i<=x.l.length
def MC(x:Wj):Out (Exit×S):= .aC (tD x.k (x.l.drop x.i)) (.one (.ret,sp 18 [(4, .bool true)] [])) (.one (.exit 0,sp 18 [] []))
theorem lHs(κ:Kp):bk (RI κ).E 12 20 2 (aP 0 Vp JR MC):=by
 refine aL (fun x=>x.l.length - x.i) ?_
 rintro⟨l,k,i⟩ K ⟨h1,h4⟩ ho
 simp only at h1 h4
 simp only[aM] at h1
 rw[show(RI κ).E.P=Pr κ from rfl]
 refine Eq.mpr (xHs κ l k i _ _ K) ?_
 simp only[MC,Out.run,af] at ho
 simp only[Int.toNat_natCast]
 rw[af,aa2,aa4]
 refine⟨fun h=>?_,fun h=>?_⟩
 ·have hk:i<l.length:=by omega
  rw[ab3 hk,←aZ _ _ hk,tD,List.any_cons] at ho
  refine an.2 ⟨by simp;omega,af.2 ⟨fun e=>ho.1 ?_,fun e=>?_⟩⟩
  ·rw[e,Bool.true_or]
  ·rw[e,Bool.false_or] at ho
   rw[aW (n:=(i:Int)+1) (by omega) (by omega)]
   refine⟨_,?_,⟨l,k,i+1⟩,rfl,⟨by simpa[aM] using h1,hk⟩,rfl,?_⟩
   ·simp only;omega
   ·simp only[MC,Out.run,af]
    exact ho
 ·rw[ab0 (by omega)] at ho
  exact ho.2 rfl
noncomputable def WC(κ:Kp):EB:=(RI κ).loop (lHs κ)
theorem yHs(κ:Kp)(l:List AV)(k:Int)(K:AV->List Dn.Obj->Prop):(bf (WC κ).E 12 20 [.ad 3 l, .int k] [] K)=(
 letI z1:=Pg.toProgram (Env.P (EB.E (RI κ)))
 ah z1 20 2=ah z1 20 2/\∃(e0:Wj),sp 18 [(0,AV.ad 3 l),(1,AV.int k),(5,AV.int 0)] []=Vp e0/\JR e0/\aC (tD e0.k (List.drop e0.i e0.l)) (K (AV.bool
 true) []) (K (AV.bool false) [])):=by kernel_rfl
def gHs:List AV->Option (Bool×AV)
 |[.ad 3 l, .lit (.int .i64 k)]=>some (decide (l.length<=aM), .bool (tD k l))
 |_=>none
theorem pHs(κ:Kp):cy (WC κ).E 12 20 gHs:=by
 intro args x hh
 unfold gHs at hh
 split at hh
 ·rename_i l k
  simp only[aa5,ab1,aa2] at hh
  obtain⟨h1,rfl⟩:=hh
  refine⟨_,rfl,rfl,?_⟩
  refine Eq.mpr (yHs κ l k _) ?_
  refine⟨rfl,⟨l,k,0⟩,rfl,⟨h1,Nat.zero_le _⟩,?_⟩
  simp only[ab2,af]
  exact⟨fun e=>by rw[e],fun e=>by rw[e]⟩
 ·cases hh
noncomputable def Sz(κ:Kp):EB:=(WC κ).pure (pHs κ)
theorem xTm(κ:Kp)(l:List AV)(q:QD)(c i:Nat)(I:Nat->S->Prop)(n:Nat)(K:Exit->S->Prop):(vc (Sz κ).E 12 19 none 0 (ah (Pr κ).toProgram 19 3) (sp 24 [(0, .ad 45 l),(3, .ptr 0 0 [] 0),(5, .int c),(6, .int i)] [.box 45 (qA q)]) (bL (Sz κ).E 19 3 0 I n K))=(
 letI z1:=nth l (Int.toNat (↑i:Int))
 letI z2:=AV.agg [AV.int q.rel,AV.ad 58 q.steps,AV.ad 56 q.out,AV.int q.delta]
 letI z3:=IntKind.wrap IntKind.i64 ((↑i:Int)+(1:Int))
 letI z4:=(↑i:Int)<(↑(l.length):Int)
 aC (decide z4) (ba (true&&decide z4) (ba (sd {rel:=toInt (ae z1 0),steps:=ai (ae z1 1),out:=ai (ae z1 2),delta:=toInt (ae z1 3)}) (aC (alike {rel:=toInt (ae z1 0),steps:=ai (ae z1 1),out:=ai (ae z1 2),delta:=toInt (ae z1 3)} {rel:=q.rel,steps:=q.steps,out:=q.out,delta:=q.delta}) (∃(e0:Nat),e0<n/\I e0 (sp 24 [(0,AV.ad 45 l),(3,AV.ptr 0 0 [] 0),(5,AV.int (IntKind.wrap IntKind.i64 ((↑c:Int)+(1:Int)))),(6,AV.int z3)] [Obj.box 45 z2])) (∃(e0:Nat),e0<n/\I e0 (sp 24 [(0,AV.ad 45 l),(3,AV.ptr 0 0 [] 0),(5,AV.int (↑c:Int)),(6,AV.int z3)] [Obj.box 45 z2]))))) (K (Exit.exit 0) (sp 24 [(5,AV.int (↑c:Int))] []))):=by kernel_rfl
def Jl(x:AV):QD:=⟨toInt (ae x 0),ai (ae x 1),ai (ae x 2),toInt (ae x 3)⟩
noncomputable def jl(q:QD)(l:List AV):Nat:=(l.filter fun x=>alike (Jl x) q).length
structure Wz where
 l:List AV
 q:QD
 c:Nat
 i:Nat
abbrev Ux(x:Wz):S:=sp 24 [(0, .ad 45 x.l),(3, .ptr 0 0 [] 0),(5, .int x.c),(6, .int x.i)] [.box 45 (qA x.q)]
def JS(x:Wz):Prop:=(x.l.length<=100000000/\∀y,y∈x.l->sd (Jl y)=true)/\x.c<=x.i/\x.i<=x.l.length
noncomputable def K4(x:Wz):Out (Exit×S):= .one (.exit 0,sp 24 [(5, .int (x.c+jl x.q (x.l.drop x.i):Nat))] [])
theorem lTm(κ:Kp):bk (Sz κ).E 12 19 3 (aP 0 Ux JS K4):=by
 refine aL (fun x=>x.l.length - x.i) ?_
 rintro⟨l,q,c,i⟩ K ⟨⟨h1,h2⟩,h3,h4⟩ ho
 simp only at h1 h2 h3 h4
 rw[show(Sz κ).E.P=Pr κ from rfl]
 refine Eq.mpr (xTm κ l q c i _ _ K) ?_
 simp only[K4,Out.run] at ho
 simp only[Int.toNat_natCast]
 rw[af,aa2,aa4]
 refine⟨fun h=>?_,fun h=>?_⟩
 ·have hk:i<l.length:=by omega
  have hx:nth l i∈l:=by rw[aZ _ _ hk];exact List.getElem_mem _
  have hd:jl q (l.drop i)=(bif alike (Jl (nth l i)) q then 1 else 0)+jl q (l.drop (i+1)):=by
   rw[ab3 hk,←aZ _ i hk]
   unfold jl
   rw[List.filter_cons]
   cases alike (Jl (nth l i)) q with
   |true=>simp;omega
   |false=>simp
  rw[hd] at ho
  rw[aW (n:=(i:Int)+1) (by omega) (by omega),aW (n:=(c:Int)+1) (by omega) (by omega)]
  refine an.2 ⟨by simp;omega,an.2 ⟨h2 _ hx,af.2 ⟨fun e=>?_,fun e=>?_⟩⟩⟩
  ·rw[show alike (Jl (nth l i)) q=true from e,aa9] at ho
   refine⟨_,?_,⟨l,q,c+1,i+1⟩,rfl,⟨⟨h1,h2⟩,by simp only;omega,hk⟩,rfl,?_⟩
   ·simp only;omega
   ·simp only[K4,Out.run]
    rw[Nat.add_assoc];exact ho
  ·rw[show alike (Jl (nth l i)) q=false from e,aa7,Nat.zero_add] at ho
   refine⟨_,?_,⟨l,q,c,i+1⟩,rfl,⟨⟨h1,h2⟩,by simp only;omega,hk⟩,rfl,ho⟩
   simp only;omega
 ·rw[ab0 (by omega)] at ho
  exact ho
noncomputable def XY(κ:Kp):EB:=(Sz κ).loop (lTm κ)
theorem yTm(κ:Kp)(l:List AV)(q:QD)(K:AV->List Dn.Obj->Prop):(bf (XY κ).E 12 19 [.ad 45 l,qA q] [] K)=(
 letI z1:=Pg.toProgram (Env.P (EB.E (Sz κ)))
 ah z1 19 3=ah z1 19 3/\∃(e0:Wz),sp 24 [(0,AV.ad 45 l),(3,AV.ptr 0 0 [] 0),(5,AV.int 0),(6,AV.int 0)] [Obj.box 45 (AV.agg [AV.int q.rel,AV.ad 58
 q.steps,AV.ad 56 q.out,AV.int q.delta])]=Ux e0/\JS e0/\K (AV.int (↑(e0.c+jl e0.q (List.drop e0.i e0.l)):Int)) []):=by kernel_rfl
noncomputable def ZV:List AV->Option (Bool×AV)
 |[.ad 45 l, .agg [.lit (.int .i64 r2), .ad 58 s2, .ad 56 o2, .lit (.int .i64 d2)]]=>some (decide (l.length<=100000000)&&l.all (fun y=>sd (Jl y)), .int (jl ⟨r2,s2,o2,d2⟩ l))
 |_=>none
theorem pTm(κ:Kp):cy (XY κ).E 12 19 ZV:=by
 intro args x hh
 unfold ZV at hh
 split at hh
 ·rename_i l r2 s2 o2 d2
  simp only[aa5,ab1,aa3,aa2,List.all_eq_true] at hh
  obtain⟨h1,rfl⟩:=hh
  refine⟨_,rfl,rfl,?_⟩
  refine Eq.mpr (yTm κ l ⟨r2,s2,o2,d2⟩ _) ?_
  refine⟨rfl,⟨l,⟨r2,s2,o2,d2⟩,0,0⟩,rfl,⟨h1,Nat.le_refl _,Nat.zero_le _⟩,?_⟩
  simp only[ab2,Nat.zero_add]
 ·cases hh
noncomputable def Ir(κ:Kp):EB:=(XY κ).pure (pTm κ)
abbrev OH(bs:List AV)(q:QD)(ag:Bool)(g:Int)(c i:Nat):S:=sp 104 [(5, .bool true),(6, .ar 0 0 bs.length),(8, .ptr 1 0 [] 0),(10, .bool ag),(11, .int g),(12, .int c),(13, .int i)] [.row 41 bs, .box 45 (qA q)]
theorem xBh(κ:Kp)(bs:List AV)(q:QD)(ag:Bool)(g:Int)(c i:Nat)(I:Nat->S->Prop)(n:Nat)(K:Exit->S->Prop):(vc (Ir κ).E 12 5 none 0 (ah (Pr κ).toProgram 5 11) (OH bs q ag g c i) (bL (Ir κ).E 5 11 0 I n K))=(
 letI z1:=nth bs (0+Int.toNat (↑i:Int))
 letI z3:=IntKind.wrap IntKind.i64 ((↑i:Int)+(1:Int))
 letI z4:=decide (List.length (ai (ae z1 0))<=9223372036854775807)
 letI z5:=IntKind.wrap IntKind.i64 ((↑c:Int)+(1:Int))
 letI z7:=!tD q.rel (ai (ae z1 0))
 letI z8:=(↑i:Int)<(↑(bs.length):Int)
 letI z2:=true&&decide z8
 letI z9:=ai (ae z1 1)
 letI z6:=(↑(jl {rel:=q.rel,steps:=q.steps,out:=q.out,delta:=q.delta} z9):Int)==(0:Int)
 letI z10:=ai (ae z1 2)
 aC (decide z8) (ba z2 (ba (decide (List.length z9<=100000000)&&List.all z9 fun(e0:AV)=>sd (Jl e0)) (ba z2 (ba (decide (List.length z10<=100000000)&&List.all z10 fun(e0:AV)=>sd (Jl e0)) (aC (IntKind.wrap IntKind.i64 ((↑(jl {rel:=q.rel,steps:=q.steps,out:=q.out,delta:=q.delta} z9):Int)+(↑(jl {rel:=q.rel,steps:=q.steps,out:=q.out,delta:=q.delta} z10):Int))==(0:Int)) (∃(e0:Nat),e0<n/\I e0 (sp 104 [(5,AV.bool true),(6,AV.ar 0 0 bs.length),(8,AV.ptr 1 0 [] 0),(10,AV.bool ag),(11,AV.int g),(12,AV.int (↑c:Int)),(13,AV.int z3)] [Obj.row 41 bs,Obj.box 45 (AV.agg [AV.int q.rel,AV.ad 58 q.steps,AV.ad 56 q.out,AV.int q.delta])])) (aC ag (aC ((↑(jl {rel:=q.rel,steps:=q.steps,out:=q.out,delta:=q.delta} z10):Int)==(0:Int)) (K Exit.ret (sp 104 [(4,AV.bool false)] [])) (aC (!ag) (aC z6 (K Exit.ret (sp 104 [(4,AV.bool false)] [])) (ba z2 (ba z4 (aC z7 (K Exit.ret (sp 104 [(4,AV.bool false)] [])) (∃(e0:Nat),e0<n/\I e0 (sp 104 [(5,AV.bool true),(6,AV.ar 0 0 bs.length),(8,AV.ptr 1 0 [] 0),(10,AV.bool ag),(11,AV.int g),(12,AV.lit (Value.int IntKind.i64 z5)),(13,AV.lit (Value.int IntKind.i64 z3))] [Obj.row 41 bs,Obj.box 45 (AV.agg [AV.int q.rel,AV.ad 58 q.steps,AV.ad 56 q.out,AV.int q.delta])])))))) (ba z2 (ba z4 (aC z7 (K Exit.ret (sp 104 [(4,AV.bool false)] [])) (∃(e0:Nat),e0<n/\I e0 (sp 104 [(5,AV.bool true),(6,AV.ar 0 0 bs.length),(8,AV.ptr 1 0 [] 0),(10,AV.bool ag),(11,AV.int g),(12,AV.int z5),(13,AV.int z3)] [Obj.row 41 bs,Obj.box 45 (AV.agg [AV.int q.rel,AV.ad 58 q.steps,AV.ad 56 q.out,AV.int q.delta])]))))))) (aC (!ag) (aC z6 (K Exit.ret (sp 104 [(4,AV.bool false)] [])) (ba z2 (ba z4 (aC z7 (K Exit.ret (sp 104 [(4,AV.bool false)] [])) (∃(e0:Nat),e0<n/\I e0 (sp 104 [(5,AV.bool true),(6,AV.ar 0 0 bs.length),(8,AV.ptr 1 0 [] 0),(10,AV.bool ag),(11,AV.int g),(12,AV.int z5),(13,AV.int z3)] [Obj.row 41 bs,Obj.box 45 (AV.agg [AV.int q.rel,AV.ad 58 q.steps,AV.ad 56 q.out,AV.int q.delta])])))))) (ba z2 (ba z4 (aC z7 (K Exit.ret (sp 104 [(4,AV.bool false)] [])) (∃(e0:Nat),e0<n/\I e0 (sp 104 [(5,AV.bool true),(6,AV.ar 0 0 bs.length),(8,AV.ptr 1 0 [] 0),(10,AV.bool ag),(11,AV.int g),(12,AV.int z5),(13,AV.int z3)] [Obj.row 41 bs,Obj.box 45 (AV.agg [AV.int q.rel,AV.ad 58 q.steps,AV.ad 56 q.out,AV.int q.delta])])))))))))))) (K (Exit.exit 0) (sp 104 [(5,AV.bool true),(11,AV.int g),(12,AV.int (↑c:Int))] []))):=by kernel_rfl
abbrev JH(bs:List AV)(j:Nat):List AV:=ai (ae (nth bs j) 1)
abbrev M9(bs:List AV)(j:Nat):List AV:=ai (ae (nth bs j) 2)
abbrev Rx(bs:List AV)(j:Nat):List AV:=ai (ae (nth bs j) 0)
structure JA(bs:List AV)(q:QD)(ag:Bool)(k:Nat):Prop where
 hk:k<bs.length
 len:bs.length<=100
 f1: ∀j,j<bs.length->(decide ((JH bs j).length<=100000000)&&(JH bs j).all fun y=>sd (Jl y))=true
 f2: ∀j,j<bs.length->(decide ((M9 bs j).length<=100000000)&&(M9 bs j).all fun y=>sd (Jl y))=true
 f0: ∀j,j<bs.length->(Rx bs j).length<=60
 off: ∀j,j<bs.length->j≠k->jl q (JH bs j)=0/\jl q (M9 bs j)=0
 Zw:ag=true->jl q (M9 bs k)≠0
 ZI:ag=false->jl q (JH bs k)≠0
 has:tD q.rel (Rx bs k)=true
def cI(k i:Nat):Nat:=bif decide (i<=k) then 0 else 1
theorem Nq{k i:Nat}(h:i≠k):cI k (i+1)=cI k i:=by
 unfold cI
 rcases Nat.lt_or_gt_of_ne h with e|e
 ·rw[aa8 (show i+1<=k by omega),aa8 (show i<=k by omega)]
 ·rw[aa6 (show ¬ i+1<=k by omega),aa6 (show ¬ i<=k by omega)]
theorem UT(k:Nat):cI k (k+1)=cI k k+1:=by
 unfold cI
 rw[aa6 (show ¬ k+1<=k by omega),aa8 (Nat.le_refl k)];rfl
theorem T6(k i:Nat):cI k i<=1:=by
 unfold cI
 cases decide (i<=k) with
 |true=>exact Nat.zero_le _
 |false=>exact Nat.le_refl _
theorem Hb(q:QD)(l:List AV):jl q l<=l.length:=List.length_filter_le _ _
structure Ss where
 bs:List AV
 q:QD
 ag:Bool
 g:Int
 k:Nat
 i:Nat
abbrev wY(x:Ss):S:=OH x.bs x.q x.ag x.g (cI x.k x.i) x.i
def pO(x:Ss):Prop:=JA x.bs x.q x.ag x.k/\x.i<=x.bs.length
def KX(x:Ss):Out (Exit×S):= .one (.exit 0,sp 104 [(5, .bool true),(11, .int x.g),(12, .int 1)] [])
theorem lBh(κ:Kp):bk (Ir κ).E 12 5 11 (aP 0 wY pO KX):=by
 refine aL (fun x=>x.bs.length - x.i) ?_
 rintro⟨bs,q,ag,g,k,i⟩ K ⟨hG,hi⟩ ho
 simp only at hG hi
 rw[show(Ir κ).E.P=Pr κ from rfl]
 refine Eq.mpr (xBh κ bs q ag g (cI k i) i _ _ K) ?_
 have hlen:=hG.len
 have hkk:=hG.hk
 have hc1:=T6 k i
 simp only[Int.toNat_natCast,Nat.zero_add]
 rw[af,aa2,aa4]
 refine⟨fun h=>?_,fun h=>?_⟩
 ·have hj:i<bs.length:=by omega
  have h1:=hG.f1 i hj
  have h2:=hG.f2 i hj
  have h0:=hG.f0 i hj
  have l1:=Hb q (JH bs i)
  have l2:=Hb q (M9 bs i)
  have m1:=(aa3 _ _▸h1).1
  have m2:=(aa3 _ _▸h2).1
  rw[aa2] at m1 m2
  have hb:(true&&decide ((i:Int)<(bs.length:Int)))=true:=by simp;omega
  have next: ∀c:Nat,c=cI k (i+1)->∃m,m<bs.length - i/\eY wY pO KX (fun x=>x.bs.length - x.i) K m (OH bs q ag g c (i+1)):=by
   rintro c rfl
   exact⟨_,by simp only;omega,⟨bs,q,ag,g,k,i+1⟩,rfl,⟨hG,hj⟩,rfl,ho⟩
  rw[aW (n:=(i:Int)+1) (by omega) (by omega),aW (n:=(cI k i:Int)+1) (by omega) (by omega),aW (n:=(jl q (JH bs i):Int)+(jl q (M9 bs i):Int)) (by omega) (by omega)]
  refine an.2 ⟨hb,an.2 ⟨h1,an.2 ⟨hb,an.2 ⟨h2,?_⟩⟩⟩⟩
  rw[af]
  refine⟨fun e=>?_,fun e=>?_⟩
  ·have e:(jl q (JH bs i):Int)+(jl q (M9 bs i):Int)=0:=by simpa using e
   have hne:i≠k:=by
    rintro rfl
    cases hag:ag with
    |true=>exact hG.Zw hag (by omega)
    |false=>exact hG.ZI hag (by omega)
   exact next _ (Nq hne).symm
  ·have e: ¬ (jl q (JH bs i):Int)+(jl q (M9 bs i):Int)=0:=by simpa using e
   have he:i=k:=by
    rcases Nat.decEq i k with hne|he
    ·exact absurd (hG.off i hj hne) (fun hh=>e (by rw[hh.1,hh.2];rfl))
    ·exact he
   subst he
   have hn:=next _ (UT i).symm
   have hhas:(!tD q.rel (Rx bs i))=false:=by rw[hG.has];rfl
   have tail:ba (true&&decide ((i:Int)<(bs.length:Int))) (ba (decide ((Rx bs i).length<=9223372036854775807)) (aC (!tD q.rel (Rx bs i)) (K .ret (sp 104 [(4, .bool false)] [])) (∃m,m<bs.length - i/\eY wY pO KX (fun x=>x.bs.length - x.i) K m (OH bs q ag g (cI i i+1) (i+1))))):=
    an.2 ⟨hb,an.2 ⟨by rw[aa2];omega,af.2 ⟨fun e=>(by rw[hhas] at e;cases e),fun _=>hn⟩⟩⟩
   cases hag:ag with
   |true=>
    rw[hag] at tail
    have hz:((jl q (M9 bs i):Int)==0)=false:=by have:=hG.Zw hag;simp;omega
    refine af.2 ⟨fun _=>af.2 ⟨fun e=>absurd (hz.symm.trans e) (by decide),fun _=>af.2 ⟨fun e=>(by cases e),fun _=>tail⟩⟩,fun e=>by cases e⟩
   |false=>
    rw[hag] at tail
    have hz:((jl q (JH bs i):Int)==0)=false:=by have:=hG.ZI hag;simp;omega
    refine af.2 ⟨fun e=>(by cases e),fun _=>af.2 ⟨fun _=>af.2 ⟨fun e=>absurd (hz.symm.trans e) (by decide),fun _=>tail⟩,fun e=>by cases e⟩⟩
 ·have:cI k i=1:=by unfold cI;rw[aa6 (show ¬ i<=k by omega)];rfl
  rw[this]
  exact ho
noncomputable def Wu(κ:Kp):EB:=(Ir κ).loop (lBh κ)
theorem Ut(κ:Kp): ∀args st K,aR zU (fun x=>eX x.ds x.rs) v7 args st K->dq (Wu κ).E.P 17 args st K:=fun args st K h=>(Ot κ).ok.call _ args st K (show(Ot κ).E.call 17 args st K from h)
noncomputable def XE(κ:Kp):EB:=⟨(Wu κ).E.ay 17 (aR zU (fun x=>eX x.ds x.rs) v7),(Wu κ).ok.iE (Ut κ),(Wu κ).mono.ay aK⟩
theorem yBh(κ:Kp)(ds rs:List AV)(k:Int)(K:AV->List Dn.Obj->Prop):(bf (XE κ).E 12 5 [gS ds rs, .int k] [] K)=(
 letI z1:=Pg.toProgram (Env.P (EB.E (Ir κ)))
 ba (decide (ds.length<=9223372036854775807)&&List.all ds fun(e0:AV)=>decide (List.length (ai (ae e0 1))<=9223372036854775807)) (aC ((bif sl ds rs then
 (1:Int) else(0:Int))==(0:Int)) (K (AV.bool true) []) (∃(e3:sm),([AV.agg [AV.ad 61 ds,AV.ad 66 rs]],[])=RT e3/\EN e3/\aC (decide (Prod.snd (s8
 e3.1 e3.2)=(0:Int))) (∃(e2:QZ),([AV.agg [AV.ad 61 ds,AV.ad 66 rs],AV.int k],[])=zU e2/\(e2.ds.length<=9223372036854775807/\e2.rs.length<=
 9223372036854775807/\∀(e0:AV),List.Mem e0 e2.rs->aO (aa (bn 56 (cq.hl (dW e0)) (cq.bl (dW e0))))<=100000/\List.length (cq.bl (dW e0))<=100000)/\aC
 (decide (qn e2.ds e2.rs e2.k e2.k (↑(e2.rs.length):Int)=(0:Int))) (∃(e1:Qb),([AV.agg [AV.ad 61 ds,AV.ad 66 rs],AV.int k],[])=IP e1/\so e1/\ah
 z1 5 11=ah z1 5 11/\∃(e0:Ss),sp 104 [(5,AV.bool true),(6,AV.ar 0 0 (List.length (hJ e3.1 e3.2))),(8,AV.ptr 1 0 [] 0),(10,AV.bool (Jk e1.ds e1.rs
 e1.k)),(11,AV.int (qn e1.ds e1.rs e1.k e1.k (↑(e1.rs.length):Int))),(12,AV.int 0),(13,AV.int 0)] [Obj.row 41 (hJ e3.1 e3.2),Obj.box 45 (AV.agg [AV.int
 (QD.rel (dm e2.ds (dW (nth e2.rs e2.k.toNat)))),AV.ad 58 (QD.steps (dm e2.ds (dW (nth e2.rs e2.k.toNat)))),AV.ad 56 (QD.out (dm e2.ds (dW (nth e2.rs
 e2.k.toNat)))),AV.int (QD.delta (dm e2.ds (dW (nth e2.rs e2.k.toNat))))])]=wY e0/\pO e0/\aC (e0.g==(0:Int)) (K (AV.bool true) []) (K (AV.bool false)
 [])) (aC (qn e2.ds e2.rs e2.k e2.k (↑(e2.rs.length):Int) != (0:Int)) (K (AV.bool true) []) (∃(e1:Qb),([AV.agg [AV.ad 61 ds,AV.ad 66 rs],AV.int k],[])
 =IP e1/\so e1/\ah z1 5 11=ah z1 5 11/\∃(e0:Ss),sp 104 [(5,AV.bool true),(6,AV.ar 0 0 (List.length (hJ e3.1 e3.2))),(8,AV.ptr 1 0 [] 0),(10,
 AV.bool (Jk e1.ds e1.rs e1.k)),(11,AV.int (qn e1.ds e1.rs e1.k e1.k (↑(e1.rs.length):Int))),(12,AV.int 0),(13,AV.int 0)] [Obj.row 41 (hJ e3.1 e3.2),
 Obj.box 45 (AV.agg [AV.int 0,AV.nil,AV.nil,AV.int 0])]=wY e0/\pO e0/\aC (e0.g==(0:Int)) (K (AV.bool true) []) (K (AV.bool false) [])))) (∃(e2:QZ),
 ([AV.agg [AV.ad 61 ds,AV.ad 66 rs],AV.int k],[])=zU e2/\(e2.ds.length<=9223372036854775807/\e2.rs.length<=9223372036854775807/\∀(e0:AV),List.Mem
 e0 e2.rs->aO (aa (bn 56 (cq.hl (dW e0)) (cq.bl (dW e0))))<=100000/\List.length (cq.bl (dW e0))<=100000)/\aC (decide (qn e2.ds e2.rs e2.k e2.k
 (↑(e2.rs.length):Int)=(0:Int))) (aC (Prod.snd (s8 e3.1 e3.2) != (0:Int)) (K (AV.bool true) []) (∃(e1:Qb),([AV.agg [AV.ad 61 ds,AV.ad 66 rs],AV.int
 k],[])=IP e1/\so e1/\ah z1 5 11=ah z1 5 11/\∃(e0:Ss),sp 104 [(5,AV.bool true),(6,AV.nil),(8,AV.ptr 0 0 [] 0),(10,AV.bool (Jk e1.ds e1.rs
 e1.k)),(11,AV.int (qn e1.ds e1.rs e1.k e1.k (↑(e1.rs.length):Int))),(12,AV.int 0),(13,AV.int 0)] [Obj.box 45 (AV.agg [AV.int (QD.rel (dm e2.ds (dW (nth
 e2.rs e2.k.toNat)))),AV.ad 58 (QD.steps (dm e2.ds (dW (nth e2.rs e2.k.toNat)))),AV.ad 56 (QD.out (dm e2.ds (dW (nth e2.rs e2.k.toNat)))),AV.int (QD.delta (dm
 e2.ds (dW (nth e2.rs e2.k.toNat))))])]=wY e0/\pO e0/\aC (e0.g==(0:Int)) (K (AV.bool true) []) (K (AV.bool false) []))) (aC (Prod.snd (s8 e3.1 e3.2) !=
 (0:Int)) (K (AV.bool true) []) (aC (qn e2.ds e2.rs e2.k e2.k (↑(e2.rs.length):Int) != (0:Int)) (K (AV.bool true) []) (∃(e1:Qb),([AV.agg [AV.ad 61 ds,
 AV.ad 66 rs],AV.int k],[])=IP e1/\so e1/\ah z1 5 11=ah z1 5 11/\∃(e0:Ss),sp 104 [(5,AV.bool true),(6,AV.nil),(8,AV.ptr 0 0 [] 0),(10,AV.bool
 (Jk e1.ds e1.rs e1.k)),(11,AV.int (qn e1.ds e1.rs e1.k e1.k (↑(e1.rs.length):Int))),(12,AV.int 0),(13,AV.int 0)] [Obj.box 45 (AV.agg [AV.int 0,AV.nil,
 AV.nil,AV.int 0])]=wY e0/\pO e0/\aC (e0.g==(0:Int)) (K (AV.bool true) []) (K (AV.bool false) [])))))))):=by kernel_rfl
end Go.Proofs.YthaiinlfnommnaaGreatDoor
namespace Go.Proofs.YthaiinlfnommnaaGreatDoor
open Go Go.Dn Go.Rl Go.Proofs
theorem IB(a b:List AV):aa (a++b)=aa a++aa b:=by simp[aa]
theorem N3(t:AT):cx (ID t)=t.tm:=by rw[iU,qo];rfl
theorem MJ(bd:List AV)(s:SS)(e:Int×AT):aO (aa (tE bd s e).cG)<=aO (aa s.cG)+e.2.tm.gu:=by
 unfold tE
 cases !Bw bd e.2 with
 |true=>
  simp only[aa9]
  rw[IB,mg,show aa [ID e.2]=[cx (ID e.2)] from rfl,N3]
  simp only[aO];omega
 |false=>
  cases lT e.2.s (strs s.binds) with
  |true=>simp only[aa9,aa7];omega
  |false=>simp only[aa7];omega
theorem M5(bd:List AV): ∀(l:List (Int×AT)) (s:SS),aO (aa (l.foldl (tE bd) s).cG)<=aO (aa s.cG)+(l.map fun e=>e.2.tm.gu).sum
 |[],_=>Nat.le_add_right _ _
 |e::l,s=>by
  have h1:=M5 bd l (tE bd s e)
  have h2:=MJ bd s e
  rw[List.foldl_cons,ac2,List.sum_cons];omega
theorem CE: ∀(l:List AV) (i:Int),((ez l i).map fun e=>e.2.tm.gu).sum<=aO (aa l)
 |[],_=>Nat.zero_le _
 |t::l,i=>by
  have h:=CE l (i+1)
  have h2:aO (aa (t::l))=(cx t).gu+aO (aa l):=rfl
  rw[ez]
  cases decide (toInt (ae t 0)=4) with
  |true=>rw[aa9];omega
  |false=>rw[aa7,ac2,List.sum_cons,lb];omega
theorem RO{bd:List AV}{l:List AV}(h:aO (aa l)<=100000):aO (aa (gY bd (ez l 0)).cG)<=100000/\(gY bd (ez l 0)).le 100000:=by
 have h1:=M5 bd (ez l 0) L2
 have h2:=CE l 0
 have h3:=Lm (bd:=bd) (ez l 0) MQ
 have h4:=wK l 0
 have h5:=eB (aa l)
 rw[dz] at h5
 have h0:aO (aa L2.cG)=0:=rfl
 refine⟨?_,?_⟩
 ·unfold gY;omega
 ·obtain⟨a,b,c,d,e,f⟩:=h3
  unfold gY
  exact⟨by omega,by omega,by omega,by omega,by omega,by omega⟩
theorem lA(d:SD)(hX:aO (aa d.X.l)<=100000)(hY:aO (aa d.Y.l)<=100000)(ht:aO (aa d.q.cG)<=100000)(hs:d.q.le 100000):CC (Nf (P3 d))=true:=by
 obtain⟨a,_,c,e,f,g⟩:=hs
 have h1:(iA d.q.eO).length<=aM:=by rw[fv];simp only[aM];omega
 have h2:(iA d.q.c9).length<=aM:=by rw[fv];simp only[aM];omega
 have h3:(iA d.q.c6).length<=aM:=by rw[fv];simp only[aM];omega
 have h4:(strs d.q.binds).length<=aM:=by rw[aX];simp only[aM];omega
 have h5:(strs d.q.eqs).length<=aM:=by rw[aX];simp only[aM];omega
 show((decide (aO (aa d.X.l)<=100000)&&(decide (aO (aa d.Y.l)<=100000)&&decide (aO (aa d.q.cG)<=100000)))&&(decide ((iA d.q.eO).length<=aM)&&(decide ((iA d.q.c9).length<=aM)&&(decide ((iA d.q.c6).length<=aM)&&(decide ((strs d.q.binds).length<=aM)&&decide ((strs d.q.eqs).length<=aM))))))=true
 rw[aa8 hX,aa8 hY,aa8 ht,aa8 h1,aa8 h2,aa8 h3,aa8 h4,aa8 h5]
 rfl
theorem D0(t:AT):aO (aa t.l)<=t.tm.gu:=by
 show _<=1+aO (aa t.l)
 omega
theorem xP(t:AT):aO (aa (wD t).l)<=t.tm.gu:=by
 show aO (aa (cL (aa t.l)))<=_
 rw[qo];exact D0 t
theorem Mo(ds bd:List AV)(rel:ByteArray)(l:List AV)(op:Int)(u v:AT)(hl:aO (aa l)<=100000)(hu:u.tm.gu<=100000)(hv:v.tm.gu<=100000):CC (Nf (P3 (tJ ds bd rel l op u v)))=true:=by
 have hz:aO (aa zT.l)<=100000:=Nat.zero_le _
 have h0:aO (aa L2.cG)<=100000:=Nat.zero_le _
 have h00:L2.le 100000:=⟨Nat.zero_le _,Nat.zero_le _,Nat.zero_le _,Nat.zero_le _,Nat.zero_le _,Nat.zero_le _⟩
 have hq:=RO (bd:=bd) hl
 have eu:=Nat.le_trans (xP u) hu
 have ev:=Nat.le_trans (xP v) hv
 have au:=Nat.le_trans (D0 u) hu
 have av:=Nat.le_trans (D0 v) hv
 unfold tJ
 cases op==2 with
 |true=>exact lA _ hz hz hq.1 hq.2
 |false=>
 cases op==1 with
 |true=>exact lA _ hz hz hq.1 hq.2
 |false=>
 cases op==3 with
 | true=>
  cases Bw bd u with
  |true=>exact lA _ ev hz h0 h00
  |false=>
   cases Bw bd v with
   |true=>exact lA _ eu hz h0 h00
   |false=>exact lA _ eu ev h0 h00
 |false=>
 cases op==4||(op==5||op==6) with
 |true=>exact lA _ eu ev h0 h00
 |false=>
 cases Bw bd u with
 |true=>exact lA _ hz av hq.1 hq.2
 |false=>exact lA _ au av hq.1 hq.2
theorem yQ{ds:List AV}{a:cq}(h:Se a):sd (dm ds a)=true:=by
 have hb:=h.s.2
 have hw:=kt h.f
 have hh:aO (aa a.hl)<=100000:=by
  have h1:=h.s.1
  rw[lj 56 a.rel a.hl a.bl] at h1
  simp only[n9] at h1;omega
 show(decide (aO (aa (cL (aa a.hl)))<=100000)&&(decide ((iI ds a (bU (aH a)).length).length<=100000)&&(iI ds a (bU (aH a)).length).all fun x=>CC (Nf x)))=true
 rw[qo,aa8 hh,pI,aa8 (by omega),ac1,ac1,List.all_eq_true]
 intro x hx
 obtain⟨k,hk,rfl⟩:=List.mem_map.1 hx
 have hk:=List.mem_range.1 hk
 have hwk:(bU (aH a))[k]<a.bl.length:=by
  have:=q8 (List.getElem_mem hk)
  rwa [fB] at this
 have hgd:(bU (aH a)).getD k 0=(bU (aH a))[k]:=by simp[List.getD_eq_getElem?_getD,hk]
 have hm:nth a.bl ((bU (aH a)).getD k 0)∈a.bl:=by rw[hgd,aZ _ _ hwk];exact List.getElem_mem _
 have hf:=Cn h.s hm
 exact Mo ds _ _ _ _ _ _ hf.1 (by rw[lb];exact hf.2.1) (by rw[lb];exact hf.2.2)
theorem J2(q:QD):Jl (qA q)=q:=rfl
theorem I6{a b:QD}(h:alike a b=true):a.rel=b.rel:=by
 rw[alike,aa3,aa2] at h
 exact h.1
theorem y9(d:SV):kn d d=true:=by
 simp only[kn,Mn,uI,Fo,decide_true,Bool.and_true,jn,ll,beq_self_eq_true]
theorem BD: ∀l:List AV,O8 l l=true
 |[]=>rfl
 |x::l=>by rw[O8,y9,BD l];rfl
theorem uA{a b:QD}(h1:a.rel=b.rel)(h2:a.steps=b.steps)(h3:a.out=b.out):alike a b=true:=by
 rw[alike,aa8 h1,h2,h3,uI,BD];rfl
theorem yN{q:QD}{l:List QD}(h: ∀x,x∈l->x.rel≠q.rel):jl q (l.map qA)=0:=by
 unfold jl
 rw[List.length_eq_zero_iff,List.filter_eq_nil_iff]
 intro x hx
 obtain⟨y,hy,rfl⟩:=List.mem_map.1 hx
 rw[J2]
 exact fun e=>h y hy (I6 e)
theorem Bh{q x:QD}{l:List QD}(h:x∈l)(ha:alike x q=true):jl q (l.map qA)≠0:=by
 unfold jl
 rw[Ne,List.length_eq_zero_iff,List.filter_eq_nil_iff]
 exact fun k=>k (qA x) (List.mem_map_of_mem h) (by rw[J2];exact ha)
theorem RH{ds rs:List AV}(hs:eX ds rs)(hc:(ft ds rs).2=0){g:List Int}{x:QD}(h:x∈xj ds rs g rs):sd x=true:=by
 obtain⟨r,h1,_,_,rfl⟩:=uf h
 exact yQ (qw hs hc h1)
theorem Rh{ds rs:List AV}(hs:eX ds rs)(hc:(ft ds rs).2=0){g:List Int}{x:QD}(h:x∈xh ds rs g rs):sd x=true:=by
 obtain⟨r,h1,_,_,h4⟩:=Ap h
 have h5:=qX h4
 have h6:=yQ (ds:=ds) (qw hs hc h1)
 unfold sd at h6⊢
 rw[h5.2.1,h5.2.2];exact h6
theorem Nz{ds rs:List AV}(hs:eX ds rs)(hc:(ft ds rs).2=0){k:Nat}(hk:k<rs.length){j:Nat}(hj:j<(jO ds rs).length)(hm:uq ds (nth rs k)∈(jO ds rs)[j])
  (hrec:Gn ds rs (nth rs k)=true->∃s,s∈(A5 ds (nth rs k)).steps/\toInt (ae s 0)=1/\toInt (ae s 2)∈(jO ds rs)[j]):JA (hJ ds rs) (A5 ds (nth rs k)) (Gn ds rs (nth rs k)) j:=by
 have hf:=iR hc
 have hr:=hf.hr
 have hd:=hf.hd
 have hl:=G8 ds rs
 have hx:nth rs k∈rs:=by rw[aZ _ _ hk];exact List.getElem_mem _
 have hO: ∀i (h:i<(jO ds rs).length),JH (hJ ds rs) i=(xj ds rs (jO ds rs)[i] rs).map qA:=fun i h=>by unfold JH;rw[zr _ _ _ h];rfl
 have hL: ∀i (h:i<(jO ds rs).length),M9 (hJ ds rs) i=(xh ds rs (jO ds rs)[i] rs).map qA:=fun i h=>by unfold M9;rw[zr _ _ _ h];rfl
 have hR: ∀i (h:i<(jO ds rs).length),Rx (hJ ds rs) i=iA (jO ds rs)[i]:=fun i h=>by unfold Rx;rw[zr _ _ _ h];rfl
 have hdis:=(Bk hf).sI
 refine⟨by rw[mP];exact hj,by rw[mP];omega,fun i hi=>?_,fun i hi=>?_,fun i hi=>?_,fun i hi hne=>?_,fun ha=>?_,fun ha=>?_,?_⟩
 ·rw[mP] at hi
  rw[hO i hi,aa3,aa2,List.all_eq_true,List.length_map]
  refine⟨?_,fun y hy=>?_⟩
  ·have:(xj ds rs (jO ds rs)[i] rs).length<=rs.length:=Ah _ _ _ _ _
   omega
  ·obtain⟨x,h1,rfl⟩:=List.mem_map.1 hy
   exact RH hs hc h1
 ·rw[mP] at hi
  rw[hL i hi,aa3,aa2,List.all_eq_true,List.length_map]
  refine⟨?_,fun y hy=>?_⟩
  ·have:(xh ds rs (jO ds rs)[i] rs).length<=rs.length*100000:=zI _ _ _ _ _ _ fun r h=>Fy hs hc h
   omega
  ·obtain⟨x,h1,rfl⟩:=List.mem_map.1 hy
   exact Rh hs hc h1
 ·rw[mP] at hi
  rw[hR i hi,fv]
  exact Nat.le_trans (FL (List.getElem_mem hi)) hd
 ·rw[mP] at hi
  rw[hO i hi,hL i hi]
  exact⟨yN fun x h e=>hne (BK hdis hi hj (c:=uq ds (nth rs k)) (by have:=R8 h;rwa [e] at this) hm),yN fun x h e=>hne (BK hdis hi hj (c:=uq ds (nth rs k)) (by have:=QE h;rwa [e] at this) hm)⟩
 ·obtain⟨s,h1,h2,h3⟩:=hrec ha
  rw[hL j hj]
  have h4:=Lg (q:=A5 ds (nth rs k)) (i:=0) h1 h2 h3
  obtain⟨x,h5⟩:=List.exists_mem_of_ne_nil _ h4
  have h6:=qX h5
  exact Bh (x:=x) (JU hx hm ha h5) (uA h6.1 h6.2.1 h6.2.2)
 ·rw[hO j hj]
  exact Bh (KD hx hm ha) (uA rfl rfl rfl)
 ·rw[hR j hj]
  unfold tD
  rw[List.any_eq_true]
  exact⟨_,List.mem_map_of_mem hm,by simp[toInt,O5]⟩
theorem Ki{ds rs:List AV}(hs:eX ds rs)(hc:(ft ds rs).2=0){k:Nat}(hk:k<rs.length){g:List Int}(hg:g∈jO ds rs)(hm:uq ds (nth rs k)∈g)(ha:Gn ds rs (nth rs k)=true): ∃s,s∈(A5 ds (nth rs k)).steps/\toInt (ae s 0)=1/\toInt (ae s 2)∈g:=by
 have hx:nth rs k∈rs:=by rw[aZ _ _ hk];exact List.getElem_mem _
 have hG:=ry hs hc _ hx
 have hR:=qw hs hc hx
 have ha:((ai (ae (nth rs k) 1)).any fun l=>fH (toInt (ae l 0))&&gr ds.length (jm ds rs) (oN ds rs) (uq ds (nth rs k)) (bD (toStr (ae (ae l 1) 0)) ds))=true:=ha
 obtain⟨l,hl,h1⟩:=List.any_eq_true.1 ha
 rw[aa3] at h1
 have ho:toInt (ae l 0)=1:=by simpa[fH] using h1.1
 have hcl:=EU (iR hc) hg hm (hG.at_ l hl (qU h1.1)) h1.2
 obtain⟨p,hp,hpl⟩:=List.getElem_of_mem hl
 have hp':p<(dW (nth rs k)).bl.length:=hp
 have hw:=Kx hR.f hp'
 obtain⟨q,hq,hqe⟩:=List.getElem_of_mem hw
 have hgd:(bU (aH (dW (nth rs k)))).getD q 0=p:=by simp[List.getD_eq_getElem?_getD,hq,hqe]
 have hn:nth (dW (nth rs k)).bl p=l:=by rw[aZ _ _ hp'];exact hpl
 refine⟨_,List.mem_map.2 ⟨q,List.mem_range.2 hq,rfl⟩,?_⟩
 rw[hgd,hn]
 have h2:=Ou ds (strs (jQ (aH (dW (nth rs k))) q)) l ho
 exact⟨h2.1,by rw[h2.2];exact hcl⟩
end Go.Proofs.YthaiinlfnommnaaGreatDoor
