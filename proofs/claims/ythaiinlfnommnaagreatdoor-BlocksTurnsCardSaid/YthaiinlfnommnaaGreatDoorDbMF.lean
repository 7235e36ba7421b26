import Derived.Test.YthaiinlfnommnaaGreatDoorDbME
import Derived.Test.YthaiinlfnommnaaGreatDoorDbMA
import Derived.Test.YthaiinlfnommnaaGreatDoorDoK
import Derived.Shelf.Sort.Plain
import Derived.Shelf.Slices.CompactI
import Derived.Shelf.Slices.In.SortNone
namespace Go.Proofs.YthaiinlfnommnaaGreatDoor
open Go Go.Dn Go.Rl Go.Proofs
theorem Gu{n m:Nat}{L:Gr}{g:List Int}: ∀(f:Nat) (done:List Int),g∈sf n m L f done->∃a:Int,0<=a/\g=gO n m L a
 |0,_,h=>by cases h
 | f+1,done,h=>by
  rw[sf] at h
  cases e:decide (fU n m L done<0) with
  |true=>rw[e] at h;cases h
  |false=>
   rw[e,aa6] at h
   rcases List.mem_cons.1 h with rfl|h
   ·exact⟨_,by simpa using e,rfl⟩
   ·exact Gu f _ h
end Go.Proofs.YthaiinlfnommnaaGreatDoor
namespace Go.Proofs.YthaiinlfnommnaaGreatDoor
open Go Go.Dn Go.Rl Go.Proofs
attribute [local irreducible] ba vc
set_option maxRecDepth 20000
def EB.still(b:EB)(l:List Nat):EB:=⟨{b.E with quiet:=fun f=>jk f l||b.E.quiet f},⟨b.ok.prog,b.ok.gQ,b.ok.call,b.ok.kZ,b.ok.loop⟩,⟨b.mono.call,b.mono.loop,b.mono.kZ⟩⟩
def EB.owns(b:EB)(l:List Nat):EB:=⟨{b.E with own:=fun f=>jk f l||b.E.own f},⟨b.ok.prog,b.ok.gQ,b.ok.call,b.ok.kZ,b.ok.loop⟩,⟨b.mono.call,b.mono.loop,b.mono.kZ⟩⟩
noncomputable def Qc(κ:Kp):EB:=EB.owns (EB.still (BLi κ) [20,24,10,11]) [51,52]
theorem xHj(κ:Kp)(l:List AV)(k:Int)(i:Nat)(I:Nat->S->Prop)(n:Nat)(K:Exit->S->Prop):(vc (Qc κ).E 12 20 none 0 (af (Pr κ).toProgram 20 2) (sp 18 [(0, .ad 3 l),(1, .int k),(5, .int i)] []) (bJ (Qc κ).E 20 2 0 I n K))=(
 letI z1:=(↑i:Int)<(↑(l.length):Int)
 aD (decide z1) (a7 (true&&decide z1) (aD (toInt (nth l (Int.toNat (↑i:Int)))==k) (K Exit.ret (sp 18 [(4,AV.bool true)] [])) (∃(e0:Nat),e0<n/\I e0
 (sp 18 [(0,AV.ad 3 l),(1,AV.int k),(5,AV.int (IntKind.wrap IntKind.i64 ((↑i:Int)+(1:Int))))] [])))) (K (Exit.exit 0) (sp 18 [] []))):=by kernel_rfl
def sW(k:Int)(l:List AV):Bool:=l.any fun x=>toInt x==k
structure VH where
 l:List AV
 k:Int
 i:Nat
abbrev Ux(x:VH):S:=sp 18 [(0, .ad 3 x.l),(1, .int x.k),(5, .int x.i)] []
def LS(x:VH):Prop:=x.l.length<=aR/\x.i<=x.l.length
def Lq(x:VH):Out (Exit×S):= .aD (sW x.k (x.l.drop x.i)) (.one (.ret,sp 18 [(4, .bool true)] [])) (.one (.exit 0,sp 18 [] []))
theorem lHj(κ:Kp):bj (Qc κ).E 12 20 2 (aO 0 Ux LS Lq):=by
 refine aK (fun x=>x.l.length - x.i) ?_
 rintro⟨l,k,i⟩ K ⟨h1,h4⟩ ho
 simp only at h1 h4
 simp only[aR] at h1
 rw[show(Qc κ).E.P=Pr κ from rfl]
 refine Eq.mpr (xHj κ l k i _ _ K) ?_
 simp only[Lq,Out.run,ah] at ho
 simp only[Int.toNat_natCast]
 rw[ah,aa1,aa3]
 refine⟨fun h=>?_,fun h=>?_⟩
 ·have hk:i<l.length:=by omega
  rw[ab2 hk,←bf _ _ hk,sW,List.any_cons] at ho
  refine an.2 ⟨by simp;omega,ah.2 ⟨fun e=>ho.1 ?_,fun e=>?_⟩⟩
  ·rw[e,Bool.true_or]
  ·rw[e,Bool.false_or] at ho
   rw[aV (n:=(i:Int)+1) (by omega) (by omega)]
   refine⟨_,?_,⟨l,k,i+1⟩,rfl,⟨by simpa[aR] using h1,hk⟩,rfl,?_⟩
   ·simp only;omega
   ·simp only[Lq,Out.run,ah]
    exact ho
 ·rw[aa9 (by omega)] at ho
  exact ho.2 rfl
noncomputable def Xc(κ:Kp):EB:=(Qc κ).loop (lHj κ)
theorem yHj(κ:Kp)(l:List AV)(k:Int)(K:AV->List Dn.Obj->Prop):(ba (Xc κ).E 12 20 [.ad 3 l, .int k] [] K)=(
 letI z1:=Pg.toProgram (Env.P (EB.E (Qc κ)))
 af z1 20 2=af z1 20 2/\∃(e0:VH),sp 18 [(0,AV.ad 3 l),(1,AV.int k),(5,AV.int 0)] []=Ux e0/\LS e0/\aD (sW e0.k (List.drop e0.i e0.l)) (K (AV.bool
 true) []) (K (AV.bool false) [])):=by kernel_rfl
def Zp:List AV->Option (Bool×AV)
 |[.ad 3 l, .lit (.int .i64 k)]=>some (decide (l.length<=aR), .bool (sW k l))
 |_=>none
theorem pHj(κ:Kp):cQ (Xc κ).E 12 20 Zp:=by
 intro args x hh
 unfold Zp at hh
 split at hh
 ·rename_i l k
  simp only[aa4,ab0,aa1] at hh
  obtain⟨h1,rfl⟩:=hh
  refine⟨_,rfl,rfl,?_⟩
  refine Eq.mpr (yHj κ l k _) ?_
  refine⟨rfl,⟨l,k,0⟩,rfl,⟨h1,Nat.zero_le _⟩,?_⟩
  simp only[ab1,ah]
  exact⟨fun e=>by rw[e],fun e=>by rw[e]⟩
 ·cases hh
noncomputable def VM(κ:Kp):EB:=(Xc κ).pure (pHj κ)
end Go.Proofs.YthaiinlfnommnaaGreatDoor
namespace Go.Proofs.YthaiinlfnommnaaGreatDoor
open Go Go.Dn Go.Rl Go.Proofs Go.Shelf
attribute [local irreducible] ba vc
set_option maxRecDepth 20000
def B3:Go.Shelf.Ren:=⟨fun|189=>51|125=>91|257=>90|128=>161|129=>162|294=>152|295=>153|296=>154|297=>155|298=>156|299=>157|216=>158|300=>159|301=>160|328=>214|329=>215|330=>216|331=>217|332=>218|215=>219|343=>252|n=>n,fun|28=>38|3=>3|46=>150|0=>0|51=>213|53=>215|4=>4|183=>207|182=>206|131=>79|5=>5|9=>9|218=>264|222=>268|228=>300|229=>301|n=>n,fun n=>n⟩
def w8:Go.Shelf.Ren:=⟨fun|20=>52|n=>n,fun|22=>38|3=>3|4=>4|0=>0|n=>n,fun n=>n⟩
theorem Hm:Lays.n189 Tryz.prog B3:={mixed:=by kernel_rfl,f125:=Tryz.func91.trans (congrArg some (by kernel_rfl)),f128:=Tryz.func161.trans (congrArg some (by kernel_rfl)),f129:=Tryz.func162.trans (congrArg some (by kernel_rfl)),f189:=Tryz.func51.trans (congrArg some (by kernel_rfl)),f215:=Tryz.func219.trans (congrArg some (by kernel_rfl)),f216:=Tryz.func158.trans (congrArg some (by kernel_rfl)),f257:=Tryz.func90.trans (congrArg some (by kernel_rfl)),f294:=Tryz.func152.trans (congrArg some (by kernel_rfl)),f295:=Tryz.func153.trans (congrArg some (by kernel_rfl)),f296:=Tryz.func154.trans (congrArg some (by kernel_rfl)),f297:=Tryz.func155.trans (congrArg some (by kernel_rfl)),f298:=Tryz.func156.trans (congrArg some (by kernel_rfl)),f299:=Tryz.func157.trans (congrArg some (by kernel_rfl)),f300:=Tryz.func159.trans (congrArg some (by kernel_rfl)),f301:=Tryz.func160.trans (congrArg some (by kernel_rfl)),f328:=Tryz.func214.trans (congrArg some (by kernel_rfl)),f329:=Tryz.func215.trans (congrArg some (by kernel_rfl)),f330:=Tryz.func216.trans (congrArg some (by kernel_rfl)),f331:=Tryz.func217.trans (congrArg some (by kernel_rfl)),f332:=Tryz.func218.trans (congrArg some (by kernel_rfl)),f343:=Tryz.func252.trans (congrArg some (by kernel_rfl)),t0:=Tryz.underlying0,a0:=Tryz.isAgg0,z0:=Tryz.sizeOf0,v0:=Tryz.zeroValue0,t3:=Tryz.underlying3,a3:=Tryz.isAgg3,z3:=Tryz.sizeOf3,v3:=Tryz.zeroValue3,t4:=Tryz.underlying4,a4:=Tryz.isAgg4,z4:=Tryz.sizeOf4,v4:=Tryz.zeroValue4,t5:=Tryz.underlying5,a5:=Tryz.isAgg5,z5:=Tryz.sizeOf5,v5:=Tryz.zeroValue5,t9:=Tryz.underlying9,a9:=Tryz.isAgg9,z9:=Tryz.sizeOf9,v9:=Tryz.zeroValue9,t28:=Tryz.underlying38,a28:=Tryz.isAgg38,z28:=Tryz.sizeOf38,v28:=Tryz.zeroValue38,t46:=Tryz.underlying150,a46:=Tryz.isAgg150,z46:=Tryz.sizeOf150,v46:=Tryz.zeroValue150,t51:=Tryz.underlying213,a51:=Tryz.isAgg213,z51:=Tryz.sizeOf213,v51:=Tryz.zeroValue213,t53:=Tryz.underlying215,a53:=Tryz.isAgg215,z53:=Tryz.sizeOf215,v53:=Tryz.zeroValue215,t131:=Tryz.underlying79,a131:=Tryz.isAgg79,z131:=Tryz.sizeOf79,v131:=Tryz.zeroValue79,t182:=Tryz.underlying206,a182:=Tryz.isAgg206,z182:=Tryz.sizeOf206,v182:=Tryz.zeroValue206,t183:=Tryz.underlying207,a183:=Tryz.isAgg207,z183:=Tryz.sizeOf207,v183:=Tryz.zeroValue207,t218:=Tryz.underlying264,a218:=Tryz.isAgg264,z218:=Tryz.sizeOf264,v218:=Tryz.zeroValue264,t222:=Tryz.underlying268,a222:=Tryz.isAgg268,z222:=Tryz.sizeOf268,v222:=Tryz.zeroValue268,t228:=Tryz.underlying300,a228:=Tryz.isAgg300,z228:=Tryz.sizeOf300,v228:=Tryz.zeroValue300,t229:=Tryz.underlying301,a229:=Tryz.isAgg301,z229:=Tryz.sizeOf301,v229:=Tryz.zeroValue301}
theorem xg:Lays2.n20 Tryz.prog w8:={mixed:=by kernel_rfl,f20:=Tryz.func52.trans (congrArg some (by kernel_rfl)),t0:=Tryz.underlying0,a0:=Tryz.isAgg0,z0:=Tryz.sizeOf0,v0:=Tryz.zeroValue0,t3:=Tryz.underlying3,a3:=Tryz.isAgg3,z3:=Tryz.sizeOf3,v3:=Tryz.zeroValue3,t4:=Tryz.underlying4,a4:=Tryz.isAgg4,z4:=Tryz.sizeOf4,v4:=Tryz.zeroValue4,t22:=Tryz.underlying38,a22:=Tryz.isAgg38,z22:=Tryz.sizeOf38,v22:=Tryz.zeroValue38,i3:=by kernel_rfl}
theorem UL(κ:Kp): ∀args st K,aL (fun zs:List Int=>([AV.aq 0 0 zs.length],[Dn.Obj.row 3 (cq zs)])) (fun zs=>zs.length<4611686018427387904) (fun zs=> .one (.bh [],[.row 3 (cq (nH zs))])) args st K->cM (VM κ).E.P 51 args st K:=
 Mo ⟨_,Tryz.func51,rfl⟩ Tryz.underlying3 (by kernel_rfl) (fun yO off cap zs w=>Any.slices_Sort_int Hm yO off cap zs w) (fun p cap w=>Any.slices_Sort_int_none Hm p cap w)
noncomputable def VU(κ:Kp):EB:=⟨(VM κ).E.aw 51 (aL (fun zs:List Int=>([AV.aq 0 0 zs.length],[Dn.Obj.row 3 (cq zs)])) (fun zs=>zs.length<4611686018427387904) (fun zs=> .one (.bh [],[.row 3 (cq (nH zs))]))),(VM κ).ok.gU (UL κ),(VM κ).mono.aw aJ⟩
theorem Uy(κ:Kp): ∀args st K,aL (fun zs:List Int=>([AV.aq 0 0 zs.length],[Dn.Obj.row 3 (cq zs)])) (fun zs=>zs.length<4611686018427387904) (fun zs=> .one (.aq 0 0 (iC zs).length,[.row 3 (cq (nw zs))])) args st K->cM (VU κ).E.P 52 args st K:=
 Bc ⟨_,Tryz.func52,rfl⟩ Tryz.underlying3 (by kernel_rfl) (fun yO off cap zs w=>Any.slices_Compact_int xg yO off cap zs w) (fun p cap w=>Any.slices_Compact_int_empty xg p cap w)
noncomputable def Ya(κ:Kp):EB:=⟨(VU κ).E.aw 52 (aL (fun zs:List Int=>([AV.aq 0 0 zs.length],[Dn.Obj.row 3 (cq zs)])) (fun zs=>zs.length<4611686018427387904) (fun zs=> .one (.aq 0 0 (iC zs).length,[.row 3 (cq (nw zs))]))),(VU κ).ok.gU (Uy κ),(VU κ).mono.aw aJ⟩
end Go.Proofs.YthaiinlfnommnaaGreatDoor
namespace Go.Proofs.YthaiinlfnommnaaGreatDoor
open Go Go.Dn Go.Rl Go.Proofs
def Bs(op:Int):Bool:=!decide (op=3)&& !decide (op=4)
def oI:List AV->List Int
 |[]=>[]
 |s::l=>bif Bs (toInt (ae s 0)) then toInt (ae s 2)::oI l else oI l
theorem yU{c:Int}: ∀{l:List AV},c∈oI l->∃s,s∈l/\Bs (toInt (ae s 0))=true/\c=toInt (ae s 2)
 |[],h=>by cases h
 | s::l,h=>by
  rw[oI] at h
  cases e:Bs (toInt (ae s 0)) with
  | true=>
   rw[e,aa8] at h
   rcases List.mem_cons.1 h with rfl|h
   ·exact⟨s,by simp,e,rfl⟩
   ·obtain⟨t,h1,h2⟩:=yU h
    exact⟨t,by simp[h1],h2⟩
  |false=>
   rw[e,aa6] at h
   obtain⟨t,h1,h2⟩:=yU h
   exact⟨t,by simp[h1],h2⟩
theorem Aq: ∀l:List AV,(oI l).length<=l.length
 |[]=>Nat.le_refl _
 |s::l=>by
  have:=Aq l
  rw[oI]
  cases Bs (toInt (ae s 0)) with
  |true=>rw[aa8];simp only[List.length_cons];omega
  |false=>rw[aa6];simp only[List.length_cons];omega
theorem Rg(ds bd:List AV)(rel:ByteArray)(l:List AV)(op:Int)(u v:AT)(h:Bs (s7 ds bd rel l op u v).op=true):dy op=true/\(s7 ds bd rel l op u v).rl=bw rel ds:=by
 unfold s7 at h⊢
 cases e2:op==2 with
 |true=>obtain rfl:=eq_of_beq e2;exact⟨rfl,rfl⟩
 |false=>
 rw[e2] at h
 cases e1:op==1 with
 |true=>obtain rfl:=eq_of_beq e1;exact⟨rfl,rfl⟩
 |false=>
 rw[e1] at h
 cases e3:op==3 with
 | true=>
  rw[e3] at h
  exfalso
  cases eu:C9 bd u with
  |true=>rw[eu] at h;cases h
  |false=>
   rw[eu] at h
   cases ev:C9 bd v with
   |true=>rw[ev] at h;cases h
   |false=>rw[ev] at h;cases h
 |false=>
 rw[e3] at h
 cases e4:op==4||(op==5||op==6) with
 |true=>rw[e4] at h;cases h
 |false=>
 simp only[beq_eq_false_iff_ne,ne_eq,Bool.or_eq_false_iff] at e1 e2 e3 e4
 have ha:dy op=true:=by
  unfold dy
  by_cases k:op<3
  ·rw[aa7 k];rfl
  ·rw[aa5 k,aa6,aa1];omega
 cases C9 bd u with
 |true=>exact⟨ha,rfl⟩
 |false=>exact⟨ha,rfl⟩
theorem VA{ds rs:List AV}(hs:fw ds rs)(hc:(fD ds rs).2=0){r:AV}(hr:r∈rs){c:Int}(h:c∈oI (I1 ds r).steps): ∃l,l∈ai (ae r 1)/\dy (toInt (ae l 0))=true/\c=bw (toStr (ae (ae l 1) 0)) ds:=by
 obtain⟨s,h1,h2,rfl⟩:=yU h
 obtain⟨k,hk,rfl⟩:=List.mem_map.1 h1
 have hk:=List.mem_range.1 hk
 have hwk:(b8 (aF (eo r)))[k]<(eo r).bl.length:=by
  have:=uB (List.getElem_mem hk)
  rwa [fW] at this
 have hgd:(b8 (aF (eo r))).getD k 0=(b8 (aF (eo r)))[k]:=by simp[List.getD_eq_getElem?_getD,hk]
 have hm:nth (eo r).bl ((b8 (aF (eo r))).getD k 0)∈(eo r).bl:=by rw[hgd,bf _ _ hwk];exact List.getElem_mem _
 have h3:=Rg ds _ _ _ _ _ _ h2
 exact⟨_,hm,h3.1,h3.2⟩
theorem NZ{ds rs:List AV}(f:rX ds rs){g:List Int}(hg:g∈ko ds rs){a b:Int}(ha:a∈g)(hb:b∈g):gD ds.length (iR ds rs) (nv ds rs) a b=true:=by
 obtain⟨c,h0,rfl⟩:=Gu _ _ hg
 obtain⟨h1,h2⟩:=Ar.1 ha
 obtain⟨h3,h4⟩:=Ar.1 hb
 exact IE f.wg h1.1 h0 h3.1 (by rw[Kl];exact h2) h4
theorem Qs{ds rs:List AV}(hc:(fD ds rs).2=0)(hs:fw ds rs){r:AV}(hr:r∈rs){l:AV}(hl:l∈ai (ae r 1)):1<=toInt (ae l 0):=by
 have hR:=(yw hs hc hr).r
 simp only[aM,aa2,List.all_eq_true] at hR
 have:=hR.2 (cE l) (List.mem_map_of_mem hl)
 rw[iw] at this
 have e:(cE l).op=toInt (ae l 0):=rfl
 rw[e] at this
 by_cases k:1<=toInt (ae l 0)
 ·exact k
 ·rw[aa5 (show ¬ toInt (ae l 0)=1 by omega),aa5 (show ¬ toInt (ae l 0)=2 by omega),aa5 (show ¬ toInt (ae l 0)=3 by omega),aa5 (show ¬ toInt (ae l 0)=4 by omega),aa5 (show ¬ toInt (ae l 0)=5 by omega),aa5 (show ¬ toInt (ae l 0)=6 by omega),aa5 (show ¬ toInt (ae l 0)=7 by omega),aa5 (show ¬ toInt (ae l 0)=8 by omega),aa5 (show ¬ toInt (ae l 0)=9 by omega),aa5 (show ¬ toInt (ae l 0)=10 by omega)] at this
  cases this
theorem OK{ds rs:List AV}(hs:fw ds rs)(hz:(sF ds rs).2=0){g:List Int}(hg:g∈ko ds rs){x:QD}(hx:x∈wT ds rs g rs){c:Int}(h:c∈oI x.steps):c∉g:=by
 obtain⟨r,h1,h2,h3,rfl⟩:=qU hx
 obtain⟨hc,hl⟩:=LH.1 hz
 obtain⟨l,hl1,hl2,rfl⟩:=VA hs hc h1 h
 intro hm
 have hmu:=NZ (jF hc) hg h2 hm
 have hop:=Qs hc hs h1 hl1
 have hag:=(F7.1 hl r h1).1
 by_cases e:toInt (ae l 0)=1
 ·have:MS ds rs r=true:=by
   show((ai (ae r 1)).any fun l=>fB (toInt (ae l 0))&&gD ds.length (iR ds rs) (nv ds rs) (AF ds r) (bw (toStr (ae (ae l 1) 0)) ds))=true
   rw[List.any_eq_true]
   exact⟨l,hl1,by rw[hmu,Bool.and_true];exact aa7 e⟩
  rw[this] at h3;cases h3
 ·have:yL gH ds.length (iR ds rs) (nv ds rs) ds r=true:=by
   show((ai (ae r 1)).any fun l=>gH (toInt (ae l 0))&&gD ds.length (iR ds rs) (nv ds rs) (AF ds r) (bw (toStr (ae (ae l 1) 0)) ds))=true
   rw[List.any_eq_true]
   refine⟨l,hl1,?_⟩
   rw[hmu,Bool.and_true]
   unfold gH
   by_cases e2:toInt (ae l 0)=2
   ·rw[aa7 e2];rfl
   ·rw[aa5 e2,aa6,aa1]
    unfold dy at hl2
    by_cases e3:toInt (ae l 0)<3
    ·omega
    ·rw[aa5 e3,aa6,aa1] at hl2;omega
  rw[this] at hag;cases hag
theorem DE{q:QD}{g:List Int}: ∀{l:List AV} {i:Nat} {x:QD},x∈tp q g l i->∃k:Nat,k<l.length/\x.delta=((i+k:Nat):Int)/\toInt (ae (nth l k) 0)=1/\toInt (ae (nth l k) 2)∈g
 |[],_,_,h=>by simp[tp] at h
 | s::l,i,x,h=>by
  rw[tp] at h
  cases e:(decide (toInt (ae s 0)=1)&&g.contains (toInt (ae s 2))) with
  | true=>
   rw[e,aa8] at h
   rcases List.mem_cons.1 h with rfl|h
   ·simp only[aa2,List.contains_eq_mem,aa1] at e
    exact⟨0,by simp,by simp,e.1,e.2⟩
   ·obtain⟨k,h1,h2,h3⟩:=DE (i:=i+1) (by simpa using h)
    exact⟨k+1,by simp only[List.length_cons];omega,by rw[h2];congr 1;omega,h3⟩
  |false=>
   rw[e,aa6] at h
   obtain⟨k,h1,h2,h3⟩:=DE (i:=i+1) (by simpa using h)
   exact⟨k+1,by simp only[List.length_cons];omega,by rw[h2];congr 1;omega,h3⟩
theorem MQ{ds rs:List AV}{g:List Int}{x:QD}(hx:x∈xa ds rs g rs): ∃k:Nat,k<x.steps.length/\x.delta=(k:Int)/\toInt (ae (nth x.steps k) 0)=1/\toInt (ae (nth x.steps k) 2)∈g:=by
 obtain⟨r,_,_,_,h⟩:=Gs hx
 obtain⟨k,h1,h2,h3⟩:=DE (i:=0) (by simpa using h)
 have h4:=(y6 h).2.1
 rw[h4]
 exact⟨k,h1,by rw[h2];simp,h3⟩
theorem Dt{ds rs:List AV}{g:List Int}{x:QD}(hx:x∈wT ds rs g rs):x.delta= -1:=by
 obtain⟨r,_,_,_,rfl⟩:=qU hx
 rfl
end Go.Proofs.YthaiinlfnommnaaGreatDoor
namespace Go.Proofs.YthaiinlfnommnaaGreatDoor
open Go Go.Dn Go.Rl Go.Proofs
attribute [local irreducible] ba vc
set_option maxRecDepth 20000
structure ZP where
 op:Int
 sV:Int
 rl:Int
 c:List AV
 t:List AV
 bc:List AV
 bs:List AV
 ec:List AV
 es:List AV
 s:ByteArray
 X:AT
 Y:AT
abbrev srA(d:ZP):AV:= .agg [.int d.op, .int d.sV, .int d.rl, .ad 3 d.c, .ad 56 d.t, .ad 3 d.bc, .ad 9 d.bs, .ad 3 d.ec, .ad 9 d.es, .lit (.string d.s),cz d.X,cz d.Y]
theorem yIr(κ:Kp)(d:ZP)(K:AV->List Dn.Obj->Prop):(ba (Ya κ).E 12 50 [srA d] [] K)=(
 aD (d.op != (3:Int)) (K (AV.bool (d.op != (4:Int))) []) (K (AV.bool false) [])):=by kernel_rfl
def Yr:List AV->Option (Bool×AV)
 |[.agg [.lit (.int .i64 o1), .lit (.int .i64 _), .lit (.int .i64 _), .ad 3 _, .ad 56 _, .ad 3 _, .ad 9 _, .ad 3 _, .ad 9 _, .lit (.string _), .agg [.lit (.int .i64 _), .lit (.string _), .lit (.int .i64 _), .ad 56 _], .agg [.lit (.int .i64 _), .lit (.string _), .lit (.int .i64 _), .ad 56 _]]]=>
  some (true, .bool (Bs o1))
 |_=>none
theorem pIr(κ:Kp):cQ (Ya κ).E 12 50 Yr:=by
 intro args x hh
 unfold Yr at hh
 split at hh
 ·rename_i o1 h1 r1 c1 t1 b1 v1 e1 w1 s1 xo1 xs1 xn1 xl1 yo1 ys1 yn1 yl1
  simp only[aa4,ab0,true_and] at hh
  subst hh
  refine⟨_,rfl,rfl,?_⟩
  refine Eq.mpr (yIr κ ⟨o1,h1,r1,c1,t1,b1,v1,e1,w1,s1,⟨xo1,xs1,xn1,xl1⟩,⟨yo1,ys1,yn1,yl1⟩⟩ _) ?_
  simp only[Bs]
  by_cases e:o1=3
  ·subst e;exact rfl
  ·rw[ah,bne_iff_ne,bne_eq_false_iff_eq]
   refine⟨fun _=>?_,fun k=>absurd k e⟩
   rw[aa5 e]
   by_cases e4:o1=4
   ·subst e4;rfl
   ·rw[aa5 e4,bne_iff_ne.2 e4];rfl
 ·cases hh
noncomputable def Rz(κ:Kp):EB:=(Ya κ).pure (pIr κ)
abbrev QY(ss os:List AV)(i:Nat):S:=sp 31 [(3, .aq 0 0 os.length),(7, .ad 58 ss),(8, .int ss.length),(9, .int i)] [.row 3 os]
theorem xRv(κ:Kp)(ss os:List AV)(i:Nat)(I:Nat->S->Prop)(n:Nat)(K:Exit->S->Prop):(vc (Rz κ).E 12 24 none 0 (af (Pr κ).toProgram 24 3) (QY ss os i) (bJ (Rz κ).E 24 3 0 I n K))=(
 letI z1:=IntKind.wrap IntKind.i64 ((↑i:Int)+(1:Int))
 letI z2:=(↑i:Int)<(↑(ss.length):Int)
 letI z3:=nth ss (Int.toNat (↑i:Int))
 aD (decide z2) (a7 (true&&decide z2) (aD (Bs (toInt (ae z3 0))) (a7 (decide ((os.length+1+1)*9<=70368744177664)) (∃(e0:Nat),e0<n/\I e0 (sp 31
 [(3,AV.aq 0 0 (os.length+1)),(7,AV.ad 58 ss),(8,AV.int (↑(ss.length):Int)),(9,AV.int z1)] [Obj.row 3 (List.take os.length os++[AV.int (toInt (ae z3
 2))])]))) (∃(e0:Nat),e0<n/\I e0 (sp 31 [(3,AV.aq 0 0 os.length),(7,AV.ad 58 ss),(8,AV.int (↑(ss.length):Int)),(9,AV.int z1)] [Obj.row 3 os]))))
 (K (Exit.exit 0) (sp 31 [(3,AV.aq 0 0 os.length)] [Obj.row 3 os]))):=by kernel_rfl
structure V2 where
 ss:List AV
 os:List Int
 i:Nat
abbrev KE(x:V2):S:=QY x.ss (cq x.os) x.i
def KJ(x:V2):Prop:=x.ss.length<=100000/\x.i<=x.ss.length/\x.os.length<=x.i
def Je(x:V2):Out (Exit×S):= .one (.exit 0,sp 31 [(3, .aq 0 0 (cq (x.os++oI (x.ss.drop x.i))).length)] [.row 3 (cq (x.os++oI (x.ss.drop x.i)))])
theorem lRv(κ:Kp):bj (Rz κ).E 12 24 3 (aO 0 KE KJ Je):=by
 refine aK (fun x=>x.ss.length - x.i) ?_
 rintro⟨ss,os,i⟩ K ⟨h1,h2,h3⟩ ho
 simp only at h1 h2 h3
 rw[show(Rz κ).E.P=Pr κ from rfl]
 refine Eq.mpr (xRv κ ss (cq os) i _ _ K) ?_
 simp only[Je,Out.run] at ho
 simp only[Int.toNat_natCast]
 rw[ah,aa1,aa3]
 refine⟨fun h=>?_,fun h=>?_⟩
 ·have hk:i<ss.length:=by omega
  rw[ab2 hk,←bf _ _ hk,oI] at ho
  rw[aV (n:=(i:Int)+1) (by omega) (by omega),List.take_length]
  refine an.2 ⟨by simpa using h,ah.2 ⟨fun e=>an.2 ⟨by rw[aa1,ez];omega,?_⟩,fun e=>?_⟩⟩
  ·rw[e,aa8] at ho
   refine⟨_,?_,⟨ss,os++[toInt (ae (nth ss i) 2)],i+1⟩,?_,⟨h1,hk,by simp only[ab9,List.length_singleton];omega⟩,rfl,?_⟩
   ·simp only;omega
   ·simp only[KE,QY,cq,List.map_append,ab9,List.length_map];rfl
   ·simp only[Je,Out.run,List.append_assoc]
    exact ho
  ·rw[e,aa6] at ho
   exact⟨_,by simp only;omega,⟨ss,os,i+1⟩,rfl,⟨h1,hk,by simp only;omega⟩,rfl,ho⟩
 ·rw[aa9 (by omega),oI,List.append_nil] at ho
  exact ho
noncomputable def WO(κ:Kp):EB:=(Rz κ).loop (lRv κ)
theorem yRv(κ:Kp)(q:QD)(K:AV->List Dn.Obj->Prop):(ba (WO κ).E 12 24 [qA q] [] K)=(
 letI z1:=Pg.toProgram (Env.P (EB.E (Rz κ)))
 af z1 24 3=af z1 24 3/\∃(e2:V2),sp 31 [(3,AV.aq 0 0 0),(7,AV.ad 58 q.steps),(8,AV.int (↑(q.steps.length):Int)),(9,AV.int 0)] [Obj.row 3 []]=KE
 e2/\KJ e2/\∃(e1:List Int),([AV.aq 0 0 (List.length (cq (e2.os++oI (List.drop e2.i e2.ss))))],[Obj.row 3 (cq (e2.os++oI (List.drop e2.i e2.ss)))])=
 ([AV.aq 0 0 e1.length],[Obj.row 3 (cq e1)])/\e1.length<4611686018427387904/\∃(e0:List Int),([AV.aq 0 0 (List.length (cq (e2.os++oI (List.drop e2.i
 e2.ss))))],[Obj.row 3 (cq (nH e1))])=([AV.aq 0 0 e0.length],[Obj.row 3 (cq e0)])/\e0.length<4611686018427387904/\a7 (true&&decide ((↑(List.length (iC
 e0)):Int)<=(↑(List.length (iC e0)):Int))&&decide ((↑(List.length (iC e0)):Int)<=(↑(List.length (iC e0)):Int))) (K (AV.ad 3 (List.take (Int.toNat
 (↑(List.length (iC e0)):Int)) (List.drop 0 (cq (nw e0))))) [])):=by kernel_rfl
def Vg(ss:List AV):List Int:=iC (nH (oI ss))
theorem NW{ss:List AV}{c:Int}(h:c∈Vg ss):c∈oI ss:=II.1 (Ik h)
theorem Ny(ss:List AV):(Vg ss).length<=ss.length:=Nat.le_trans (rZ _) (by rw[oA];exact Aq ss)
theorem Dh(zs:List Int):(cq (nw zs)).take (iC zs).length=cq (iC zs):=by
 simp[cq,nw]
def TW(q:QD):List AV×List Dn.Obj:=([qA q],[])
def Ju(q:QD):Prop:=q.steps.length<=100000
def SE(q:QD):Out (AV×List Dn.Obj):= .one (.ad 3 (cq (Vg q.steps)),[])
theorem cRv(κ:Kp):bu (WO κ).E 12 24 (aL TW Ju SE):=by
 refine aX ?_
 rintro q K h1 ho
 have h1:q.steps.length<=100000:=h1
 refine Eq.mpr (yRv κ q _) ?_
 have hl:=Aq q.steps
 refine⟨rfl,⟨q.steps,[],0⟩,rfl,⟨h1,Nat.zero_le _,Nat.zero_le _⟩,oI q.steps,?_,by omega,nH (oI q.steps),?_,by rw[oA];omega,an.2 ⟨by simp,?_⟩⟩
 ·simp only[List.nil_append,ab1,ez]
 ·simp only[List.nil_append,ab1,ez,oA]
 ·rw[Int.toNat_natCast,ab1,Dh]
  exact ho
noncomputable def Qj(κ:Kp):EB:=(WO κ).call (cRv κ)
end Go.Proofs.YthaiinlfnommnaaGreatDoor
