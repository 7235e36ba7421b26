import Derived.Test.YthaiinlfnommnaaGreatDoorDbME
import Derived.Test.YthaiinlfnommnaaGreatDoorDbMA
import Derived.Test.YthaiinlfnommnaaGreatDoorDoK
import Derived.Shelf.Sort.Plain
import Derived.Shelf.Slices.CompactI
import Derived.Shelf.Slices.In.SortNone
namespace Go.Proofs.YthaiinlfnommnaaGreatDoor
open Go Go.Dn Go.Rl Go.Proofs
theorem Jx{gs:List (List Int)}(h:gs.flatten.Nodup){i j:Nat}(hi:i<gs.length)(hj:j<gs.length){c:Int}(h1:c∈gs[i])(h2:c∈gs[j]):i=j:=by
 have h3:=(List.pairwise_flatten.1 h).2
 rw[List.pairwise_iff_getElem] at h3
 rcases Nat.lt_trichotomy i j with e|e|e
 ·exact absurd rfl (h3 i j hi hj e c h1 c h2)
 ·exact e
 ·exact absurd rfl (h3 j i hj hi e c h2 c h1)
theorem RP{ds rs:List AV}{g:List Int}{l:List AV}{x:QD}(h:x∈rI ds rs g l):x.rel∈g:=by
 obtain⟨r,_,h2,_,rfl⟩:=qy h
 exact h2
theorem Rq{ds rs:List AV}{g:List Int}{l:List AV}{x:QD}(h:x∈rP ds rs g l):x.rel∈g:=by
 obtain⟨r,_,h2,_,h4⟩:=ui h
 rw[(qB h4).1]
 exact h2
end Go.Proofs.YthaiinlfnommnaaGreatDoor
namespace Go.Proofs.YthaiinlfnommnaaGreatDoor
open Go Go.Dn Go.Rl Go.Proofs
attribute [local irreducible] a8 vc
set_option maxRecDepth 20000
def EB.still(b:EB)(l:List Nat):EB:=⟨{b.E with quiet:=fun f=>jm f l||b.E.quiet f},⟨b.ok.prog,b.ok.gR,b.ok.call,b.ok.ke,b.ok.loop⟩,⟨b.mono.call,b.mono.loop,b.mono.ke⟩⟩
def EB.owns(b:EB)(l:List Nat):EB:=⟨{b.E with own:=fun f=>jm f l||b.E.own f},⟨b.ok.prog,b.ok.gR,b.ok.call,b.ok.ke,b.ok.loop⟩,⟨b.mono.call,b.mono.loop,b.mono.ke⟩⟩
noncomputable def RQ(κ:Kp):EB:=EB.owns (EB.still (BLi κ) [20,24,10,11]) [51,52]
theorem xHj(κ:Kp)(l:List AV)(k:Int)(i:Nat)(I:Nat->S->Prop)(n:Nat)(K:Exit->S->Prop):(vc (RQ κ).E 12 20 none 0 (af (Pr κ).toProgram 20 2) (sp 18 [(0, .ad 3 l),(1, .int k),(5, .int i)] []) (bK (RQ κ).E 20 2 0 I n K))=(
 letI z1:=(↑i:Int)<(↑(l.length):Int)
 aD (decide z1) (aX (true&&decide z1) (aD (toInt (nth l (Int.toNat (↑i:Int)))==k) (K Exit.ret (sp 18 [(4,AV.bool true)] [])) (∃(e0:Nat),e0<n/\I e0
 (sp 18 [(0,AV.ad 3 l),(1,AV.int k),(5,AV.int (IntKind.wrap IntKind.i64 ((↑i:Int)+(1:Int))))] [])))) (K (Exit.exit 0) (sp 18 [] []))):=by kernel_rfl
def qY(k:Int)(l:List AV):Bool:=l.any fun x=>toInt x==k
structure VS where
 l:List AV
 k:Int
 i:Nat
abbrev SR(x:VS):S:=sp 18 [(0, .ad 3 x.l),(1, .int x.k),(5, .int x.i)] []
def Mt(x:VS):Prop:=x.l.length<=aR/\x.i<=x.l.length
def KE(x:VS):Out (Exit×S):= .aD (qY x.k (x.l.drop x.i)) (.one (.ret,sp 18 [(4, .bool true)] [])) (.one (.exit 0,sp 18 [] []))
theorem lHj(κ:Kp):bj (RQ κ).E 12 20 2 (aO 0 SR Mt KE):=by
 refine aK (fun x=>x.l.length - x.i) ?_
 rintro⟨l,k,i⟩ K ⟨h1,h4⟩ ho
 simp only at h1 h4
 simp only[aR] at h1
 rw[show(RQ κ).E.P=Pr κ from rfl]
 refine Eq.mpr (xHj κ l k i _ _ K) ?_
 simp only[KE,Out.run,ah] at ho
 simp only[Int.toNat_natCast]
 rw[ah,aa1,aa3]
 refine⟨fun h=>?_,fun h=>?_⟩
 ·have hk:i<l.length:=by omega
  rw[ab2 hk,←bf _ _ hk,qY,List.any_cons] at ho
  refine aq.2 ⟨by simp;omega,ah.2 ⟨fun e=>ho.1 ?_,fun e=>?_⟩⟩
  ·rw[e,Bool.true_or]
  ·rw[e,Bool.false_or] at ho
   rw[aW (n:=(i:Int)+1) (by omega) (by omega)]
   refine⟨_,?_,⟨l,k,i+1⟩,rfl,⟨by simpa[aR] using h1,hk⟩,rfl,?_⟩
   ·simp only;omega
   ·simp only[KE,Out.run,ah]
    exact ho
 ·rw[aa9 (by omega)] at ho
  exact ho.2 rfl
noncomputable def YB(κ:Kp):EB:=(RQ κ).loop (lHj κ)
theorem yHj(κ:Kp)(l:List AV)(k:Int)(K:AV->List Dn.Obj->Prop):(a8 (YB κ).E 12 20 [.ad 3 l, .int k] [] K)=(
 letI z1:=Pg.toProgram (Env.P (EB.E (RQ κ)))
 af z1 20 2=af z1 20 2/\∃(e0:VS),sp 18 [(0,AV.ad 3 l),(1,AV.int k),(5,AV.int 0)] []=SR e0/\Mt e0/\aD (qY e0.k (List.drop e0.i e0.l)) (K (AV.bool
 true) []) (K (AV.bool false) [])):=by kernel_rfl
def YP:List AV->Option (Bool×AV)
 |[.ad 3 l, .lit (.int .i64 k)]=>some (decide (l.length<=aR), .bool (qY k l))
 |_=>none
theorem pHj(κ:Kp):cU (YB κ).E 12 20 YP:=by
 intro args x hh
 unfold YP at hh
 split at hh
 ·rename_i l k
  simp only[aa4,ab0,aa1] at hh
  obtain⟨h1,rfl⟩:=hh
  refine⟨_,rfl,rfl,?_⟩
  refine Eq.mpr (yHj κ l k _) ?_
  refine⟨rfl,⟨l,k,0⟩,rfl,⟨h1,Nat.zero_le _⟩,?_⟩
  simp only[ab1,ah]
  exact⟨fun e=>by rw[e],fun e=>by rw[e]⟩
 ·cases hh
noncomputable def V2(κ:Kp):EB:=(YB κ).pure (pHj κ)
end Go.Proofs.YthaiinlfnommnaaGreatDoor
namespace Go.Proofs.YthaiinlfnommnaaGreatDoor
open Go Go.Dn Go.Rl Go.Proofs Go.Shelf
attribute [local irreducible] a8 vc
set_option maxRecDepth 20000
def BQ:Go.Shelf.Ren:=⟨fun|189=>51|125=>91|257=>90|128=>161|129=>162|294=>152|295=>153|296=>154|297=>155|298=>156|299=>157|216=>158|300=>159|301=>160|328=>214|329=>215|330=>216|331=>217|332=>218|215=>219|343=>252|n=>n,fun|28=>38|3=>3|46=>150|0=>0|51=>213|53=>215|4=>4|183=>207|182=>206|131=>79|5=>5|9=>9|218=>264|222=>268|228=>300|229=>301|n=>n,fun n=>n⟩
def xr:Go.Shelf.Ren:=⟨fun|20=>52|n=>n,fun|22=>38|3=>3|4=>4|0=>0|n=>n,fun n=>n⟩
theorem Gd:Lays.n189 Tryz.prog BQ:={mixed:=by kernel_rfl,f125:=Tryz.func91.trans (congrArg some (by kernel_rfl)),f128:=Tryz.func161.trans (congrArg some (by kernel_rfl)),f129:=Tryz.func162.trans (congrArg some (by kernel_rfl)),f189:=Tryz.func51.trans (congrArg some (by kernel_rfl)),f215:=Tryz.func219.trans (congrArg some (by kernel_rfl)),f216:=Tryz.func158.trans (congrArg some (by kernel_rfl)),f257:=Tryz.func90.trans (congrArg some (by kernel_rfl)),f294:=Tryz.func152.trans (congrArg some (by kernel_rfl)),f295:=Tryz.func153.trans (congrArg some (by kernel_rfl)),f296:=Tryz.func154.trans (congrArg some (by kernel_rfl)),f297:=Tryz.func155.trans (congrArg some (by kernel_rfl)),f298:=Tryz.func156.trans (congrArg some (by kernel_rfl)),f299:=Tryz.func157.trans (congrArg some (by kernel_rfl)),f300:=Tryz.func159.trans (congrArg some (by kernel_rfl)),f301:=Tryz.func160.trans (congrArg some (by kernel_rfl)),f328:=Tryz.func214.trans (congrArg some (by kernel_rfl)),f329:=Tryz.func215.trans (congrArg some (by kernel_rfl)),f330:=Tryz.func216.trans (congrArg some (by kernel_rfl)),f331:=Tryz.func217.trans (congrArg some (by kernel_rfl)),f332:=Tryz.func218.trans (congrArg some (by kernel_rfl)),f343:=Tryz.func252.trans (congrArg some (by kernel_rfl)),t0:=Tryz.underlying0,a0:=Tryz.isAgg0,z0:=Tryz.sizeOf0,v0:=Tryz.zeroValue0,t3:=Tryz.underlying3,a3:=Tryz.isAgg3,z3:=Tryz.sizeOf3,v3:=Tryz.zeroValue3,t4:=Tryz.underlying4,a4:=Tryz.isAgg4,z4:=Tryz.sizeOf4,v4:=Tryz.zeroValue4,t5:=Tryz.underlying5,a5:=Tryz.isAgg5,z5:=Tryz.sizeOf5,v5:=Tryz.zeroValue5,t9:=Tryz.underlying9,a9:=Tryz.isAgg9,z9:=Tryz.sizeOf9,v9:=Tryz.zeroValue9,t28:=Tryz.underlying38,a28:=Tryz.isAgg38,z28:=Tryz.sizeOf38,v28:=Tryz.zeroValue38,t46:=Tryz.underlying150,a46:=Tryz.isAgg150,z46:=Tryz.sizeOf150,v46:=Tryz.zeroValue150,t51:=Tryz.underlying213,a51:=Tryz.isAgg213,z51:=Tryz.sizeOf213,v51:=Tryz.zeroValue213,t53:=Tryz.underlying215,a53:=Tryz.isAgg215,z53:=Tryz.sizeOf215,v53:=Tryz.zeroValue215,t131:=Tryz.underlying79,a131:=Tryz.isAgg79,z131:=Tryz.sizeOf79,v131:=Tryz.zeroValue79,t182:=Tryz.underlying206,a182:=Tryz.isAgg206,z182:=Tryz.sizeOf206,v182:=Tryz.zeroValue206,t183:=Tryz.underlying207,a183:=Tryz.isAgg207,z183:=Tryz.sizeOf207,v183:=Tryz.zeroValue207,t218:=Tryz.underlying264,a218:=Tryz.isAgg264,z218:=Tryz.sizeOf264,v218:=Tryz.zeroValue264,t222:=Tryz.underlying268,a222:=Tryz.isAgg268,z222:=Tryz.sizeOf268,v222:=Tryz.zeroValue268,t228:=Tryz.underlying300,a228:=Tryz.isAgg300,z228:=Tryz.sizeOf300,v228:=Tryz.zeroValue300,t229:=Tryz.underlying301,a229:=Tryz.isAgg301,z229:=Tryz.sizeOf301,v229:=Tryz.zeroValue301}
theorem yc:Lays2.n20 Tryz.prog xr:={mixed:=by kernel_rfl,f20:=Tryz.func52.trans (congrArg some (by kernel_rfl)),t0:=Tryz.underlying0,a0:=Tryz.isAgg0,z0:=Tryz.sizeOf0,v0:=Tryz.zeroValue0,t3:=Tryz.underlying3,a3:=Tryz.isAgg3,z3:=Tryz.sizeOf3,v3:=Tryz.zeroValue3,t4:=Tryz.underlying4,a4:=Tryz.isAgg4,z4:=Tryz.sizeOf4,v4:=Tryz.zeroValue4,t22:=Tryz.underlying38,a22:=Tryz.isAgg38,z22:=Tryz.sizeOf38,v22:=Tryz.zeroValue38,i3:=by kernel_rfl}
theorem UA(κ:Kp): ∀args st K,aL (fun zs:List Int=>([AV.an 0 0 zs.length],[Dn.Obj.row 3 (cq zs)])) (fun zs=>zs.length<4611686018427387904) (fun zs=> .one (.bh [],[.row 3 (cq (ow zs))])) args st K->cM (V2 κ).E.P 51 args st K:=
 JE ⟨_,Tryz.func51,rfl⟩ Tryz.underlying3 (by kernel_rfl) (fun yV off cap zs w=>Any.slices_Sort_int Gd yV off cap zs w) (fun p cap w=>Any.slices_Sort_int_none Gd p cap w)
noncomputable def Wf(κ:Kp):EB:=⟨(V2 κ).E.ax 51 (aL (fun zs:List Int=>([AV.an 0 0 zs.length],[Dn.Obj.row 3 (cq zs)])) (fun zs=>zs.length<4611686018427387904) (fun zs=> .one (.bh [],[.row 3 (cq (ow zs))]))),(V2 κ).ok.gZ (UA κ),(V2 κ).mono.ax aJ⟩
theorem SG(κ:Kp): ∀args st K,aL (fun zs:List Int=>([AV.an 0 0 zs.length],[Dn.Obj.row 3 (cq zs)])) (fun zs=>zs.length<4611686018427387904) (fun zs=> .one (.an 0 0 (iJ zs).length,[.row 3 (cq (n8 zs))])) args st K->cM (Wf κ).E.P 52 args st K:=
 B2 ⟨_,Tryz.func52,rfl⟩ Tryz.underlying3 (by kernel_rfl) (fun yV off cap zs w=>Any.slices_Compact_int yc yV off cap zs w) (fun p cap w=>Any.slices_Compact_int_empty yc p cap w)
noncomputable def XZ(κ:Kp):EB:=⟨(Wf κ).E.ax 52 (aL (fun zs:List Int=>([AV.an 0 0 zs.length],[Dn.Obj.row 3 (cq zs)])) (fun zs=>zs.length<4611686018427387904) (fun zs=> .one (.an 0 0 (iJ zs).length,[.row 3 (cq (n8 zs))]))),(Wf κ).ok.gZ (SG κ),(Wf κ).mono.ax aJ⟩
end Go.Proofs.YthaiinlfnommnaaGreatDoor
namespace Go.Proofs.YthaiinlfnommnaaGreatDoor
open Go Go.Dn Go.Rl Go.Proofs
def Cy(op:Int):Bool:=!decide (op=3)&& !decide (op=4)
def nD:List AV->List Int
 |[]=>[]
 |s::l=>bif Cy (toInt (ae s 0)) then toInt (ae s 2)::nD l else nD l
theorem zi{c:Int}: ∀{l:List AV},c∈nD l->∃s,s∈l/\Cy (toInt (ae s 0))=true/\c=toInt (ae s 2)
 |[],h=>by cases h
 | s::l,h=>by
  rw[nD] at h
  cases e:Cy (toInt (ae s 0)) with
  | true=>
   rw[e,aa8] at h
   rcases List.mem_cons.1 h with rfl|h
   ·exact⟨s,by simp,e,rfl⟩
   ·obtain⟨t,h1,h2⟩:=zi h
    exact⟨t,by simp[h1],h2⟩
  |false=>
   rw[e,aa6] at h
   obtain⟨t,h1,h2⟩:=zi h
   exact⟨t,by simp[h1],h2⟩
theorem AW: ∀l:List AV,(nD l).length<=l.length
 |[]=>Nat.le_refl _
 |s::l=>by
  have:=AW l
  rw[nD]
  cases Cy (toInt (ae s 0)) with
  |true=>rw[aa8];simp only[List.length_cons];omega
  |false=>rw[aa6];simp only[List.length_cons];omega
theorem RF(ds bd:List AV)(rel:ByteArray)(l:List AV)(op:Int)(u v:AT)(h:Cy (tD ds bd rel l op u v).op=true):dH op=true/\(tD ds bd rel l op u v).rl=bw rel ds:=by
 unfold tD at h⊢
 cases e2:op==2 with
 |true=>obtain rfl:=eq_of_beq e2;exact⟨rfl,rfl⟩
 |false=>
 rw[e2] at h
 cases e1:op==1 with
 |true=>obtain rfl:=eq_of_beq e1;exact⟨rfl,rfl⟩
 |false=>
 rw[e1] at h
 cases e3:op==3 with
 | true=>
  rw[e3] at h
  exfalso
  cases eu:Dr bd u with
  |true=>rw[eu] at h;cases h
  |false=>
   rw[eu] at h
   cases ev:Dr bd v with
   |true=>rw[ev] at h;cases h
   |false=>rw[ev] at h;cases h
 |false=>
 rw[e3] at h
 cases e4:op==4||(op==5||op==6) with
 |true=>rw[e4] at h;cases h
 |false=>
 simp only[beq_eq_false_iff_ne,ne_eq,Bool.or_eq_false_iff] at e1 e2 e3 e4
 have ha:dH op=true:=by
  unfold dH
  by_cases k:op<3
  ·rw[aa7 k];rfl
  ·rw[aa5 k,aa6,aa1];omega
 cases Dr bd u with
 |true=>exact⟨ha,rfl⟩
 |false=>exact⟨ha,rfl⟩
theorem Th{ds rs:List AV}(hs:fE ds rs)(hc:(fH ds rs).2=0){r:AV}(hr:r∈rs){c:Int}(h:c∈nD (Jb ds r).steps): ∃l,l∈ai (ae r 1)/\dH (toInt (ae l 0))=true/\c=bw (toStr (ae (ae l 1) 0)) ds:=by
 obtain⟨s,h1,h2,rfl⟩:=zi h
 obtain⟨k,hk,rfl⟩:=List.mem_map.1 h1
 have hk:=List.mem_range.1 hk
 have hwk:(b8 (aF (ez r)))[k]<(ez r).bl.length:=by
  have:=uW (List.getElem_mem hk)
  rwa [fT] at this
 have hgd:(b8 (aF (ez r))).getD k 0=(b8 (aF (ez r)))[k]:=by simp[List.getD_eq_getElem?_getD,hk]
 have hm:nth (ez r).bl ((b8 (aF (ez r))).getD k 0)∈(ez r).bl:=by rw[hgd,bf _ _ hwk];exact List.getElem_mem _
 have h3:=RF ds _ _ _ _ _ _ h2
 exact⟨_,hm,h3.1,h3.2⟩
theorem Fl: ∀{gs:List (List Int)} {a:Int} {i:Int},a∈gs.flatten->∃k:Nat,∃h:k<gs.length,Ho gs a i=i+k/\a∈gs[k]
 |[],_,_,h=>by simp at h
 | g::gs,a,i,h=>by
  rw[Ho]
  cases e:g.contains a with
  |true=>exact⟨0,by simp,by rw[aa8];simp,by simpa using e⟩
  |false=>
   rw[List.flatten_cons,List.mem_append] at h
   obtain⟨k,h1,h2,h3⟩:=Fl (i:=i+1) (h.resolve_left (by simpa using e))
   exact⟨k+1,by simp only[List.length_cons];omega,by rw[aa6,h2];omega,h3⟩
theorem Kf{ds rs:List AV}(hs:fE ds rs)(hc:(fH ds rs).2=0){j:Nat}(hj:j<(fu ds rs).length){x:QD}(hx:x∈rI ds rs (fu ds rs)[j] rs\/x∈rP ds rs (fu ds rs)[j] rs){c:Int}(h:c∈nD x.steps):c∈((fu ds rs).take (j+1)).flatten:=by
 have f:=il hc
 have⟨r,h1,h2,h3⟩: ∃r,r∈rs/\yy ds r∈(fu ds rs)[j]/\x.steps=(Jb ds r).steps:=by
  rcases hx with hx|hx
  ·obtain⟨r,h1,h2,_,rfl⟩:=qy hx
   exact⟨r,h1,h2,rfl⟩
  ·obtain⟨r,h1,h2,_,h4⟩:=ui hx
   exact⟨r,h1,h2,(qB h4).2.1⟩
 rw[h3] at h
 obtain⟨l,hl1,hl2,rfl⟩:=Th hs hc h1 h
 have hG:=vv hs hc _ h1
 have hb:=hG.at_ l hl1 hl2
 have he:bw (toStr (ae (ae l 1) 0)) ds∈(ph ds rs).at (yy ds r):=(GX (E:=wU ds rs) f.ed hG.hd.1).2 (FX.2 ⟨r,h1,l,hl1,hl2,rfl⟩)
 have hpl:=(TO f.wg _ [] (Nat.le_refl _) BJ _ _ 0 hG.hd hb (by simp) (by simp)).2 ⟨_,he, .refl _⟩
 have hpl:Ho (fu ds rs) (bw (toStr (ae (ae l 1) 0)) ds) 0<=Ho (fu ds rs) (yy ds r) 0:=hpl
 have hL:=B1 f
 obtain⟨a,ha1,ha2,ha3⟩:=Fl (i:=0) (hL.all _ hG.hd.1 hG.hd.2 (by simp))
 obtain⟨b,hb1,hb2,hb3⟩:=Fl (i:=0) (hL.all _ hb.1 hb.2 (by simp))
 have haj:a=j:=Jx hL.rH ha1 hj ha3 h2
 rw[List.mem_flatten]
 refine⟨_,?_,hb3⟩
 rw[List.mem_take_iff_getElem]
 exact⟨b,by omega,rfl⟩
theorem Be{ds rs:List AV}(f:pN ds rs):(fu ds rs).flatten.length=ds.length:=by
 have hL:=B1 f
 have key: ∀{l m:List Int},l.Nodup->(∀x,x∈l->x∈m)->l.length<=m.length:=fun{l}=>by
  induction l with
  |nil=>intro m _ _;exact Nat.zero_le _
  |cons a l ih=>
   intro m h hs
   rw[List.nodup_cons] at h
   have ha:=hs a (by simp)
   have h2:=ih (m:=m.erase a) h.2 fun x hx=>(List.mem_erase_of_ne (fun e=>h.1 (by rw[←e];exact hx))).2 (hs x (by simp[hx]))
   rw[List.length_erase_of_mem ha] at h2
   have:=List.length_pos_of_mem ha
   simp only[List.length_cons];omega
 have h1:=key hL.rH fun x hx=>fy.2 (hL.ke x hx).1
 have h2:=key (yC (te ds.length)) fun x hx=>by
  have:=fy.1 hx
  exact hL.all x this.1 this.2 (by simp)
 have h3:(fL ds.length).length=ds.length:=by simp[fL]
 omega
end Go.Proofs.YthaiinlfnommnaaGreatDoor
namespace Go.Proofs.YthaiinlfnommnaaGreatDoor
open Go Go.Dn Go.Rl Go.Proofs
attribute [local irreducible] a8 vc
set_option maxRecDepth 20000
structure Zy where
 op:Int
 th:Int
 rl:Int
 c:List AV
 t:List AV
 bc:List AV
 bs:List AV
 ec:List AV
 es:List AV
 s:ByteArray
 X:AT
 Y:AT
abbrev srA(d:Zy):AV:= .agg [.int d.op, .int d.th, .int d.rl, .ad 3 d.c, .ad 56 d.t, .ad 3 d.bc, .ad 9 d.bs, .ad 3 d.ec, .ad 9 d.es, .lit (.string d.s),cy d.X,cy d.Y]
theorem yIr(κ:Kp)(d:Zy)(K:AV->List Dn.Obj->Prop):(a8 (XZ κ).E 12 50 [srA d] [] K)=(
 aD (d.op != (3:Int)) (K (AV.bool (d.op != (4:Int))) []) (K (AV.bool false) [])):=by kernel_rfl
def ZO:List AV->Option (Bool×AV)
 |[.agg [.lit (.int .i64 o1), .lit (.int .i64 _), .lit (.int .i64 _), .ad 3 _, .ad 56 _, .ad 3 _, .ad 9 _, .ad 3 _, .ad 9 _, .lit (.string _), .agg [.lit (.int .i64 _), .lit (.string _), .lit (.int .i64 _), .ad 56 _], .agg [.lit (.int .i64 _), .lit (.string _), .lit (.int .i64 _), .ad 56 _]]]=>
  some (true, .bool (Cy o1))
 |_=>none
theorem pIr(κ:Kp):cU (XZ κ).E 12 50 ZO:=by
 intro args x hh
 unfold ZO at hh
 split at hh
 ·rename_i o1 h1 r1 c1 t1 b1 v1 e1 w1 s1 xo1 xs1 xn1 xl1 yo1 ys1 yn1 yl1
  simp only[aa4,ab0,true_and] at hh
  subst hh
  refine⟨_,rfl,rfl,?_⟩
  refine Eq.mpr (yIr κ ⟨o1,h1,r1,c1,t1,b1,v1,e1,w1,s1,⟨xo1,xs1,xn1,xl1⟩,⟨yo1,ys1,yn1,yl1⟩⟩ _) ?_
  simp only[Cy]
  by_cases e:o1=3
  ·subst e;exact rfl
  ·rw[ah,bne_iff_ne,bne_eq_false_iff_eq]
   refine⟨fun _=>?_,fun k=>absurd k e⟩
   rw[aa5 e]
   by_cases e4:o1=4
   ·subst e4;rfl
   ·rw[aa5 e4,bne_iff_ne.2 e4];rfl
 ·cases hh
noncomputable def Ri(κ:Kp):EB:=(XZ κ).pure (pIr κ)
abbrev QQ(ss os:List AV)(i:Nat):S:=sp 31 [(3, .an 0 0 os.length),(7, .ad 58 ss),(8, .int ss.length),(9, .int i)] [.row 3 os]
theorem xRv(κ:Kp)(ss os:List AV)(i:Nat)(I:Nat->S->Prop)(n:Nat)(K:Exit->S->Prop):(vc (Ri κ).E 12 24 none 0 (af (Pr κ).toProgram 24 3) (QQ ss os i) (bK (Ri κ).E 24 3 0 I n K))=(
 letI z1:=IntKind.wrap IntKind.i64 ((↑i:Int)+(1:Int))
 letI z2:=(↑i:Int)<(↑(ss.length):Int)
 letI z3:=nth ss (Int.toNat (↑i:Int))
 aD (decide z2) (aX (true&&decide z2) (aD (Cy (toInt (ae z3 0))) (aX (decide ((os.length+1+1)*9<=70368744177664)) (∃(e0:Nat),e0<n/\I e0 (sp 31
 [(3,AV.an 0 0 (os.length+1)),(7,AV.ad 58 ss),(8,AV.int (↑(ss.length):Int)),(9,AV.int z1)] [Obj.row 3 (List.take os.length os++[AV.int (toInt (ae z3
 2))])]))) (∃(e0:Nat),e0<n/\I e0 (sp 31 [(3,AV.an 0 0 os.length),(7,AV.ad 58 ss),(8,AV.int (↑(ss.length):Int)),(9,AV.int z1)] [Obj.row 3 os]))))
 (K (Exit.exit 0) (sp 31 [(3,AV.an 0 0 os.length)] [Obj.row 3 os]))):=by kernel_rfl
structure Wh where
 ss:List AV
 os:List Int
 i:Nat
abbrev Ky(x:Wh):S:=QQ x.ss (cq x.os) x.i
def J8(x:Wh):Prop:=x.ss.length<=100000/\x.i<=x.ss.length/\x.os.length<=x.i
def KF(x:Wh):Out (Exit×S):= .one (.exit 0,sp 31 [(3, .an 0 0 (cq (x.os++nD (x.ss.drop x.i))).length)] [.row 3 (cq (x.os++nD (x.ss.drop x.i)))])
theorem lRv(κ:Kp):bj (Ri κ).E 12 24 3 (aO 0 Ky J8 KF):=by
 refine aK (fun x=>x.ss.length - x.i) ?_
 rintro⟨ss,os,i⟩ K ⟨h1,h2,h3⟩ ho
 simp only at h1 h2 h3
 rw[show(Ri κ).E.P=Pr κ from rfl]
 refine Eq.mpr (xRv κ ss (cq os) i _ _ K) ?_
 simp only[KF,Out.run] at ho
 simp only[Int.toNat_natCast]
 rw[ah,aa1,aa3]
 refine⟨fun h=>?_,fun h=>?_⟩
 ·have hk:i<ss.length:=by omega
  rw[ab2 hk,←bf _ _ hk,nD] at ho
  rw[aW (n:=(i:Int)+1) (by omega) (by omega),List.take_length]
  refine aq.2 ⟨by simpa using h,ah.2 ⟨fun e=>aq.2 ⟨by rw[aa1,dW];omega,?_⟩,fun e=>?_⟩⟩
  ·rw[e,aa8] at ho
   refine⟨_,?_,⟨ss,os++[toInt (ae (nth ss i) 2)],i+1⟩,?_,⟨h1,hk,by simp only[ab9,List.length_singleton];omega⟩,rfl,?_⟩
   ·simp only;omega
   ·simp only[Ky,QQ,cq,List.map_append,ab9,List.length_map];rfl
   ·simp only[KF,Out.run,List.append_assoc]
    exact ho
  ·rw[e,aa6] at ho
   exact⟨_,by simp only;omega,⟨ss,os,i+1⟩,rfl,⟨h1,hk,by simp only;omega⟩,rfl,ho⟩
 ·rw[aa9 (by omega),nD,List.append_nil] at ho
  exact ho
noncomputable def XY(κ:Kp):EB:=(Ri κ).loop (lRv κ)
theorem yRv(κ:Kp)(q:QD)(K:AV->List Dn.Obj->Prop):(a8 (XY κ).E 12 24 [qA q] [] K)=(
 letI z1:=Pg.toProgram (Env.P (EB.E (Ri κ)))
 af z1 24 3=af z1 24 3/\∃(e2:Wh),sp 31 [(3,AV.an 0 0 0),(7,AV.ad 58 q.steps),(8,AV.int (↑(q.steps.length):Int)),(9,AV.int 0)] [Obj.row 3 []]=Ky
 e2/\J8 e2/\∃(e1:List Int),([AV.an 0 0 (List.length (cq (e2.os++nD (List.drop e2.i e2.ss))))],[Obj.row 3 (cq (e2.os++nD (List.drop e2.i e2.ss)))])=
 ([AV.an 0 0 e1.length],[Obj.row 3 (cq e1)])/\e1.length<4611686018427387904/\∃(e0:List Int),([AV.an 0 0 (List.length (cq (e2.os++nD (List.drop e2.i
 e2.ss))))],[Obj.row 3 (cq (ow e1))])=([AV.an 0 0 e0.length],[Obj.row 3 (cq e0)])/\e0.length<4611686018427387904/\aX (true&&decide ((↑(List.length (iJ
 e0)):Int)<=(↑(List.length (iJ e0)):Int))&&decide ((↑(List.length (iJ e0)):Int)<=(↑(List.length (iJ e0)):Int))) (K (AV.ad 3 (List.take (Int.toNat
 (↑(List.length (iJ e0)):Int)) (List.drop 0 (cq (n8 e0))))) [])):=by kernel_rfl
def Um(ss:List AV):List Int:=iJ (ow (nD ss))
theorem Nb{ss:List AV}{c:Int}(h:c∈Um ss):c∈nD ss:=HJ.1 (Jd h)
theorem NH(ss:List AV):(Um ss).length<=ss.length:=Nat.le_trans (r4 _) (by rw[oV];exact AW ss)
theorem ES(zs:List Int):(cq (n8 zs)).take (iJ zs).length=cq (iJ zs):=by
 simp[cq,n8]
def UX(q:QD):List AV×List Dn.Obj:=([qA q],[])
def L4(q:QD):Prop:=q.steps.length<=100000
def Uf(q:QD):Out (AV×List Dn.Obj):= .one (.ad 3 (cq (Um q.steps)),[])
theorem cRv(κ:Kp):bt (XY κ).E 12 24 (aL UX L4 Uf):=by
 refine aZ ?_
 rintro q K h1 ho
 have h1:q.steps.length<=100000:=h1
 refine Eq.mpr (yRv κ q _) ?_
 have hl:=AW q.steps
 refine⟨rfl,⟨q.steps,[],0⟩,rfl,⟨h1,Nat.zero_le _,Nat.zero_le _⟩,nD q.steps,?_,by omega,ow (nD q.steps),?_,by rw[oV];omega,aq.2 ⟨by simp,?_⟩⟩
 ·simp only[List.nil_append,ab1,dW]
 ·simp only[List.nil_append,ab1,dW,oV]
 ·rw[Int.toNat_natCast,ab1,ES]
  exact ho
noncomputable def Rb(κ:Kp):EB:=(XY κ).call (cRv κ)
end Go.Proofs.YthaiinlfnommnaaGreatDoor
