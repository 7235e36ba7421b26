import Derived.Test.YthaiinlfnommnaaGreatDoorDbMB
import Derived.Test.YthaiinlfnommnaaGreatDoorDbMA
namespace Go.Proofs.YthaiinlfnommnaaGreatDoor
open Go Go.Dn Go.Rl Go.Proofs
attribute [local irreducible] a8 vc
set_option maxRecDepth 20000
structure Su(a:cm):Prop where
 s:dd a
 r:aM (aF a)=true
 f:iO (aF a)=true
def S7(a:cm):List AV×List Dn.Obj:=([ar a],[])
def U9(a:cm):Out (AV×List Dn.Obj):= .one (.bh [.an 0 0 (b8 (aF a)).length, .int 0],[.row 3 (ints (b8 (aF a)))])
def TZ(x:cm×Nat):List AV×List Dn.Obj:=([ar x.1, .int x.2],[])
def LS(x:cm×Nat):Prop:=Su x.1/\x.2<=x.1.bl.length
def SP(x:cm×Nat):Out (AV×List Dn.Obj):= .one (.bh [.ad 9 (strs (kJ (aF x.1) x.2)), .int 0],[])
theorem Vq: ∀args st K,aL S7 Su U9 args st K->aL BU dd HX args st K:=by
 rintro args st K ⟨a,h1,h2,h3⟩
 refine⟨a,h1,h2.s,?_⟩
 simp only[HX,Out.run]
 rw[h2.r,h2.f]
 exact h3
theorem Td: ∀args st K,aL TZ LS SP args st K->aL N6 AJ yo args st K:=by
 rintro args st K ⟨⟨a,k⟩,h1,⟨h2,hk⟩,h3⟩
 simp only at h2 hk
 refine⟨(a,(k:Int)),h1,h2.s,?_⟩
 simp only[yo,Out.run]
 rw[h2.r,h2.f,show(decide ((k:Int)<0)||decide ((a.bl.length:Int)<k))=false by simp;omega]
 exact h3
theorem QA(κ:Kp)(args:List AV)(st:List Dn.Obj)(K:AV->List Dn.Obj->Prop)(h:aL BU dd HX args st K):(BSp κ).E.call 70 args st K:=h
noncomputable def YV(κ:Kp):EB:=(BSp κ).narrow (QA κ) Vq
theorem Qo(κ:Kp)(args:List AV)(st:List Dn.Obj)(K:AV->List Dn.Obj->Prop)(h:aL N6 AJ yo args st K):(YV κ).E.call 77 args st K:=h
noncomputable def BBd(κ:Kp):EB:=(YV κ).narrow (Qo κ) Td
noncomputable def Q0(κ:Kp):EB:=(BBd κ).calm [70,77]
abbrev qZ:Dn.Obj:= .box 45 (.agg [.int 0, .nil, .nil, .int 0])
abbrev Rx(ds rs:List AV)(a:cm)(rl:Int)(xs os:List AV)(ws:List Nat)(i:Int):S:=sp 66 [(2, .ptr 0 0 [] 0),(3, .ptr 1 0 [] 0),(4, .ptr 2 0 [] 0),(7, .ptr 3 0 [] 0),(35, .an 5 0 ws.length),(36, .int ws.length),(37, .int i)] [.box 25 (gJ ds rs), .box 66 (ar a),qZ, .box 45 (.agg [.int rl, .an 4 0 xs.length, .ad 56 os, .int (-1)]), .row 58 xs, .row 3 (ints ws)]
theorem xMd(κ:Kp)(ds rs:List AV)(a:cm)(rl:Int)(xs os:List AV)(ws:List Nat)(i:Int)(I:Nat->S->Prop)(n:Nat)(K:Exit->S->Prop):(vc (Q0 κ).E 12 41 none 0 (af (Pr κ).toProgram 41 5) (Rx ds rs a rl xs os ws i) (bK (Q0 κ).E 41 5 0 I n K))=(
 letI z2:=AV.agg [AV.int 0,AV.nil,AV.nil,AV.int 0]
 letI z3:=AV.agg [AV.ad 61 ds,AV.ad 66 rs]
 letI z4:=AV.agg [AV.int rl,AV.an 4 0 xs.length,AV.ad 56 os,AV.int (-1)]
 letI z5:=nth (ints ws) (0+i.toNat)
 letI z1:=nth a.bl (Int.toNat (toInt z5))
 letI z6:=i<(↑(ws.length):Int)
 aD (decide z6) (aX (decide ((0:Int)<=i)&&decide z6) (∃(e2:cm×Nat),([ar a,AV.int i],[])=TZ e2/\LS e2/\aX (decide ((0:Int)<=toInt z5)&&
 decide (toInt z5<(↑(a.bl.length):Int))) (∃(e1:Sk),([AV.ptr 0 0 [] 0,AV.agg [AV.int (toInt (ae z1 0)),AV.agg [AV.str (toStr (ae (ae z1 1) 0)),AV.ad 56
 (ai (ae (ae z1 1) 1))],AV.agg [AV.int (toInt (ae (ae z1 2) 0)),AV.str (toStr (ae (ae z1 2) 1)),AV.int (toInt (ae (ae z1 2) 2)),AV.ad 56 (ai (ae (ae z1 2)
 3))],AV.agg [AV.int (toInt (ae (ae z1 3) 0)),AV.str (toStr (ae (ae z1 3) 1)),AV.int (toInt (ae (ae z1 3) 2)),AV.ad 56 (ai (ae (ae z1 3) 3))]]],[Obj.box 131
 (AV.agg [AV.agg [AV.ad 61 ds,AV.ad 66 rs],AV.ad 9 (strs (kJ (aF e2.1) e2.2))])])=Tw e1/\Py e1/\(Obj.box 25 z3=Obj.box 25 z3/\Obj.box 66 (ar a)=
 Obj.box 66 (ar a)/\Obj.box 45 z2=Obj.box 45 z2/\Obj.box 45 z4=Obj.box 45 z4/\Obj.box 131 (AV.agg [AV.agg [AV.ad 61 e1.ds,AV.ad 66 e1.rs],AV.ad 9
 e1.bd])=Obj.box 131 (AV.agg [AV.agg [AV.ad 61 ds,AV.ad 66 rs],AV.ad 9 (strs (kJ (aF e2.1) e2.2))])/\True)/\aX (decide ((xs.length+1+1)*297<=
 70368744177664)) (∃(e0:Nat),e0<n/\I e0 (sp 66 [(2,AV.ptr 0 0 [] 0),(3,AV.ptr 1 0 [] 0),(4,AV.ptr 2 0 [] 0),(7,AV.ptr 3 0 [] 0),(35,AV.an 5 0
 ws.length),(36,AV.int (↑(ws.length):Int)),(37,AV.int (IntKind.wrap IntKind.i64 (i+(1:Int))))] [Obj.box 25 z3,Obj.box 66 (ar a),Obj.box 45 z2,
 Obj.box 45 (AV.agg [AV.int rl,AV.an 4 0 (xs.length+1),AV.ad 56 os,AV.int (-1)]),Obj.row 58 (List.take xs.length xs++[AV.agg [AV.int (SD.op (tD e1.ds
 e1.bd e1.rel e1.l e1.op e1.u e1.v)),AV.int (SD.th (tD e1.ds e1.bd e1.rel e1.l e1.op e1.u e1.v)),AV.int (SD.rl (tD e1.ds e1.bd e1.rel e1.l e1.op e1.u e1.v)),
 AV.ad 3 (iA (SS.eT (SD.q (tD e1.ds e1.bd e1.rel e1.l e1.op e1.u e1.v)))),AV.ad 56 (SS.dm (SD.q (tD e1.ds e1.bd e1.rel e1.l e1.op e1.u e1.v))),AV.ad 3 (iA
 (SS.da (SD.q (tD e1.ds e1.bd e1.rel e1.l e1.op e1.u e1.v)))),AV.ad 9 (strs (SS.binds (SD.q (tD e1.ds e1.bd e1.rel e1.l e1.op e1.u e1.v)))),AV.ad 3 (iA (SS.df
 (SD.q (tD e1.ds e1.bd e1.rel e1.l e1.op e1.u e1.v)))),AV.ad 9 (strs (SS.eqs (SD.q (tD e1.ds e1.bd e1.rel e1.l e1.op e1.u e1.v)))),AV.str (SD.t (tD e1.ds e1.bd
 e1.rel e1.l e1.op e1.u e1.v)),AV.agg [AV.int (AT.op (SD.X (tD e1.ds e1.bd e1.rel e1.l e1.op e1.u e1.v))),AV.str (AT.s (SD.X (tD e1.ds e1.bd e1.rel e1.l e1.op
 e1.u e1.v))),AV.int (AT.n (SD.X (tD e1.ds e1.bd e1.rel e1.l e1.op e1.u e1.v))),AV.ad 56 (AT.l (SD.X (tD e1.ds e1.bd e1.rel e1.l e1.op e1.u e1.v)))],AV.agg
 [AV.int (AT.op (SD.Y (tD e1.ds e1.bd e1.rel e1.l e1.op e1.u e1.v))),AV.str (AT.s (SD.Y (tD e1.ds e1.bd e1.rel e1.l e1.op e1.u e1.v))),AV.int (AT.n (SD.Y (tD
 e1.ds e1.bd e1.rel e1.l e1.op e1.u e1.v))),AV.ad 56 (AT.l (SD.Y (tD e1.ds e1.bd e1.rel e1.l e1.op e1.u e1.v)))]]]),Obj.row 3 (ints ws)]))))) (K (Exit.exit 0)
 (sp 66 [(4,AV.ptr 0 0 [] 0),(7,AV.ptr 1 0 [] 0)] [Obj.box 45 z2,Obj.box 45 (AV.agg [AV.int rl,AV.an 2 0 xs.length,AV.ad 56 os,AV.int (-1)]),Obj.row 58
 xs]))):=by kernel_rfl
theorem FY: ∀{l:List Nat} {x:Nat},x∈l->x<=l.sum
 |a::l,x,h=>by
  rw[List.sum_cons]
  rcases List.mem_cons.1 h with rfl|h
  ·omega
  ·have:=FY h;omega
theorem Lz{a:cm}(h:dd a){l:AV}(hl:l∈a.bl):a6 (aa (ai (ae (ae l 1) 1)))<=100000/\(cR (ae l 2)).jf<=100000/\(cR (ae l 3)).jf<=100000:=by
 have h1:=h.1
 rw[mv 56 a.rel a.hl a.bl] at h1
 have h2:iQ (cK l)<=((dg a.bl).map iQ).sum:=FY (List.mem_map_of_mem (List.mem_map_of_mem hl))
 simp only[pG] at h1
 have h3:iQ (cK l)=a6 [cR (ae l 2),cR (ae l 3)]+a6 (aa (ai (ae (ae l 1) 1))):=rfl
 simp only[a6] at h3
 omega
def jq(ds:List AV)(a:cm)(n:Nat):List AV:=(List.range n).map fun k=>VT (JJ ds (strs (kJ (aF a) k)) (nth a.bl ((b8 (aF a)).getD k 0)))
theorem Dk(ds:List AV)(a:cm)(n:Nat):jq ds a (n+1)=jq ds a n++[VT (JJ ds (strs (kJ (aF a) n)) (nth a.bl ((b8 (aF a)).getD n 0)))]:=by
 simp[jq,List.range_succ]
theorem uQ(ds:List AV)(a:cm)(n:Nat):(jq ds a n).length=n:=by simp[jq]
structure VY where
 ds:List AV
 rs:List AV
 a:cm
 rl:Int
 os:List AV
 i:Nat
abbrev R3(x:VY):S:=Rx x.ds x.rs x.a x.rl (jq x.ds x.a x.i) x.os (b8 (aF x.a)) x.i
def KN(x:VY):Prop:=Su x.a/\x.ds.length<=aR/\x.i<=(b8 (aF x.a)).length
def TX(x:VY):Out (Exit×S):= .one (.exit 0,sp 66 [(4, .ptr 0 0 [] 0),(7, .ptr 1 0 [] 0)] [qZ, .box 45 (.agg [.int x.rl, .an 2 0 (jq x.ds x.a (b8 (aF x.a)).length).length, .ad 56 x.os, .int (-1)]), .row 58 (jq x.ds x.a (b8 (aF x.a)).length)])
theorem lMd(κ:Kp):bj (Q0 κ).E 12 41 5 (aO 0 R3 KN TX):=by
 refine aK (fun x=>(b8 (aF x.a)).length - x.i) ?_
 rintro⟨ds,rs,a,rl,os,i⟩ K ⟨ha,hd,hi⟩ ho
 simp only at ha hd hi
 rw[show(Q0 κ).E.P=Pr κ from rfl]
 refine Eq.mpr (xMd κ ds rs a rl (jq ds a i) os (b8 (aF a)) i _ _ K) ?_
 have hw:=oZ ha.f
 have hbl:=ha.s.2
 rw[ah,aa1,aa3]
 refine⟨fun h=>?_,fun h=>?_⟩
 ·have hk:i<(b8 (aF a)).length:=by omega
  have hwk:(b8 (aF a))[i]<a.bl.length:=by
   have:=uW (List.getElem_mem hk)
   rwa [fT] at this
  have hx:nth a.bl (b8 (aF a))[i]∈a.bl:=by rw[bf _ _ hwk];exact List.getElem_mem _
  have hf:=Lz ha.s hx
  have hgd:(b8 (aF a)).getD i 0=(b8 (aF a))[i]:=by simp[List.getD_eq_getElem?_getD,hk]
  have hv:(strs (kJ (aF a) i)).length<=100000:=by
   have h1:=yp ha.s
   have h2:(kJ (aF a) i).length<=(cZ (aF a)).length:=List.length_filter_le _ _
   rw[aV];omega
  have hs:=Dk ds a i
  rw[hgd] at hs
  simp only[Int.toNat_natCast,Nat.zero_add,CP _ _ hk]
  refine aq.2 ⟨by simp;omega,(a,i),rfl,⟨ha,by show i<=a.bl.length;omega⟩,aq.2 ⟨by simp;omega,⟨ds,rs,strs (kJ (aF a) i),toStr (ae (ae (nth a.bl (b8 (aF a))[i]) 1) 0),ai (ae (ae (nth a.bl (b8 (aF a))[i]) 1) 1),toInt (ae (nth a.bl (b8 (aF a))[i]) 0),xz (ae (nth a.bl (b8 (aF a))[i]) 2),xz (ae (nth a.bl (b8 (aF a))[i]) 3)⟩,rfl,⟨hf.1,hv,hd,by rw[oE];exact hf.2.1,by rw[oE];exact hf.2.2⟩,by simp,aq.2 ⟨?_,_,?_,⟨ds,rs,a,rl,os,i+1⟩,?_,⟨ha,hd,hk⟩,rfl,ho⟩⟩⟩
  ·rw[aa1,uQ];omega
  ·simp only;omega
  ·simp only[R3,Rx]
   rw[hs,List.take_length,aW (n:=(i:Int)+1) (by omega) (by omega),ab9]
   rfl
 ·obtain rfl:i=(b8 (aF a)).length:=by omega
  exact ho
noncomputable def XG(κ:Kp):EB:=(Q0 κ).loop (lMd κ)
theorem yMd(κ:Kp)(ds rs:List AV)(a:cm)(K:AV->List Dn.Obj->Prop):(a8 (XG κ).E 12 41 [gJ ds rs,ar a] [] K)=(
 letI z1:=Pg.toProgram (Env.P (EB.E (Q0 κ)))
 ∃(e3:List AV×ByteArray),([AV.ad 61 ds,AV.str a.rel],[])=CQ e3/\gK e3/\∃(e2:List AV),([AV.ad 56 a.hl],[])=HK e2/\AP e2/\∃(e1:cm),([ar
 a],[])=S7 e1/\Su e1/\af z1 41 5=af z1 41 5/\∃(e0:VY),sp 66 [(2,AV.ptr 0 0 [] 0),(3,AV.ptr 1 0 [] 0),(4,AV.ptr 2 0 [] 0),(7,AV.ptr 3 0 [] 0),
 (35,AV.an 5 0 (List.length (b8 (aF e1)))),(36,AV.int (↑(List.length (b8 (aF e1))):Int)),(37,AV.int 0)] [Obj.box 25 (AV.agg [AV.ad 61 ds,AV.ad 66 rs]),
 Obj.box 66 (ar a),Obj.box 45 (AV.agg [AV.int 0,AV.nil,AV.nil,AV.int 0]),Obj.box 45 (AV.agg [AV.int (bw e3.2 e3.1),AV.an 4 0 0,AV.ad 56 (c9 (aa e2)),
 AV.int (-1)]),Obj.row 58 [],Obj.row 3 (ints (b8 (aF e1)))]=R3 e0/\KN e0/\K (AV.agg [AV.int e0.rl,AV.ad 58 (List.take (List.length (jq e0.ds e0.a
 (List.length (b8 (aF e0.a))))) (List.drop 0 (jq e0.ds e0.a (List.length (b8 (aF e0.a)))))),AV.ad 56 e0.os,AV.int (-1)]) []):=by kernel_rfl
def dU(ds:List AV)(a:cm):QD:=⟨bw a.rel ds,jq ds a (b8 (aF a)).length,c9 (aa a.hl), -1⟩
structure Wk where
 ds:List AV
 rs:List AV
 a:cm
def Vz(x:Wk):List AV×List Dn.Obj:=([gJ x.ds x.rs,ar x.a],[])
def MP(x:Wk):Prop:=Su x.a/\x.ds.length<=aR
def UQ(x:Wk):Out (AV×List Dn.Obj):= .one (qA (dU x.ds x.a),[])
theorem cM0(κ:Kp):bt (XG κ).E 12 41 (aL Vz MP UQ):=by
 refine aZ ?_
 rintro⟨ds,rs,a⟩ K ⟨ha,hd⟩ ho
 simp only at ha hd
 refine Eq.mpr (yMd κ ds rs a K) ?_
 have hh:a6 (aa a.hl)<=100000:=by
  have h1:=ha.s.1
  rw[mv 56 a.rel a.hl a.bl] at h1
  simp only[pG] at h1;omega
 refine⟨(ds,a.rel),rfl,hd,a.hl,rfl,hh,a,rfl,ha,rfl,⟨ds,rs,a,bw a.rel ds,c9 (aa a.hl),0⟩,rfl,⟨ha,hd,Nat.zero_le _⟩,?_⟩
 rw[ab1,List.take_length]
 exact ho
noncomputable def WQ(κ:Kp):EB:=((XG κ).call (cM0 κ)).calm [41]
theorem yQo(κ:Kp)(ds rs:List AV)(k:Int)(K:AV->List Dn.Obj->Prop):(a8 (WQ κ).E 12 17 [gJ ds rs, .int k] [] K)=(
 letI z1:=K (AV.bh [AV.agg [AV.int 0,AV.nil,AV.nil,AV.int 0],AV.int 2]) []
 letI z2:=nth rs k.toNat
 ∃(e1:rT),([AV.agg [AV.ad 61 ds,AV.ad 66 rs]],[])=Kj e1/\xb e1/\aD (Prod.snd (fH e1.1 e1.2) != (0:Int)) (K (AV.bh [AV.agg [AV.int 0,AV.nil,AV.nil,
 AV.int 0],AV.int (Prod.snd (fH e1.1 e1.2))]) []) (aD (decide (k<(0:Int))) z1 (aD (decide (k>=(↑(rs.length):Int))) z1 (aX (decide ((0:Int)<=k)&&
 decide (k<(↑(rs.length):Int))) (∃(e0:Wk),([AV.agg [AV.ad 61 ds,AV.ad 66 rs],AV.agg [AV.agg [AV.str (toStr (ae (ae z2 0) 0)),AV.ad 56 (ai (ae (ae z2
 0) 1))],AV.ad 72 (ai (ae z2 1)),AV.int (toInt (ae z2 2))]],[])=Vz e0/\MP e0/\K (AV.bh [AV.agg [AV.int (QD.rel (dU e0.ds e0.a)),AV.ad 58 (QD.steps (dU
 e0.ds e0.a)),AV.ad 56 (QD.out (dU e0.ds e0.a)),AV.int (QD.delta (dU e0.ds e0.a))],AV.int 0]) []))))):=by kernel_rfl
theorem GK{ds rs:List AV}(hs:fE ds rs)(h:(fH ds rs).2=0){r:AV}(hr:r∈rs):Su (ez r):=by
 have h4:=(zH.1 h).2.2.2 r hr
 refine⟨hs.2.2 r hr,?_,?_⟩
 ·cases e:aM (aF (ez r)) with
  |true=>rfl
  |false=>
   unfold jk wh at h4
   rw[e] at h4
   cases h4
 ·cases e:aM (aF (ez r)) with
  | true=>
   cases e2:iO (aF (ez r)) with
   |true=>rfl
   |false=>
    unfold jk wh at h4
    rw[e,e2] at h4
    cases h4
  |false=>
   unfold jk wh at h4
   rw[e] at h4
   cases h4
structure VP where
 ds:List AV
 rs:List AV
 k:Int
def Mn(x:VP):List AV×List Dn.Obj:=([gJ x.ds x.rs, .int x.k],[])
def CY(x:VP):Out (AV×List Dn.Obj):= .aD (decide (xl x.ds x.rs x.k x.k x.rs.length=0))
 (.one (.bh [qA (dU x.ds (ez (nth x.rs x.k.toNat))), .int 0],[]))
 (.one (.bh [.agg [.int 0, .nil, .nil, .int 0], .int (xl x.ds x.rs x.k x.k x.rs.length)],[]))
theorem cQo(κ:Kp):bt (WQ κ).E 12 17 (aL Mn (fun x=>fE x.ds x.rs) CY):=by
 refine aZ ?_
 rintro⟨ds,rs,k⟩ K hs ho
 simp only at hs
 refine Eq.mpr (yQo κ ds rs k K) ?_
 simp only[CY,Out.run,ah,aa1,aa3] at ho
 refine⟨(ds,rs),rfl,hs,?_⟩
 simp only[ah,aq,bne_iff_ne,bne_eq_false_iff_eq,aa1,aa3,aa2]
 refine⟨fun e=>?_,fun e=>⟨fun e2=>?_,fun e2=>⟨fun e3=>?_,fun e3=>⟨⟨by omega,by omega⟩,?_⟩⟩⟩⟩
 ·have hk:xl ds rs k k rs.length=(fH ds rs).2:=by unfold xl;rw[aa5 e];rfl
  have:=ho.2 (by rw[hk];exact e)
  rw[hk] at this;exact this
 ·have hk:xl ds rs k k rs.length=2:=by
   unfold xl
   rw[aa7 e,show HH k k (rs.length:Int)=false by unfold HH;simp;omega];rfl
  have:=ho.2 (by rw[hk];decide)
  rw[hk] at this;exact this
 ·have hk:xl ds rs k k rs.length=2:=by
   unfold xl
   rw[aa7 e,show HH k k (rs.length:Int)=false by unfold HH;simp;omega];rfl
  have:=ho.2 (by rw[hk];decide)
  rw[hk] at this;exact this
 ·have hk:k.toNat<rs.length:=by omega
  have hx:nth rs k.toNat∈rs:=by rw[bf _ _ hk];exact List.getElem_mem _
  exact⟨⟨ds,rs,ez (nth rs k.toNat)⟩,rfl,⟨GK hs e hx,hs.1⟩,ho.1 (Ku e ⟨by omega,by omega⟩ ⟨by omega,by omega⟩)⟩
noncomputable def QV(κ:Kp):EB:=(WQ κ).call (cQo κ)
def L8(x:VP):Prop:=fE x.ds x.rs/\xl x.ds x.rs x.k x.k x.rs.length=0
def UU(x:VP):Out (AV×List Dn.Obj):= .one (.bh [qA (dU x.ds (ez (nth x.rs x.k.toNat))), .int 0],[])
theorem Tf: ∀args st K,aL Mn L8 UU args st K->aL Mn (fun x=>fE x.ds x.rs) CY args st K:=by
 rintro args st K ⟨x,h1,h2,h3⟩
 refine⟨x,h1,h2.1,?_⟩
 simp only[CY,Out.run]
 rw[aa7 h2.2]
 exact h3
structure Vw where
 q:QD
 g:List Int
 xs:List AV
 i:Nat
 d:Int
abbrev Ko(x:Vw):S:=sp 32 [(0, .cD 0),(1, .ptr 1 0 [] 0),(2, .ptr 2 0 [] 0),(7, .ad 58 x.q.steps),(8, .int x.q.steps.length),(9, .int x.i)] [.ext (some x.xs), .box 45 (.agg [.int x.q.rel, .ad 58 x.q.steps, .ad 56 x.q.out, .int x.d]), .box 38 (.ad 3 (iA x.g))]
theorem xTu(κ:Kp)(x:Vw)(I:Nat->S->Prop)(n:Nat)(K:Exit->S->Prop):(vc (QV κ).E 12 98 none 3 (af (Pr κ).toProgram 98 1) (Ko x) (bK (QV κ).E 98 1 3 I n K))=(
 letI z2:=AV.agg [AV.int x.q.rel,AV.ad 58 x.q.steps,AV.ad 56 x.q.out,AV.int (↑(x.i):Int)]
 letI z3:=List.length x.q.steps
 letI z4:=IntKind.wrap IntKind.i64 ((↑(x.i):Int)+(1:Int))
 letI z5:=AV.ad 3 (iA x.g)
 letI z1:=∃(e0:Nat),e0<n/\I e0 (sp 32 [(0,AV.cD 0),(1,AV.ptr 1 0 [] 0),(2,AV.ptr 2 0 [] 0),(7,AV.ad 58 x.q.steps),(8,AV.int (↑z3:Int)),(9,
  AV.int z4)] [Obj.ext (some x.xs),Obj.box 45 z2,Obj.box 38 z5])
 letI z6:=nth x.q.steps (Int.toNat (↑(x.i):Int))
 letI z7:=(↑(x.i):Int)<(↑z3:Int)
 aD (decide z7) (aX (true&&decide z7) (aD (toInt (ae z6 0)==(1:Int)) (aX (decide (List.length (iA x.g)<=9223372036854775807)) (aD (Sp (toInt (ae z6 2))
 (iA x.g)) (∃(e1:List AV),x.xs=AV.bh [AV.agg [AV.int x.q.rel,AV.ad 58 x.q.steps,AV.ad 56 x.q.out,AV.int (↑(x.i):Int)]]::e1/\(∃(e0:Nat),e0<n/\
 I e0 (sp 32 [(0,AV.cD 0),(1,AV.ptr 1 0 [] 0),(2,AV.ptr 2 0 [] 0),(7,AV.ad 58 x.q.steps),(8,AV.int (↑z3:Int)),(9,AV.int z4)] [Obj.ext (some e1),
 Obj.box 45 z2,Obj.box 38 z5]))/\K Exit.ret (sp 32 [] [Obj.ext none,Obj.box 45 z2,Obj.box 38 z5])) z1)) z1)) (K (Exit.exit 0) (sp 32 [] [Obj.ext (some x.xs),
 Obj.box 45 (AV.agg [AV.int x.q.rel,AV.ad 58 x.q.steps,AV.ad 56 x.q.out,AV.int x.d]),Obj.box 38 z5]))):=by kernel_rfl
def Ml(l:List QD):List AV:=l.map fun q=> .bh [qA q]
abbrev OG(q:QD)(d:Int):Dn.Obj:= .box 45 (.agg [.int q.rel, .ad 58 q.steps, .ad 56 q.out, .int d])
abbrev Sg(g:List Int):Dn.Obj:= .box 38 (.ad 3 (iA g))
def D5(x:Vw):Prop:=x.q.steps.length<=100000/\x.i<=x.q.steps.length/\x.g.length<=60/\x.xs=Ml (xx x.q x.g (x.q.steps.drop x.i) x.i)
def PC(x:Vw):Out (Exit×S):= .all (fun _:Bool×Int=>True) fun y=> .aD y.1
 (.one (.exit 0,sp 32 [] [.ext (some []),OG x.q y.2,Sg x.g]))
 (.one (.ret,sp 32 [] [.ext none,OG x.q y.2,Sg x.g]))
theorem Pf(q:QD)(g:List Int)(l:List AV)(i:Nat)(h:i<l.length):xx q g (l.drop i) i=bif decide (toInt (ae (nth l i) 0)=1)&&g.contains (toInt (ae (nth l i) 2)) then{q with delta:=(i:Int)}::xx q g (l.drop (i+1)) ((i+1:Nat):Int) else xx q g (l.drop (i+1)) ((i+1:Nat):Int):=by
 rw[ab2 h,←bf l i h,xx];rfl
theorem lTu(κ:Kp):bj (QV κ).E 12 98 1 (aO 3 Ko D5 PC):=by
 refine aK (fun x=>x.q.steps.length - x.i) ?_
 rintro⟨q,g,xs,i,d⟩ K ⟨h1,h2,h4,h3⟩ ho
 simp only at h1 h2 h3 h4
 rw[show(QV κ).E.P=Pr κ from rfl]
 refine Eq.mpr (xTu κ ⟨q,g,xs,i,d⟩ _ _ K) ?_
 have ho1:=fun e=>ho (true,e) trivial
 have ho2:=fun e=>ho (false,e) trivial
 simp only[Out.run,aD] at ho1 ho2
 simp only[ac0,Int.toNat_natCast,Ey]
 rw[ah,aa1,aa3]
 refine⟨fun h=>aq.2 ⟨by simpa using h,?_⟩,fun h=>?_⟩
 ·have hk:i<q.steps.length:=by omega
  have hd:=Pf q g q.steps i hk
  rw[hd] at h3
  have next: ∀ys,ys=Ml (xx q g (q.steps.drop (i+1)) ((i+1:Nat):Int))->∃m,m<q.steps.length - i/\fq Ko D5 PC (fun x=>x.q.steps.length - x.i) K m (Ko ⟨q,g,ys,i+1,i⟩):=fun ys hy=>
   ⟨_,by simp only;omega,⟨q,g,ys,i+1,i⟩,rfl,⟨h1,hk,h4,hy⟩,rfl,ho⟩
  rw[aW (n:=(i:Int)+1) (by omega) (by omega),ah]
  refine⟨fun e=>aq.2 ⟨by rw[aa1,fo];omega,ah.2 ⟨fun e2=>?_,fun e2=>?_⟩⟩,fun e=>?_⟩
  ·rw[aa7 (by simpa using e),e2] at h3
   exact⟨_,h3,next _ rfl,ho2 _⟩
  ·rw[aa7 (by simpa using e),e2] at h3
   exact next _ h3
  ·rw[aa5 (by simpa using e),Bool.false_and] at h3
   exact next _ h3
 ·rw[aa9 (by omega)] at h3
  have h3:xs=[]:=h3
  subst h3
  exact ho1 d
noncomputable def WC(κ:Kp):EB:=(QV κ).loop (lTu κ)
theorem yTu(κ:Kp)(q:QD)(g:List Int)(xs:List AV)(K:AV->List Dn.Obj->Prop):(a8 (WC κ).E 12 98 [.cD 0, .ptr 1 0 [] 0, .ptr 2 0 [] 0] [.ext (some xs),OG q q.delta,Sg g] K)=(
 letI z1:=Pg.toProgram (Env.P (EB.E (QV κ)))
 af z1 98 1=af z1 98 1/\∃(e1:Vw),sp 32 [(0,AV.cD 0),(1,AV.ptr 1 0 [] 0),(2,AV.ptr 2 0 [] 0),(7,AV.ad 58 q.steps),(8,AV.int (↑(q.steps.length):
 Int)),(9,AV.int 0)] [Obj.ext (some xs),Obj.box 45 (AV.agg [AV.int q.rel,AV.ad 58 q.steps,AV.ad 56 q.out,AV.int q.delta]),Obj.box 38 (AV.ad 3 (iA g))]=
 Ko e1/\D5 e1/\∀(e0:Bool×Int),True->aD e0.1 (K (AV.bh []) [Obj.ext (some []),Obj.box 45 (AV.agg [AV.int e1.q.rel,AV.ad 58 e1.q.steps,AV.ad 56
 e1.q.out,AV.int e0.2]),Obj.box 38 (AV.ad 3 (iA e1.g))]) (K (AV.bh []) [Obj.ext none,Obj.box 45 (AV.agg [AV.int e1.q.rel,AV.ad 58 e1.q.steps,AV.ad 56
 e1.q.out,AV.int e0.2]),Obj.box 38 (AV.ad 3 (iA e1.g))])):=by kernel_rfl
abbrev Wv:=QD×List Int
def Uz(x:Wv):List AV×List Dn.Obj:=([.cD 0, .ptr 1 0 [] 0, .ptr 2 0 [] 0],[.ext (some (Ml (xx x.1 x.2 x.1.steps 0))),OG x.1 x.1.delta,Sg x.2])
def Lh(x:Wv):Prop:=x.1.steps.length<=100000/\x.2.length<=60
def Qb(_:Wv):Out (AV×List Dn.Obj):= .all (fun st'=>rA st') fun st'=> .one (.bh [],st')
theorem cTu(κ:Kp):bt (WC κ).E 12 98 (aL Uz Lh Qb):=by
 refine aZ ?_
 rintro⟨q,g⟩ K ⟨h1,h2⟩ ho
 refine Eq.mpr (yTu κ q g (Ml (xx q g q.steps 0)) K) ?_
 refine⟨rfl,⟨q,g,Ml (xx q g q.steps 0),0,q.delta⟩,rfl,⟨h1,Nat.zero_le _,h2,rfl⟩,fun y _=>?_⟩
 obtain⟨b,d⟩:=y
 cases b
 ·exact ho _ trivial
 ·exact ho _ trivial
noncomputable def YU(κ:Kp):EB:=(WC κ).call (cTu κ)
theorem Ry(κ:Kp)(args:List AV)(st:List Dn.Obj)(K:AV->List Dn.Obj->Prop)(h:aL Mn (fun x=>fE x.ds x.rs) CY args st K):(YU κ).E.call 17 args st K:=h
noncomputable def Q2(κ:Kp):EB:=(((YU κ).narrow (Ry κ) Tf).calm [17,18]).opens [(28,3,[(1129,some 45),(1130,some 45)])]
abbrev OT(ds rs gs:List AV)(os ls:List AV)(i:Int):S:=sp 65 [(1, .ad 3 gs),(2, .ptr 0 0 [] 0),(4, .ptr 1 0 [] 0),(5, .ptr 2 0 [] 0),(17, .ad 66 rs),(18, .int rs.length),(19, .int i)] [.box 25 (gJ ds rs), .box 41 (.agg [.nil, .nil, .nil]), .box 41 (.agg [.ad 3 gs, .an 3 0 os.length, .an 4 0 ls.length]), .row 45 os, .row 45 ls]
structure Bb where
 ds:List AV
 rs:List AV
 g:List Int
 os:List AV
 ls:List AV
 a:cm
 q:QD
noncomputable abbrev Rj(κ:Kp)(x:Bb):Dn.Obj:=
 .loop (gl (Pr κ).toProgram 58 2 .ready none (fW (bG 13) [(0, .an 4 0 x.ls.length),(1, .bL 98 [.ptr 7 0 [] 0, .ptr 8 0 [] 0]),(2, .ptr 9 0 [] 0),(4, .nil),(6, .bL 98 [.ptr 7 0 [] 0, .ptr 8 0 [] 0])]))
abbrev X2(x:Bb):List Dn.Obj:=[.box 25 (gJ x.ds x.rs), .box 41 (.agg [.nil, .nil, .nil]), .box 41 (.agg [.ad 3 (iA x.g), .an 3 0 x.os.length, .an 4 0 x.ls.length]), .row 45 x.os]
noncomputable abbrev nH(κ:Kp)(x:Bb):List Dn.Obj:=X2 x++[.row 45 x.ls, .box 66 (ar x.a),OG x.q x.q.delta,OG x.q x.q.delta,Sg x.g, .box 39 (.an 4 0 x.ls.length),Rj κ x]
noncomputable abbrev L2(κ:Kp)(x:Bb):List Dn.Obj:=X2 x++[.row 45 x.ls, .box 66 (ar x.a),OG x.q x.q.delta, .dead, .dead, .box 39 (.an 4 0 x.ls.length),Rj κ x]
noncomputable abbrev Bl(κ:Kp)(x:Bb)(ts:List AV):List Dn.Obj:=X2 x++[.dead, .box 66 (ar x.a),OG x.q x.q.delta, .dead, .dead, .box 39 (.an 11 0 ts.length),Rj κ x, .row 45 ts]
theorem sBk(κ:Kp)(x:Bb)(Q:List Dn.Obj->Prop):(tidy (Pr κ).toProgram 11 (dV (nH κ x) (cz (nH κ x) [.ptr 7 0 [] 0, .ptr 8 0 [] 0])) Q)=(
 Q [Obj.box 25 (AV.agg [AV.ad 61 x.ds,AV.ad 66 x.rs]),Obj.box 41 (AV.agg [AV.nil,AV.nil,AV.nil]),Obj.box 41 (AV.agg [AV.ad 3 (iA x.g),AV.an 3 0
 x.os.length,AV.an 4 0 x.ls.length]),Obj.row 45 x.os,Obj.row 45 x.ls,Obj.box 66 (ar x.a),Obj.box 45 (AV.agg [AV.int x.q.rel,AV.ad 58 x.q.steps,AV.ad 56
 x.q.out,AV.int x.q.delta]),Obj.dead,Obj.dead,Obj.box 39 (AV.an 4 0 x.ls.length),Dn.Obj.loop (gl Tryz.prog 58 2 LoopState.ready none (fW (bG 13) [(0,AV.an
 4 0 x.ls.length),(1,AV.bL 98 [AV.ptr 7 0 [] 0,AV.ptr 8 0 [] 0]),(2,AV.ptr 9 0 [] 0),(4,AV.nil),(6,AV.bL 98 [AV.ptr 7 0 [] 0,AV.ptr 8 0 [] 0])]))]):=by kernel_rfl
theorem rBk(κ:Kp)(x:Bb)(t:QD)(Q:List Dn.Obj->Prop)(K2:List Dn.Obj->Prop):(gW (vc (Q2 κ).E 12) 10 [qA t] (L2 κ x) (fun r st''=>match r with| .lit (.bool true)=>tidy (Pr κ).toProgram 11 st'' Q| .lit (.bool false)=>K2 st''|_=>False))=(
 aX (decide ((x.ls.length+1+1)*65<=70368744177664)) (Q [Obj.box 25 (AV.agg [AV.ad 61 x.ds,AV.ad 66 x.rs]),Obj.box 41 (AV.agg [AV.nil,AV.nil,AV.nil]),
 Obj.box 41 (AV.agg [AV.ad 3 (iA x.g),AV.an 3 0 x.os.length,AV.an 4 0 x.ls.length]),Obj.row 45 x.os,Obj.dead,Obj.box 66 (ar x.a),Obj.box 45 (AV.agg [AV.int
 x.q.rel,AV.ad 58 x.q.steps,AV.ad 56 x.q.out,AV.int x.q.delta]),Obj.dead,Obj.dead,Obj.box 39 (AV.an 11 0 (x.ls.length+1)),Dn.Obj.loop (gl Tryz.prog 58 2
 LoopState.ready none (fW (bG 13) [(0,AV.an 4 0 x.ls.length),(1,AV.bL 98 [AV.ptr 7 0 [] 0,AV.ptr 8 0 [] 0]),(2,AV.ptr 9 0 [] 0),(4,AV.nil),(6,AV.bL 98
 [AV.ptr 7 0 [] 0,AV.ptr 8 0 [] 0])])),Obj.row 45 (List.take x.ls.length x.ls++[AV.agg [AV.int t.rel,AV.ad 58 t.steps,AV.ad 56 t.out,AV.int t.delta]])])):=by kernel_rfl
theorem tBk(κ:Kp)(x:Bb)(ts:List AV)(t:QD)(Q:List Dn.Obj->Prop)(K2:List Dn.Obj->Prop):(gW (vc (Q2 κ).E 12) 10 [qA t] (Bl κ x ts) (fun r st''=>match r with| .lit (.bool true)=>tidy (Pr κ).toProgram 11 st'' Q| .lit (.bool false)=>K2 st''|_=>False))=(
 aX (decide ((ts.length+1+1)*65<=70368744177664)) (Q [Obj.box 25 (AV.agg [AV.ad 61 x.ds,AV.ad 66 x.rs]),Obj.box 41 (AV.agg [AV.nil,AV.nil,AV.nil]),
 Obj.box 41 (AV.agg [AV.ad 3 (iA x.g),AV.an 3 0 x.os.length,AV.an 4 0 x.ls.length]),Obj.row 45 x.os,Obj.dead,Obj.box 66 (ar x.a),Obj.box 45 (AV.agg [AV.int
 x.q.rel,AV.ad 58 x.q.steps,AV.ad 56 x.q.out,AV.int x.q.delta]),Obj.dead,Obj.dead,Obj.box 39 (AV.an 11 0 (ts.length+1)),Dn.Obj.loop (gl Tryz.prog 58 2
 LoopState.ready none (fW (bG 13) [(0,AV.an 4 0 x.ls.length),(1,AV.bL 98 [AV.ptr 7 0 [] 0,AV.ptr 8 0 [] 0]),(2,AV.ptr 9 0 [] 0),(4,AV.nil),(6,AV.bL 98
 [AV.ptr 7 0 [] 0,AV.ptr 8 0 [] 0])])),Obj.row 45 (List.take ts.length ts++[AV.agg [AV.int t.rel,AV.ad 58 t.steps,AV.ad 56 t.out,AV.int t.delta]])])):=by kernel_rfl
theorem kBk(κ:Kp)(x:Bb)(xs:List AV):(AV.cD 0::fU (jG (cz (nH κ x) [.ptr 7 0 [] 0, .ptr 8 0 [] 0])) [.ptr 7 0 [] 0, .ptr 8 0 [] 0],Obj.ext (some xs)::gA (jG (cz (nH κ x) [.ptr 7 0 [] 0, .ptr 8 0 [] 0])) (gT (nH κ x) (cz (nH κ x) [.ptr 7 0 [] 0, .ptr 8 0 [] 0])))=([.cD 0, .ptr 1 0 [] 0, .ptr 2 0 [] 0],[.ext (some xs),OG x.q x.q.delta,Sg x.g]):=by kernel_rfl
theorem oBk(κ:Kp)(x:Bb):oi (nH κ x) [.ptr 7 0 [] 0, .ptr 8 0 [] 0]=true:=by kernel_rfl
noncomputable def Dp(κ:Kp)(x:Bb):List QD->List Dn.Obj
 |[]=>L2 κ x
 |e::l=>Bl κ x (x.ls++(e::l).map fun q=>qA q)
def Aw(x:Bb):List QD:=xx x.q x.g x.q.steps 0
theorem AH(q:QD)(g:List Int): ∀(l:List AV) (i:Int),(xx q g l i).length<=l.length
 |[],_=>Nat.le_refl _
 |s::l,i=>by
  have:=AH q g l (i+1)
  rw[xx]
  cases(decide (toInt (ae s 0)=1)&&g.contains (toInt (ae s 2))) with
  |true=>rw[aa8];simp only[List.length_cons];omega
  |false=>rw[aa6];simp only[List.length_cons];omega
structure Ge(x:Bb):Prop where
 hs:x.q.steps.length<=100000
 hg:x.g.length<=60
 hl:x.ls.length<=100000000
noncomputable def NN(κ:Kp)(x:Bb):List AV×List Dn.Obj:=([.ptr 7 0 [] 0, .ptr 8 0 [] 0],nH κ x)
noncomputable def U7(κ:Kp):dC:=fun caps st K=>∃x:Bb,(caps,st)=NN κ x/\Ge x/\aD (Aw x).isEmpty (K (L2 κ x)) (K (Bl κ x (x.ls++(Aw x).map fun q=>qA q)))
theorem I2(κ:Kp):(U7 κ).ji:=by
 rintro caps st K K' hK ⟨a,h1,h2,h3⟩
 exact⟨a,h1,h2,ah.2 ⟨fun e=>hK _ ((ah.1 h3).1 e),fun e=>hK _ ((ah.1 h3).2 e)⟩⟩
theorem Q5(κ:Kp)(args:List AV)(st:List Dn.Obj)(K:AV->List Dn.Obj->Prop)(h:aL Uz Lh Qb args st K):(Q2 κ).E.call 98 args st K:=h
theorem SM{n:Nat}(h:n<=200000000):decide ((n+1+1)*65<=70368744177664)=true:=by rw[aa1];omega
theorem gBk(κ:Kp):lq (Q2 κ).E 12 98 (U7 κ):=by
 rintro caps st K ⟨x,h1,hf,h5⟩
 obtain⟨rfl,rfl⟩:=Prod.mk.inj (show(caps,st)=([.ptr 7 0 [] 0, .ptr 8 0 [] 0],nH κ x) from h1)
 have hl:=hf.hl
 have hs:=hf.hs
 have htl:(Aw x).length<=x.q.steps.length:=AH x.q x.g x.q.steps 0
 refine⟨Ml (Aw x),fun items st'=>∃E1 E2,items=Ml E2/\st'=Dp κ x E1/\E1++E2=Aw x,⟨oBk κ x,?_,?_,?_,?_⟩⟩
 ·refine Q5 κ _ _ _ ⟨(x.q,x.g),?_,⟨hf.hs,hf.hg⟩,fun st' h=>h⟩
  rw[kBk];rfl
 ·rw[show(Q2 κ).E.P=Pr κ from rfl,show(nH κ x).length=11 from rfl,sBk]
  exact⟨[],Aw x,rfl,rfl,rfl⟩
 ·rintro us rest st' ⟨E1,E2,e1,rfl,e3⟩
  cases E2 with
  |nil=>cases e1
  | cons t E2=>
   obtain⟨hu,rfl⟩:=List.cons.inj e1
   obtain rfl:=AV.bh.inj hu
   rw[show(Q2 κ).E.P=Pr κ from rfl,show(nH κ x).length=11 from rfl,show(11:Nat) - 1=10 from rfl]
   have hE:E1.length<=(Aw x).length:=by rw[←e3];simp
   cases E1 with
   |nil=>
    refine Eq.mpr (rBk κ x t (fun st'=>∃F1 F2,Ml E2=Ml F2/\st'=Dp κ x F1/\F1++F2=Aw x) K) ?_
    refine aq.2 ⟨SM (by omega),?_⟩
    rw[List.take_length]
    refine⟨[t],E2,rfl,?_,e3⟩
    simp only[Dp,Bl,ac1,ac2,ab9,List.length_singleton]
    rfl
   |cons e E1=>
    refine Eq.mpr (tBk κ x (x.ls++(e::E1).map fun q=>qA q) t (fun st'=>∃F1 F2,Ml E2=Ml F2/\st'=Dp κ x F1/\F1++F2=Aw x) K) ?_
    refine aq.2 ⟨SM (by simp only[ab9,List.length_map];omega),?_⟩
    rw[List.take_length]
    refine⟨e::(E1++[t]),E2,rfl,?_,by rw[←e3];simp⟩
    have e5:x.ls++(e::(E1++[t])).map (fun q=>qA q)=(x.ls++(e::E1).map fun q=>qA q)++[qA t]:=by simp
    simp only[Dp,Bl]
    rw[e5,ab9 (bs:=[qA t])]
    rfl
 ·rintro st' ⟨E1,E2,e1,rfl,e3⟩
  obtain rfl:E2=[]:=by cases E2 with|nil=>rfl|cons _ _=>cases e1
  rw[List.append_nil] at e3
  rw[e3]
  cases ht:Aw x with
  |nil=>rw[ht] at h5;exact h5
  |cons t l=>rw[ht] at h5;exact h5
noncomputable def RU(κ:Kp):EB:=(Q2 κ).range 58 2 (I2 κ) (gBk κ) (fun f=>jm f (98::241::Sc))
theorem xBk(κ:Kp)(ds rs:List AV)(g:List Int)(os ls:List AV)(i:Int)(I:Nat->S->Prop)(n:Nat)(K:Exit->S->Prop):(vc (RU κ).E 12 28 none 0 (af (Pr κ).toProgram 28 3) (OT ds rs (iA g) os ls i) (bK (RU κ).E 28 3 0 I n K))=(
 letI z1:=gl Tryz.prog 58 2 LoopState.ready none (fW (bG 13) [(0,AV.an 4 0 ls.length),(1,AV.bL 98 [AV.ptr 7 0 [] 0,AV.ptr 8 0 [] 0]),(2,AV.ptr 9 0 [] 0),
  (4,AV.nil),(6,AV.bL 98 [AV.ptr 7 0 [] 0,AV.ptr 8 0 [] 0])])
 letI z3:=AV.agg [AV.nil,AV.nil,AV.nil]
 letI z4:=IntKind.wrap IntKind.i64 (i+(1:Int))
 letI z5:=AV.agg [AV.ad 3 (iA g),AV.an 3 0 os.length,AV.an 4 0 ls.length]
 letI z6:=AV.agg [AV.ad 61 ds,AV.ad 66 rs]
 letI z7:=nth rs i.toNat
 letI z2:=AV.agg [AV.agg [AV.str (toStr (ae (ae z7 0) 0)),AV.ad 56 (ai (ae (ae z7 0) 1))],AV.ad 72 (ai (ae z7 1)),AV.int (toInt (ae z7 2))]
 letI z8:=AV.an 4 0 ls.length
 letI z9:=AV.ad 3 (iA g)
 letI z10:=i<(↑(rs.length):Int)
 aD (decide z10) (aX (decide ((0:Int)<=i)&&decide z10) (∃(e5:List AV×ByteArray),([AV.ad 61 ds,AV.str (toStr (ae (ae z7 0) 0))],[])=CQ e5/\gK e5/\
 aX (decide (List.length (iA g)<=9223372036854775807)) (aD (!Sp (bw e5.2 e5.1) (iA g)) (∃(e0:Nat),e0<n/\I e0 (sp 65 [(1,AV.ad 3 (iA g)),(2,AV.ptr 0 0
 [] 0),(4,AV.ptr 1 0 [] 0),(5,AV.ptr 2 0 [] 0),(17,AV.ad 66 rs),(18,AV.int (↑(rs.length):Int)),(19,AV.int z4)] [Obj.box 25 z6,Obj.box 41 z3,Obj.box
 41 z5,Obj.row 45 os,Obj.row 45 ls])) (∃(e4:VP),([AV.agg [AV.ad 61 ds,AV.ad 66 rs],AV.int i],[])=Mn e4/\L8 e4/\∃(e3:Wj),([AV.agg [AV.ad 61 ds,
 AV.ad 66 rs],AV.int i],[])=Uy e3/\Mv e3/\aD (Sn e3.ds e3.rs e3.k) (((∃(e2:Bb),([AV.ptr 7 0 [] 0,AV.ptr 8 0 [] 0],[Obj.box 25 z6,Obj.box 41 z3,
 Obj.box 41 z5,Obj.row 45 os,Obj.row 45 ls,Obj.box 66 z2,Obj.box 45 (AV.agg [AV.int (QD.rel (dU e4.ds (ez (nth e4.rs e4.k.toNat)))),AV.ad 58 (QD.steps (dU
 e4.ds (ez (nth e4.rs e4.k.toNat)))),AV.ad 56 (QD.out (dU e4.ds (ez (nth e4.rs e4.k.toNat)))),AV.int (QD.delta (dU e4.ds (ez (nth e4.rs e4.k.toNat))))]),
 Obj.box 45 (AV.agg [AV.int (QD.rel (dU e4.ds (ez (nth e4.rs e4.k.toNat)))),AV.ad 58 (QD.steps (dU e4.ds (ez (nth e4.rs e4.k.toNat)))),AV.ad 56 (QD.out (dU
 e4.ds (ez (nth e4.rs e4.k.toNat)))),AV.int (QD.delta (dU e4.ds (ez (nth e4.rs e4.k.toNat))))]),Obj.box 38 z9,Obj.box 39 z8,Dn.Obj.loop z1])=NN κ e2/\Ge
 e2/\aD (List.isEmpty (Aw e2)) (∃(e0:Nat),e0<n/\I e0 (sp 65 [(1,AV.ad 3 (iA g)),(2,AV.ptr 0 0 [] 0),(4,AV.ptr 1 0 [] 0),(5,AV.ptr 2 0 [] 0),(17,
 AV.ad 66 rs),(18,AV.int (↑(rs.length):Int)),(19,AV.int z4)] [Obj.box 25 (AV.agg [AV.ad 61 e2.ds,AV.ad 66 e2.rs]),Obj.box 41 z3,Obj.box 41 (AV.agg
 [AV.ad 3 (iA e2.g),AV.an 3 0 e2.os.length,AV.an 4 0 e2.ls.length]),Obj.row 45 e2.os,Obj.row 45 e2.ls])) (∃(e1:Nat),e1<n/\I e1 (sp 65 [(1,AV.ad 3 (iA
 g)),(2,AV.ptr 0 0 [] 0),(4,AV.ptr 1 0 [] 0),(5,AV.ptr 2 0 [] 0),(17,AV.ad 66 rs),(18,AV.int (↑(rs.length):Int)),(19,AV.int z4)] [Obj.box 25
 (AV.agg [AV.ad 61 e2.ds,AV.ad 66 e2.rs]),Obj.box 41 z3,Obj.box 41 (AV.agg [AV.ad 3 (iA e2.g),AV.an 3 0 e2.os.length,AV.an 4 0 (List.length (e2.ls++
 List.map (fun(e0:QD)=>AV.agg [AV.int e0.rel,AV.ad 58 e0.steps,AV.ad 56 e0.out,AV.int e0.delta]) (Aw e2)))]),Obj.row 45 e2.os,Obj.row 45 (e2.ls++
 List.map (fun(e0:QD)=>AV.agg [AV.int e0.rel,AV.ad 58 e0.steps,AV.ad 56 e0.out,AV.int e0.delta]) (Aw e2))])))/\∃(e2:Bb),([AV.ptr 7 0 [] 0,AV.ptr 8
 0 [] 0],[Obj.box 25 z6,Obj.box 41 z3,Obj.box 41 z5,Obj.row 45 os,Obj.row 45 ls,Obj.box 66 z2,Obj.box 45 (AV.agg [AV.int (QD.rel (dU e4.ds (ez (nth e4.rs
 e4.k.toNat)))),AV.ad 58 (QD.steps (dU e4.ds (ez (nth e4.rs e4.k.toNat)))),AV.ad 56 (QD.out (dU e4.ds (ez (nth e4.rs e4.k.toNat)))),AV.int (QD.delta (dU e4.ds
 (ez (nth e4.rs e4.k.toNat))))]),Obj.box 45 (AV.agg [AV.int (QD.rel (dU e4.ds (ez (nth e4.rs e4.k.toNat)))),AV.ad 58 (QD.steps (dU e4.ds (ez (nth e4.rs
 e4.k.toNat)))),AV.ad 56 (QD.out (dU e4.ds (ez (nth e4.rs e4.k.toNat)))),AV.int (QD.delta (dU e4.ds (ez (nth e4.rs e4.k.toNat))))]),Obj.box 38 z9,Obj.box 39
 z8,Dn.Obj.loop z1])=NN κ e2/\Ge e2/\aD (List.isEmpty (Aw e2)) (∃(e0:Nat),e0<n/\I e0 (sp 65 [(1,AV.ad 3 (iA g)),(2,AV.ptr 0 0 [] 0),(4,AV.ptr 1
 0 [] 0),(5,AV.ptr 2 0 [] 0),(17,AV.ad 66 rs),(18,AV.int (↑(rs.length):Int)),(19,AV.int z4)] [Obj.box 25 (AV.agg [AV.ad 61 e2.ds,AV.ad 66 e2.rs]),
 Obj.box 41 z3,Obj.box 41 (AV.agg [AV.ad 3 (iA e2.g),AV.an 3 0 e2.os.length,AV.an 4 0 e2.ls.length]),Obj.row 45 e2.os,Obj.row 45 e2.ls])) (∃(e1:Nat),e1
 <n/\I e1 (sp 65 [(1,AV.ad 3 (iA g)),(2,AV.ptr 0 0 [] 0),(4,AV.ptr 1 0 [] 0),(5,AV.ptr 2 0 [] 0),(17,AV.ad 66 rs),(18,AV.int (↑(rs.length):Int)),
 (19,AV.int z4)] [Obj.box 25 (AV.agg [AV.ad 61 e2.ds,AV.ad 66 e2.rs]),Obj.box 41 z3,Obj.box 41 (AV.agg [AV.ad 3 (iA e2.g),AV.an 3 0 e2.os.length,AV.an 4 0
 (List.length (e2.ls++List.map (fun(e0:QD)=>AV.agg [AV.int e0.rel,AV.ad 58 e0.steps,AV.ad 56 e0.out,AV.int e0.delta]) (Aw e2)))]),Obj.row 45 e2.os,
 Obj.row 45 (e2.ls++List.map (fun(e0:QD)=>AV.agg [AV.int e0.rel,AV.ad 58 e0.steps,AV.ad 56 e0.out,AV.int e0.delta]) (Aw e2))])))/\∃(e2:Bb),
 ([AV.ptr 7 0 [] 0,AV.ptr 8 0 [] 0],[Obj.box 25 z6,Obj.box 41 z3,Obj.box 41 z5,Obj.row 45 os,Obj.row 45 ls,Obj.box 66 z2,Obj.box 45 (AV.agg [AV.int
 (QD.rel (dU e4.ds (ez (nth e4.rs e4.k.toNat)))),AV.ad 58 (QD.steps (dU e4.ds (ez (nth e4.rs e4.k.toNat)))),AV.ad 56 (QD.out (dU e4.ds (ez (nth e4.rs
 e4.k.toNat)))),AV.int (QD.delta (dU e4.ds (ez (nth e4.rs e4.k.toNat))))]),Obj.box 45 (AV.agg [AV.int (QD.rel (dU e4.ds (ez (nth e4.rs e4.k.toNat)))),AV.ad 58
 (QD.steps (dU e4.ds (ez (nth e4.rs e4.k.toNat)))),AV.ad 56 (QD.out (dU e4.ds (ez (nth e4.rs e4.k.toNat)))),AV.int (QD.delta (dU e4.ds (ez (nth e4.rs
 e4.k.toNat))))]),Obj.box 38 z9,Obj.box 39 z8,Dn.Obj.loop z1])=NN κ e2/\Ge e2/\aD (List.isEmpty (Aw e2)) (∃(e0:Nat),e0<n/\I e0 (sp 65 [(1,AV.ad 3
 (iA g)),(2,AV.ptr 0 0 [] 0),(4,AV.ptr 1 0 [] 0),(5,AV.ptr 2 0 [] 0),(17,AV.ad 66 rs),(18,AV.int (↑(rs.length):Int)),(19,AV.int z4)] [Obj.box 25
 (AV.agg [AV.ad 61 e2.ds,AV.ad 66 e2.rs]),Obj.box 41 z3,Obj.box 41 (AV.agg [AV.ad 3 (iA e2.g),AV.an 3 0 e2.os.length,AV.an 4 0 e2.ls.length]),Obj.row 45
 e2.os,Obj.row 45 e2.ls])) (∃(e1:Nat),e1<n/\I e1 (sp 65 [(1,AV.ad 3 (iA g)),(2,AV.ptr 0 0 [] 0),(4,AV.ptr 1 0 [] 0),(5,AV.ptr 2 0 [] 0),(17,
 AV.ad 66 rs),(18,AV.int (↑(rs.length):Int)),(19,AV.int z4)] [Obj.box 25 (AV.agg [AV.ad 61 e2.ds,AV.ad 66 e2.rs]),Obj.box 41 z3,Obj.box 41 (AV.agg
 [AV.ad 3 (iA e2.g),AV.an 3 0 e2.os.length,AV.an 4 0 (List.length (e2.ls++List.map (fun(e0:QD)=>AV.agg [AV.int e0.rel,AV.ad 58 e0.steps,AV.ad 56
 e0.out,AV.int e0.delta]) (Aw e2)))]),Obj.row 45 e2.os,Obj.row 45 (e2.ls++List.map (fun(e0:QD)=>AV.agg [AV.int e0.rel,AV.ad 58 e0.steps,AV.ad 56
 e0.out,AV.int e0.delta]) (Aw e2))]))) (aX (decide ((os.length+1+1)*65<=70368744177664)) (∃(e0:Nat),e0<n/\I e0 (sp 65 [(1,AV.ad 3 (iA g)),(2,
 AV.ptr 0 0 [] 0),(4,AV.ptr 1 0 [] 0),(5,AV.ptr 2 0 [] 0),(17,AV.ad 66 rs),(18,AV.int (↑(rs.length):Int)),(19,AV.int z4)] [Obj.box 25 z6,Obj.box 41
 z3,Obj.box 41 (AV.agg [AV.ad 3 (iA g),AV.an 3 0 (os.length+1),AV.an 4 0 ls.length]),Obj.row 45 (List.take os.length os++[AV.agg [AV.int (QD.rel (dU
 e4.ds (ez (nth e4.rs e4.k.toNat)))),AV.ad 58 (QD.steps (dU e4.ds (ez (nth e4.rs e4.k.toNat)))),AV.ad 56 (QD.out (dU e4.ds (ez (nth e4.rs e4.k.toNat)))),
 AV.int (QD.delta (dU e4.ds (ez (nth e4.rs e4.k.toNat))))]]),Obj.row 45 ls]))))))) (K (Exit.exit 0) (sp 65 [(4,AV.ptr 0 0 [] 0),(5,AV.ptr 1 0 [] 0)] [Obj.box
 41 z3,Obj.box 41 (AV.agg [AV.ad 3 (iA g),AV.an 2 0 os.length,AV.an 3 0 ls.length]),Obj.row 45 os,Obj.row 45 ls]))):=by kernel_rfl
end Go.Proofs.YthaiinlfnommnaaGreatDoor
