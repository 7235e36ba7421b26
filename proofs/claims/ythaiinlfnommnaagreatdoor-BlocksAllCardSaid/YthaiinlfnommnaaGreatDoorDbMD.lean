import Derived.Test.YthaiinlfnommnaaGreatDoorDbMB
import Derived.Test.YthaiinlfnommnaaGreatDoorDbMA
namespace Go.Proofs.YthaiinlfnommnaaGreatDoor
open Go Go.Dn Go.Rl Go.Proofs
attribute [local irreducible] bf vc
set_option maxRecDepth 20000
structure Se(a:cq):Prop where
 s:df a
 r:aQ (aH a)=true
 f:iP (aH a)=true
def VO(a:cq):List AV×List Dn.Obj:=([aq a],[])
def Vk(a:cq):Out (AV×List Dn.Obj):= .one (.bp [.ar 0 0 (bU (aH a)).length, .int 0],[.row 3 (ints (bU (aH a)))])
def Tk(x:cq×Nat):List AV×List Dn.Obj:=([aq x.1, .int x.2],[])
def Jw(x:cq×Nat):Prop:=Se x.1/\x.2<=x.1.bl.length
def UD(x:cq×Nat):Out (AV×List Dn.Obj):= .one (.bp [.ad 9 (strs (jQ (aH x.1) x.2)), .int 0],[])
theorem Vi: ∀args st K,aR VO Se Vk args st K->aR CS df Iv args st K:=by
 rintro args st K ⟨a,h1,h2,h3⟩
 refine⟨a,h1,h2.s,?_⟩
 simp only[Iv,Out.run]
 rw[h2.r,h2.f]
 exact h3
theorem Ub: ∀args st K,aR Tk Jw UD args st K->aR Pv AU x5 args st K:=by
 rintro args st K ⟨⟨a,k⟩,h1,⟨h2,hk⟩,h3⟩
 simp only at h2 hk
 refine⟨(a,(k:Int)),h1,h2.s,?_⟩
 simp only[x5,Out.run]
 rw[h2.r,h2.f,show(decide ((k:Int)<0)||decide ((a.bl.length:Int)<k))=false by simp;omega]
 exact h3
theorem QQ(κ:Kp)(args:List AV)(st:List Dn.Obj)(K:AV->List Dn.Obj->Prop)(h:aR CS df Iv args st K):(BSp κ).E.call 70 args st K:=h
noncomputable def BOr(κ:Kp):EB:=(BSp κ).narrow (QQ κ) Vi
theorem QO(κ:Kp)(args:List AV)(st:List Dn.Obj)(K:AV->List Dn.Obj->Prop)(h:aR Pv AU x5 args st K):(BOr κ).E.call 77 args st K:=h
noncomputable def BBd(κ:Kp):EB:=(BOr κ).narrow (QO κ) Ub
noncomputable def RY(κ:Kp):EB:=(BBd κ).calm [70,77]
abbrev qZ:Dn.Obj:= .box 45 (.agg [.int 0, .nil, .nil, .int 0])
abbrev R5(ds rs:List AV)(a:cq)(rl:Int)(xs os:List AV)(ws:List Nat)(i:Int):S:=sp 66 [(2, .ptr 0 0 [] 0),(3, .ptr 1 0 [] 0),(4, .ptr 2 0 [] 0),(7, .ptr 3 0 [] 0),(35, .ar 5 0 ws.length),(36, .int ws.length),(37, .int i)] [.box 25 (gS ds rs), .box 66 (aq a),qZ, .box 45 (.agg [.int rl, .ar 4 0 xs.length, .ad 56 os, .int (-1)]), .row 58 xs, .row 3 (ints ws)]
theorem xMd(κ:Kp)(ds rs:List AV)(a:cq)(rl:Int)(xs os:List AV)(ws:List Nat)(i:Int)(I:Nat->S->Prop)(n:Nat)(K:Exit->S->Prop):(vc (RY κ).E 12 41 none 0 (ah (Pr κ).toProgram 41 5) (R5 ds rs a rl xs os ws i) (bL (RY κ).E 41 5 0 I n K))=(
 letI z2:=AV.agg [AV.int 0,AV.nil,AV.nil,AV.int 0]
 letI z3:=AV.agg [AV.ad 61 ds,AV.ad 66 rs]
 letI z4:=AV.agg [AV.int rl,AV.ar 4 0 xs.length,AV.ad 56 os,AV.int (-1)]
 letI z5:=nth (ints ws) (0+i.toNat)
 letI z1:=nth a.bl (Int.toNat (toInt z5))
 letI z6:=i<(↑(ws.length):Int)
 aC (decide z6) (ba (decide ((0:Int)<=i)&&decide z6) (∃(e2:cq×Nat),([aq a,AV.int i],[])=Tk e2/\Jw e2/\ba (decide ((0:Int)<=toInt z5)&&
 decide (toInt z5<(↑(a.bl.length):Int))) (∃(e1:SB),([AV.ptr 0 0 [] 0,AV.agg [AV.int (toInt (ae z1 0)),AV.agg [AV.str (toStr (ae (ae z1 1) 0)),AV.ad 56
 (ai (ae (ae z1 1) 1))],AV.agg [AV.int (toInt (ae (ae z1 2) 0)),AV.str (toStr (ae (ae z1 2) 1)),AV.int (toInt (ae (ae z1 2) 2)),AV.ad 56 (ai (ae (ae z1 2)
 3))],AV.agg [AV.int (toInt (ae (ae z1 3) 0)),AV.str (toStr (ae (ae z1 3) 1)),AV.int (toInt (ae (ae z1 3) 2)),AV.ad 56 (ai (ae (ae z1 3) 3))]]],[Obj.box 131
 (AV.agg [AV.agg [AV.ad 61 ds,AV.ad 66 rs],AV.ad 9 (strs (jQ (aH e2.1) e2.2))])])=U3 e1/\PW e1/\(Obj.box 25 z3=Obj.box 25 z3/\Obj.box 66 (aq a)=
 Obj.box 66 (aq a)/\Obj.box 45 z2=Obj.box 45 z2/\Obj.box 45 z4=Obj.box 45 z4/\Obj.box 131 (AV.agg [AV.agg [AV.ad 61 e1.ds,AV.ad 66 e1.rs],AV.ad 9
 e1.bd])=Obj.box 131 (AV.agg [AV.agg [AV.ad 61 ds,AV.ad 66 rs],AV.ad 9 (strs (jQ (aH e2.1) e2.2))])/\True)/\ba (decide ((xs.length+1+1)*297<=
 70368744177664)) (∃(e0:Nat),e0<n/\I e0 (sp 66 [(2,AV.ptr 0 0 [] 0),(3,AV.ptr 1 0 [] 0),(4,AV.ptr 2 0 [] 0),(7,AV.ptr 3 0 [] 0),(35,AV.ar 5 0
 ws.length),(36,AV.int (↑(ws.length):Int)),(37,AV.int (IntKind.wrap IntKind.i64 (i+(1:Int))))] [Obj.box 25 z3,Obj.box 66 (aq a),Obj.box 45 z2,
 Obj.box 45 (AV.agg [AV.int rl,AV.ar 4 0 (xs.length+1),AV.ad 56 os,AV.int (-1)]),Obj.row 58 (List.take xs.length xs++[AV.agg [AV.int (SD.op (tJ e1.ds
 e1.bd e1.rel e1.l e1.op e1.u e1.v)),AV.int (SD.nu (tJ e1.ds e1.bd e1.rel e1.l e1.op e1.u e1.v)),AV.int (SD.rl (tJ e1.ds e1.bd e1.rel e1.l e1.op e1.u e1.v)),
 AV.ad 3 (iA (SS.eO (SD.q (tJ e1.ds e1.bd e1.rel e1.l e1.op e1.u e1.v)))),AV.ad 56 (SS.cG (SD.q (tJ e1.ds e1.bd e1.rel e1.l e1.op e1.u e1.v))),AV.ad 3 (iA
 (SS.c9 (SD.q (tJ e1.ds e1.bd e1.rel e1.l e1.op e1.u e1.v)))),AV.ad 9 (strs (SS.binds (SD.q (tJ e1.ds e1.bd e1.rel e1.l e1.op e1.u e1.v)))),AV.ad 3 (iA (SS.c6
 (SD.q (tJ e1.ds e1.bd e1.rel e1.l e1.op e1.u e1.v)))),AV.ad 9 (strs (SS.eqs (SD.q (tJ e1.ds e1.bd e1.rel e1.l e1.op e1.u e1.v)))),AV.str (SD.t (tJ e1.ds e1.bd
 e1.rel e1.l e1.op e1.u e1.v)),AV.agg [AV.int (AT.op (SD.X (tJ e1.ds e1.bd e1.rel e1.l e1.op e1.u e1.v))),AV.str (AT.s (SD.X (tJ e1.ds e1.bd e1.rel e1.l e1.op
 e1.u e1.v))),AV.int (AT.n (SD.X (tJ e1.ds e1.bd e1.rel e1.l e1.op e1.u e1.v))),AV.ad 56 (AT.l (SD.X (tJ e1.ds e1.bd e1.rel e1.l e1.op e1.u e1.v)))],AV.agg
 [AV.int (AT.op (SD.Y (tJ e1.ds e1.bd e1.rel e1.l e1.op e1.u e1.v))),AV.str (AT.s (SD.Y (tJ e1.ds e1.bd e1.rel e1.l e1.op e1.u e1.v))),AV.int (AT.n (SD.Y (tJ
 e1.ds e1.bd e1.rel e1.l e1.op e1.u e1.v))),AV.ad 56 (AT.l (SD.Y (tJ e1.ds e1.bd e1.rel e1.l e1.op e1.u e1.v)))]]]),Obj.row 3 (ints ws)]))))) (K (Exit.exit 0)
 (sp 66 [(4,AV.ptr 0 0 [] 0),(7,AV.ptr 1 0 [] 0)] [Obj.box 45 z2,Obj.box 45 (AV.agg [AV.int rl,AV.ar 2 0 xs.length,AV.ad 56 os,AV.int (-1)]),Obj.row 58
 xs]))):=by kernel_rfl
theorem FY: ∀{l:List Nat} {x:Nat},x∈l->x<=l.sum
 |a::l,x,h=>by
  rw[List.sum_cons]
  rcases List.mem_cons.1 h with rfl|h
  ·omega
  ·have:=FY h;omega
theorem Cn{a:cq}(h:df a){l:AV}(hl:l∈a.bl):aO (aa (ai (ae (ae l 1) 1)))<=100000/\(cx (ae l 2)).gu<=100000/\(cx (ae l 3)).gu<=100000:=by
 have h1:=h.1
 rw[lj 56 a.rel a.hl a.bl] at h1
 have h2:iS (cU l)<=((di a.bl).map iS).sum:=FY (List.mem_map_of_mem (List.mem_map_of_mem hl))
 simp only[n9] at h1
 have h3:iS (cU l)=aO [cx (ae l 2),cx (ae l 3)]+aO (aa (ai (ae (ae l 1) 1))):=rfl
 simp only[aO] at h3
 omega
def iI(ds:List AV)(a:cq)(n:Nat):List AV:=(List.range n).map fun k=>P3 (wL ds (strs (jQ (aH a) k)) (nth a.bl ((bU (aH a)).getD k 0)))
theorem CY(ds:List AV)(a:cq)(n:Nat):iI ds a (n+1)=iI ds a n++[P3 (wL ds (strs (jQ (aH a) n)) (nth a.bl ((bU (aH a)).getD n 0)))]:=by
 simp[iI,List.range_succ]
theorem pI(ds:List AV)(a:cq)(n:Nat):(iI ds a n).length=n:=by simp[iI]
structure V9 where
 ds:List AV
 rs:List AV
 a:cq
 rl:Int
 os:List AV
 i:Nat
abbrev Ro(x:V9):S:=R5 x.ds x.rs x.a x.rl (iI x.ds x.a x.i) x.os (bU (aH x.a)) x.i
def Ls(x:V9):Prop:=Se x.a/\x.ds.length<=aM/\x.i<=(bU (aH x.a)).length
def TP(x:V9):Out (Exit×S):= .one (.exit 0,sp 66 [(4, .ptr 0 0 [] 0),(7, .ptr 1 0 [] 0)] [qZ, .box 45 (.agg [.int x.rl, .ar 2 0 (iI x.ds x.a (bU (aH x.a)).length).length, .ad 56 x.os, .int (-1)]), .row 58 (iI x.ds x.a (bU (aH x.a)).length)])
theorem lMd(κ:Kp):bk (RY κ).E 12 41 5 (aP 0 Ro Ls TP):=by
 refine aL (fun x=>(bU (aH x.a)).length - x.i) ?_
 rintro⟨ds,rs,a,rl,os,i⟩ K ⟨ha,hd,hi⟩ ho
 simp only at ha hd hi
 rw[show(RY κ).E.P=Pr κ from rfl]
 refine Eq.mpr (xMd κ ds rs a rl (iI ds a i) os (bU (aH a)) i _ _ K) ?_
 have hw:=kt ha.f
 have hbl:=ha.s.2
 rw[af,aa2,aa4]
 refine⟨fun h=>?_,fun h=>?_⟩
 ·have hk:i<(bU (aH a)).length:=by omega
  have hwk:(bU (aH a))[i]<a.bl.length:=by
   have:=q8 (List.getElem_mem hk)
   rwa [fB] at this
  have hx:nth a.bl (bU (aH a))[i]∈a.bl:=by rw[aZ _ _ hwk];exact List.getElem_mem _
  have hf:=Cn ha.s hx
  have hgd:(bU (aH a)).getD i 0=(bU (aH a))[i]:=by simp[List.getD_eq_getElem?_getD,hk]
  have hv:(strs (jQ (aH a) i)).length<=100000:=by
   have h1:=xG ha.s
   have h2:(jQ (aH a) i).length<=(dc (aH a)).length:=List.length_filter_le _ _
   rw[aX];omega
  have hs:=CY ds a i
  rw[hgd] at hs
  simp only[Int.toNat_natCast,Nat.zero_add,Bc _ _ hk]
  refine an.2 ⟨by simp;omega,(a,i),rfl,⟨ha,by show i<=a.bl.length;omega⟩,an.2 ⟨by simp;omega,⟨ds,rs,strs (jQ (aH a) i),toStr (ae (ae (nth a.bl (bU (aH a))[i]) 1) 0),ai (ae (ae (nth a.bl (bU (aH a))[i]) 1) 1),toInt (ae (nth a.bl (bU (aH a))[i]) 0),uv (ae (nth a.bl (bU (aH a))[i]) 2),uv (ae (nth a.bl (bU (aH a))[i]) 3)⟩,rfl,⟨hf.1,hv,hd,by rw[lb];exact hf.2.1,by rw[lb];exact hf.2.2⟩,by simp,an.2 ⟨?_,_,?_,⟨ds,rs,a,rl,os,i+1⟩,?_,⟨ha,hd,hk⟩,rfl,ho⟩⟩⟩
  ·rw[aa2,pI];omega
  ·simp only;omega
  ·simp only[Ro,R5]
   rw[hs,List.take_length,aW (n:=(i:Int)+1) (by omega) (by omega),ac0]
   rfl
 ·obtain rfl:i=(bU (aH a)).length:=by omega
  exact ho
noncomputable def WA(κ:Kp):EB:=(RY κ).loop (lMd κ)
theorem yMd(κ:Kp)(ds rs:List AV)(a:cq)(K:AV->List Dn.Obj->Prop):(bf (WA κ).E 12 41 [gS ds rs,aq a] [] K)=(
 letI z1:=Pg.toProgram (Env.P (EB.E (RY κ)))
 ∃(e3:List AV×ByteArray),([AV.ad 61 ds,AV.str a.rel],[])=B5 e3/\gK e3/\∃(e2:List AV),([AV.ad 56 a.hl],[])=HE e2/\AS e2/\∃(e1:cq),([aq
 a],[])=VO e1/\Se e1/\ah z1 41 5=ah z1 41 5/\∃(e0:V9),sp 66 [(2,AV.ptr 0 0 [] 0),(3,AV.ptr 1 0 [] 0),(4,AV.ptr 2 0 [] 0),(7,AV.ptr 3 0 [] 0),
 (35,AV.ar 5 0 (List.length (bU (aH e1)))),(36,AV.int (↑(List.length (bU (aH e1))):Int)),(37,AV.int 0)] [Obj.box 25 (AV.agg [AV.ad 61 ds,AV.ad 66 rs]),
 Obj.box 66 (aq a),Obj.box 45 (AV.agg [AV.int 0,AV.nil,AV.nil,AV.int 0]),Obj.box 45 (AV.agg [AV.int (bD e3.2 e3.1),AV.ar 4 0 0,AV.ad 56 (cL (aa e2)),
 AV.int (-1)]),Obj.row 58 [],Obj.row 3 (ints (bU (aH e1)))]=Ro e0/\Ls e0/\K (AV.agg [AV.int e0.rl,AV.ad 58 (List.take (List.length (iI e0.ds e0.a
 (List.length (bU (aH e0.a))))) (List.drop 0 (iI e0.ds e0.a (List.length (bU (aH e0.a)))))),AV.ad 56 e0.os,AV.int (-1)]) []):=by kernel_rfl
def dm(ds:List AV)(a:cq):QD:=⟨bD a.rel ds,iI ds a (bU (aH a)).length,cL (aa a.hl), -1⟩
structure Wm where
 ds:List AV
 rs:List AV
 a:cq
def U1(x:Wm):List AV×List Dn.Obj:=([gS x.ds x.rs,aq x.a],[])
def Kk(x:Wm):Prop:=Se x.a/\x.ds.length<=aM
def Vx(x:Wm):Out (AV×List Dn.Obj):= .one (qA (dm x.ds x.a),[])
theorem cM0(κ:Kp):bz (WA κ).E 12 41 (aR U1 Kk Vx):=by
 refine bg ?_
 rintro⟨ds,rs,a⟩ K ⟨ha,hd⟩ ho
 simp only at ha hd
 refine Eq.mpr (yMd κ ds rs a K) ?_
 have hh:aO (aa a.hl)<=100000:=by
  have h1:=ha.s.1
  rw[lj 56 a.rel a.hl a.bl] at h1
  simp only[n9] at h1;omega
 refine⟨(ds,a.rel),rfl,hd,a.hl,rfl,hh,a,rfl,ha,rfl,⟨ds,rs,a,bD a.rel ds,cL (aa a.hl),0⟩,rfl,⟨ha,hd,Nat.zero_le _⟩,?_⟩
 rw[ab2,List.take_length]
 exact ho
noncomputable def YK(κ:Kp):EB:=((WA κ).call (cM0 κ)).calm [41]
theorem yQo(κ:Kp)(ds rs:List AV)(k:Int)(K:AV->List Dn.Obj->Prop):(bf (YK κ).E 12 17 [gS ds rs, .int k] [] K)=(
 letI z1:=K (AV.bp [AV.agg [AV.int 0,AV.nil,AV.nil,AV.int 0],AV.int 2]) []
 letI z2:=nth rs k.toNat
 ∃(e1:sm),([AV.agg [AV.ad 61 ds,AV.ad 66 rs]],[])=Mq e1/\v9 e1/\aC (Prod.snd (ft e1.1 e1.2) != (0:Int)) (K (AV.bp [AV.agg [AV.int 0,AV.nil,AV.nil,
 AV.int 0],AV.int (Prod.snd (ft e1.1 e1.2))]) []) (aC (decide (k<(0:Int))) z1 (aC (decide (k>=(↑(rs.length):Int))) z1 (ba (decide ((0:Int)<=k)&&
 decide (k<(↑(rs.length):Int))) (∃(e0:Wm),([AV.agg [AV.ad 61 ds,AV.ad 66 rs],AV.agg [AV.agg [AV.str (toStr (ae (ae z2 0) 0)),AV.ad 56 (ai (ae (ae z2
 0) 1))],AV.ad 72 (ai (ae z2 1)),AV.int (toInt (ae z2 2))]],[])=U1 e0/\Kk e0/\K (AV.bp [AV.agg [AV.int (QD.rel (dm e0.ds e0.a)),AV.ad 58 (QD.steps (dm
 e0.ds e0.a)),AV.ad 56 (QD.out (dm e0.ds e0.a)),AV.int (QD.delta (dm e0.ds e0.a))],AV.int 0]) []))))):=by kernel_rfl
theorem qw{ds rs:List AV}(hs:eX ds rs)(h:(ft ds rs).2=0){r:AV}(hr:r∈rs):Se (dW r):=by
 have h4:=(zR.1 h).2.2.2 r hr
 refine⟨hs.2.2 r hr,?_,?_⟩
 ·cases e:aQ (aH (dW r)) with
  |true=>rfl
  |false=>
   unfold jo vR at h4
   rw[e] at h4
   cases h4
 ·cases e:aQ (aH (dW r)) with
  | true=>
   cases e2:iP (aH (dW r)) with
   |true=>rfl
   |false=>
    unfold jo vR at h4
    rw[e,e2] at h4
    cases h4
  |false=>
   unfold jo vR at h4
   rw[e] at h4
   cases h4
structure QZ where
 ds:List AV
 rs:List AV
 k:Int
def zU(x:QZ):List AV×List Dn.Obj:=([gS x.ds x.rs, .int x.k],[])
def v7(x:QZ):Out (AV×List Dn.Obj):= .aC (decide (qn x.ds x.rs x.k x.k x.rs.length=0))
 (.one (.bp [qA (dm x.ds (dW (nth x.rs x.k.toNat))), .int 0],[]))
 (.one (.bp [.agg [.int 0, .nil, .nil, .int 0], .int (qn x.ds x.rs x.k x.k x.rs.length)],[]))
theorem cQo(κ:Kp):bz (YK κ).E 12 17 (aR zU (fun x=>eX x.ds x.rs) v7):=by
 refine bg ?_
 rintro⟨ds,rs,k⟩ K hs ho
 simp only at hs
 refine Eq.mpr (yQo κ ds rs k K) ?_
 simp only[v7,Out.run,af,aa2,aa4] at ho
 refine⟨(ds,rs),rfl,hs,?_⟩
 simp only[af,an,bne_iff_ne,bne_eq_false_iff_eq,aa2,aa4,aa3]
 refine⟨fun e=>?_,fun e=>⟨fun e2=>?_,fun e2=>⟨fun e3=>?_,fun e3=>⟨⟨by omega,by omega⟩,?_⟩⟩⟩⟩
 ·have hk:qn ds rs k k rs.length=(ft ds rs).2:=by unfold qn;rw[aa6 e];rfl
  have:=ho.2 (by rw[hk];exact e)
  rw[hk] at this;exact this
 ·have hk:qn ds rs k k rs.length=2:=by
   unfold qn
   rw[aa8 e,show Ix k k (rs.length:Int)=false by unfold Ix;simp;omega];rfl
  have:=ho.2 (by rw[hk];decide)
  rw[hk] at this;exact this
 ·have hk:qn ds rs k k rs.length=2:=by
   unfold qn
   rw[aa8 e,show Ix k k (rs.length:Int)=false by unfold Ix;simp;omega];rfl
  have:=ho.2 (by rw[hk];decide)
  rw[hk] at this;exact this
 ·have hk:k.toNat<rs.length:=by omega
  have hx:nth rs k.toNat∈rs:=by rw[aZ _ _ hk];exact List.getElem_mem _
  exact⟨⟨ds,rs,dW (nth rs k.toNat)⟩,rfl,⟨qw hs e hx,hs.1⟩,ho.1 (KJ e ⟨by omega,by omega⟩ ⟨by omega,by omega⟩)⟩
noncomputable def Ot(κ:Kp):EB:=(YK κ).call (cQo κ)
def KR(x:QZ):Prop:=eX x.ds x.rs/\qn x.ds x.rs x.k x.k x.rs.length=0
def Tp(x:QZ):Out (AV×List Dn.Obj):= .one (.bp [qA (dm x.ds (dW (nth x.rs x.k.toNat))), .int 0],[])
theorem UH: ∀args st K,aR zU KR Tp args st K->aR zU (fun x=>eX x.ds x.rs) v7 args st K:=by
 rintro args st K ⟨x,h1,h2,h3⟩
 refine⟨x,h1,h2.1,?_⟩
 simp only[v7,Out.run]
 rw[aa8 h2.2]
 exact h3
structure Ta where
 q:QD
 g:List Int
 xs:List AV
 i:Nat
 d:Int
abbrev Lw(x:Ta):S:=sp 32 [(0, .cK 0),(1, .ptr 1 0 [] 0),(2, .ptr 2 0 [] 0),(7, .ad 58 x.q.steps),(8, .int x.q.steps.length),(9, .int x.i)] [.ext (some x.xs), .box 45 (.agg [.int x.q.rel, .ad 58 x.q.steps, .ad 56 x.q.out, .int x.d]), .box 38 (.ad 3 (iA x.g))]
theorem xTu(κ:Kp)(x:Ta)(I:Nat->S->Prop)(n:Nat)(K:Exit->S->Prop):(vc (Ot κ).E 12 98 none 3 (ah (Pr κ).toProgram 98 1) (Lw x) (bL (Ot κ).E 98 1 3 I n K))=(
 letI z2:=AV.agg [AV.int x.q.rel,AV.ad 58 x.q.steps,AV.ad 56 x.q.out,AV.int (↑(x.i):Int)]
 letI z3:=List.length x.q.steps
 letI z4:=IntKind.wrap IntKind.i64 ((↑(x.i):Int)+(1:Int))
 letI z5:=AV.ad 3 (iA x.g)
 letI z1:=∃(e0:Nat),e0<n/\I e0 (sp 32 [(0,AV.cK 0),(1,AV.ptr 1 0 [] 0),(2,AV.ptr 2 0 [] 0),(7,AV.ad 58 x.q.steps),(8,AV.int (↑z3:Int)),(9,
  AV.int z4)] [Obj.ext (some x.xs),Obj.box 45 z2,Obj.box 38 z5])
 letI z6:=nth x.q.steps (Int.toNat (↑(x.i):Int))
 letI z7:=(↑(x.i):Int)<(↑z3:Int)
 aC (decide z7) (ba (true&&decide z7) (aC (toInt (ae z6 0)==(1:Int)) (ba (decide (List.length (iA x.g)<=9223372036854775807)) (aC (SI (toInt (ae z6 2))
 (iA x.g)) (∃(e1:List AV),x.xs=AV.bp [AV.agg [AV.int x.q.rel,AV.ad 58 x.q.steps,AV.ad 56 x.q.out,AV.int (↑(x.i):Int)]]::e1/\(∃(e0:Nat),e0<n/\
 I e0 (sp 32 [(0,AV.cK 0),(1,AV.ptr 1 0 [] 0),(2,AV.ptr 2 0 [] 0),(7,AV.ad 58 x.q.steps),(8,AV.int (↑z3:Int)),(9,AV.int z4)] [Obj.ext (some e1),
 Obj.box 45 z2,Obj.box 38 z5]))/\K Exit.ret (sp 32 [] [Obj.ext none,Obj.box 45 z2,Obj.box 38 z5])) z1)) z1)) (K (Exit.exit 0) (sp 32 [] [Obj.ext (some x.xs),
 Obj.box 45 (AV.agg [AV.int x.q.rel,AV.ad 58 x.q.steps,AV.ad 56 x.q.out,AV.int x.d]),Obj.box 38 z5]))):=by kernel_rfl
def JI(l:List QD):List AV:=l.map fun q=> .bp [qA q]
abbrev PB(q:QD)(d:Int):Dn.Obj:= .box 45 (.agg [.int q.rel, .ad 58 q.steps, .ad 56 q.out, .int d])
abbrev SK(g:List Int):Dn.Obj:= .box 38 (.ad 3 (iA g))
def DG(x:Ta):Prop:=x.q.steps.length<=100000/\x.i<=x.q.steps.length/\x.g.length<=60/\x.xs=JI (ua x.q x.g (x.q.steps.drop x.i) x.i)
def PL(x:Ta):Out (Exit×S):= .all (fun _:Bool×Int=>True) fun y=> .aC y.1
 (.one (.exit 0,sp 32 [] [.ext (some []),PB x.q y.2,SK x.g]))
 (.one (.ret,sp 32 [] [.ext none,PB x.q y.2,SK x.g]))
theorem Pq(q:QD)(g:List Int)(l:List AV)(i:Nat)(h:i<l.length):ua q g (l.drop i) i=bif decide (toInt (ae (nth l i) 0)=1)&&g.contains (toInt (ae (nth l i) 2)) then{q with delta:=(i:Int)}::ua q g (l.drop (i+1)) ((i+1:Nat):Int) else ua q g (l.drop (i+1)) ((i+1:Nat):Int):=by
 rw[ab3 h,←aZ l i h,ua];rfl
theorem lTu(κ:Kp):bk (Ot κ).E 12 98 1 (aP 3 Lw DG PL):=by
 refine aL (fun x=>x.q.steps.length - x.i) ?_
 rintro⟨q,g,xs,i,d⟩ K ⟨h1,h2,h4,h3⟩ ho
 simp only at h1 h2 h3 h4
 rw[show(Ot κ).E.P=Pr κ from rfl]
 refine Eq.mpr (xTu κ ⟨q,g,xs,i,d⟩ _ _ K) ?_
 have ho1:=fun e=>ho (true,e) trivial
 have ho2:=fun e=>ho (false,e) trivial
 simp only[Out.run,aC] at ho1 ho2
 simp only[ac1,Int.toNat_natCast,EH]
 rw[af,aa2,aa4]
 refine⟨fun h=>an.2 ⟨by simpa using h,?_⟩,fun h=>?_⟩
 ·have hk:i<q.steps.length:=by omega
  have hd:=Pq q g q.steps i hk
  rw[hd] at h3
  have next: ∀ys,ys=JI (ua q g (q.steps.drop (i+1)) ((i+1:Nat):Int))->∃m,m<q.steps.length - i/\eY Lw DG PL (fun x=>x.q.steps.length - x.i) K m (Lw ⟨q,g,ys,i+1,i⟩):=fun ys hy=>
   ⟨_,by simp only;omega,⟨q,g,ys,i+1,i⟩,rfl,⟨h1,hk,h4,hy⟩,rfl,ho⟩
  rw[aW (n:=(i:Int)+1) (by omega) (by omega),af]
  refine⟨fun e=>an.2 ⟨by rw[aa2,fv];omega,af.2 ⟨fun e2=>?_,fun e2=>?_⟩⟩,fun e=>?_⟩
  ·rw[aa8 (by simpa using e),e2] at h3
   exact⟨_,h3,next _ rfl,ho2 _⟩
  ·rw[aa8 (by simpa using e),e2] at h3
   exact next _ h3
  ·rw[aa6 (by simpa using e),Bool.false_and] at h3
   exact next _ h3
 ·rw[ab0 (by omega)] at h3
  have h3:xs=[]:=h3
  subst h3
  exact ho1 d
noncomputable def WI(κ:Kp):EB:=(Ot κ).loop (lTu κ)
theorem yTu(κ:Kp)(q:QD)(g:List Int)(xs:List AV)(K:AV->List Dn.Obj->Prop):(bf (WI κ).E 12 98 [.cK 0, .ptr 1 0 [] 0, .ptr 2 0 [] 0] [.ext (some xs),PB q q.delta,SK g] K)=(
 letI z1:=Pg.toProgram (Env.P (EB.E (Ot κ)))
 ah z1 98 1=ah z1 98 1/\∃(e1:Ta),sp 32 [(0,AV.cK 0),(1,AV.ptr 1 0 [] 0),(2,AV.ptr 2 0 [] 0),(7,AV.ad 58 q.steps),(8,AV.int (↑(q.steps.length):
 Int)),(9,AV.int 0)] [Obj.ext (some xs),Obj.box 45 (AV.agg [AV.int q.rel,AV.ad 58 q.steps,AV.ad 56 q.out,AV.int q.delta]),Obj.box 38 (AV.ad 3 (iA g))]=
 Lw e1/\DG e1/\∀(e0:Bool×Int),True->aC e0.1 (K (AV.bp []) [Obj.ext (some []),Obj.box 45 (AV.agg [AV.int e1.q.rel,AV.ad 58 e1.q.steps,AV.ad 56
 e1.q.out,AV.int e0.2]),Obj.box 38 (AV.ad 3 (iA e1.g))]) (K (AV.bp []) [Obj.ext none,Obj.box 45 (AV.agg [AV.int e1.q.rel,AV.ad 58 e1.q.steps,AV.ad 56
 e1.q.out,AV.int e0.2]),Obj.box 38 (AV.ad 3 (iA e1.g))])):=by kernel_rfl
abbrev WR:=QD×List Int
def Tl(x:WR):List AV×List Dn.Obj:=([.cK 0, .ptr 1 0 [] 0, .ptr 2 0 [] 0],[.ext (some (JI (ua x.1 x.2 x.1.steps 0))),PB x.1 x.1.delta,SK x.2])
def Jy(x:WR):Prop:=x.1.steps.length<=100000/\x.2.length<=60
def P2(_:WR):Out (AV×List Dn.Obj):= .all (fun st'=>qN st') fun st'=> .one (.bp [],st')
theorem cTu(κ:Kp):bz (WI κ).E 12 98 (aR Tl Jy P2):=by
 refine bg ?_
 rintro⟨q,g⟩ K ⟨h1,h2⟩ ho
 refine Eq.mpr (yTu κ q g (JI (ua q g q.steps 0)) K) ?_
 refine⟨rfl,⟨q,g,JI (ua q g q.steps 0),0,q.delta⟩,rfl,⟨h1,Nat.zero_le _,h2,rfl⟩,fun y _=>?_⟩
 obtain⟨b,d⟩:=y
 cases b
 ·exact ho _ trivial
 ·exact ho _ trivial
noncomputable def Y0(κ:Kp):EB:=(WI κ).call (cTu κ)
theorem Rd(κ:Kp)(args:List AV)(st:List Dn.Obj)(K:AV->List Dn.Obj->Prop)(h:aR zU (fun x=>eX x.ds x.rs) v7 args st K):(Y0 κ).E.call 17 args st K:=h
noncomputable def R6(κ:Kp):EB:=(((Y0 κ).narrow (Rd κ) UH).calm [17,18]).opens [(28,3,[(1129,some 45),(1130,some 45)])]
abbrev Ng(ds rs gs:List AV)(os ls:List AV)(i:Int):S:=sp 65 [(1, .ad 3 gs),(2, .ptr 0 0 [] 0),(4, .ptr 1 0 [] 0),(5, .ptr 2 0 [] 0),(17, .ad 66 rs),(18, .int rs.length),(19, .int i)] [.box 25 (gS ds rs), .box 41 (.agg [.nil, .nil, .nil]), .box 41 (.agg [.ad 3 gs, .ar 3 0 os.length, .ar 4 0 ls.length]), .row 45 os, .row 45 ls]
structure A4 where
 ds:List AV
 rs:List AV
 g:List Int
 os:List AV
 ls:List AV
 a:cq
 q:QD
noncomputable abbrev RB(κ:Kp)(x:A4):Dn.Obj:=
 .loop (gj (Pr κ).toProgram 58 2 .ready none (fU (bJ 13) [(0, .ar 4 0 x.ls.length),(1, .bQ 98 [.ptr 7 0 [] 0, .ptr 8 0 [] 0]),(2, .ptr 9 0 [] 0),(4, .nil),(6, .bQ 98 [.ptr 7 0 [] 0, .ptr 8 0 [] 0])]))
abbrev Yw(x:A4):List Dn.Obj:=[.box 25 (gS x.ds x.rs), .box 41 (.agg [.nil, .nil, .nil]), .box 41 (.agg [.ad 3 (iA x.g), .ar 3 0 x.os.length, .ar 4 0 x.ls.length]), .row 45 x.os]
noncomputable abbrev n6(κ:Kp)(x:A4):List Dn.Obj:=Yw x++[.row 45 x.ls, .box 66 (aq x.a),PB x.q x.q.delta,PB x.q x.q.delta,SK x.g, .box 39 (.ar 4 0 x.ls.length),RB κ x]
noncomputable abbrev LS(κ:Kp)(x:A4):List Dn.Obj:=Yw x++[.row 45 x.ls, .box 66 (aq x.a),PB x.q x.q.delta, .dead, .dead, .box 39 (.ar 4 0 x.ls.length),RB κ x]
noncomputable abbrev Cc(κ:Kp)(x:A4)(ts:List AV):List Dn.Obj:=Yw x++[.dead, .box 66 (aq x.a),PB x.q x.q.delta, .dead, .dead, .box 39 (.ar 11 0 ts.length),RB κ x, .row 45 ts]
theorem sBk(κ:Kp)(x:A4)(Q:List Dn.Obj->Prop):(tidy (Pr κ).toProgram 11 (dY (n6 κ x) (cH (n6 κ x) [.ptr 7 0 [] 0, .ptr 8 0 [] 0])) Q)=(
 Q [Obj.box 25 (AV.agg [AV.ad 61 x.ds,AV.ad 66 x.rs]),Obj.box 41 (AV.agg [AV.nil,AV.nil,AV.nil]),Obj.box 41 (AV.agg [AV.ad 3 (iA x.g),AV.ar 3 0
 x.os.length,AV.ar 4 0 x.ls.length]),Obj.row 45 x.os,Obj.row 45 x.ls,Obj.box 66 (aq x.a),Obj.box 45 (AV.agg [AV.int x.q.rel,AV.ad 58 x.q.steps,AV.ad 56
 x.q.out,AV.int x.q.delta]),Obj.dead,Obj.dead,Obj.box 39 (AV.ar 4 0 x.ls.length),Dn.Obj.loop (gj Tryz.prog 58 2 LoopState.ready none (fU (bJ 13) [(0,AV.ar
 4 0 x.ls.length),(1,AV.bQ 98 [AV.ptr 7 0 [] 0,AV.ptr 8 0 [] 0]),(2,AV.ptr 9 0 [] 0),(4,AV.nil),(6,AV.bQ 98 [AV.ptr 7 0 [] 0,AV.ptr 8 0 [] 0])]))]):=by kernel_rfl
theorem rBk(κ:Kp)(x:A4)(t:QD)(Q:List Dn.Obj->Prop)(K2:List Dn.Obj->Prop):(gX (vc (R6 κ).E 12) 10 [qA t] (LS κ x) (fun r st''=>match r with| .lit (.bool true)=>tidy (Pr κ).toProgram 11 st'' Q| .lit (.bool false)=>K2 st''|_=>False))=(
 ba (decide ((x.ls.length+1+1)*65<=70368744177664)) (Q [Obj.box 25 (AV.agg [AV.ad 61 x.ds,AV.ad 66 x.rs]),Obj.box 41 (AV.agg [AV.nil,AV.nil,AV.nil]),
 Obj.box 41 (AV.agg [AV.ad 3 (iA x.g),AV.ar 3 0 x.os.length,AV.ar 4 0 x.ls.length]),Obj.row 45 x.os,Obj.dead,Obj.box 66 (aq x.a),Obj.box 45 (AV.agg [AV.int
 x.q.rel,AV.ad 58 x.q.steps,AV.ad 56 x.q.out,AV.int x.q.delta]),Obj.dead,Obj.dead,Obj.box 39 (AV.ar 11 0 (x.ls.length+1)),Dn.Obj.loop (gj Tryz.prog 58 2
 LoopState.ready none (fU (bJ 13) [(0,AV.ar 4 0 x.ls.length),(1,AV.bQ 98 [AV.ptr 7 0 [] 0,AV.ptr 8 0 [] 0]),(2,AV.ptr 9 0 [] 0),(4,AV.nil),(6,AV.bQ 98
 [AV.ptr 7 0 [] 0,AV.ptr 8 0 [] 0])])),Obj.row 45 (List.take x.ls.length x.ls++[AV.agg [AV.int t.rel,AV.ad 58 t.steps,AV.ad 56 t.out,AV.int t.delta]])])):=by kernel_rfl
theorem tBk(κ:Kp)(x:A4)(ts:List AV)(t:QD)(Q:List Dn.Obj->Prop)(K2:List Dn.Obj->Prop):(gX (vc (R6 κ).E 12) 10 [qA t] (Cc κ x ts) (fun r st''=>match r with| .lit (.bool true)=>tidy (Pr κ).toProgram 11 st'' Q| .lit (.bool false)=>K2 st''|_=>False))=(
 ba (decide ((ts.length+1+1)*65<=70368744177664)) (Q [Obj.box 25 (AV.agg [AV.ad 61 x.ds,AV.ad 66 x.rs]),Obj.box 41 (AV.agg [AV.nil,AV.nil,AV.nil]),
 Obj.box 41 (AV.agg [AV.ad 3 (iA x.g),AV.ar 3 0 x.os.length,AV.ar 4 0 x.ls.length]),Obj.row 45 x.os,Obj.dead,Obj.box 66 (aq x.a),Obj.box 45 (AV.agg [AV.int
 x.q.rel,AV.ad 58 x.q.steps,AV.ad 56 x.q.out,AV.int x.q.delta]),Obj.dead,Obj.dead,Obj.box 39 (AV.ar 11 0 (ts.length+1)),Dn.Obj.loop (gj Tryz.prog 58 2
 LoopState.ready none (fU (bJ 13) [(0,AV.ar 4 0 x.ls.length),(1,AV.bQ 98 [AV.ptr 7 0 [] 0,AV.ptr 8 0 [] 0]),(2,AV.ptr 9 0 [] 0),(4,AV.nil),(6,AV.bQ 98
 [AV.ptr 7 0 [] 0,AV.ptr 8 0 [] 0])])),Obj.row 45 (List.take ts.length ts++[AV.agg [AV.int t.rel,AV.ad 58 t.steps,AV.ad 56 t.out,AV.int t.delta]])])):=by kernel_rfl
theorem kBk(κ:Kp)(x:A4)(xs:List AV):(AV.cK 0::fW (jM (cH (n6 κ x) [.ptr 7 0 [] 0, .ptr 8 0 [] 0])) [.ptr 7 0 [] 0, .ptr 8 0 [] 0],Obj.ext (some xs)::gH (jM (cH (n6 κ x) [.ptr 7 0 [] 0, .ptr 8 0 [] 0])) (gU (n6 κ x) (cH (n6 κ x) [.ptr 7 0 [] 0, .ptr 8 0 [] 0])))=([.cK 0, .ptr 1 0 [] 0, .ptr 2 0 [] 0],[.ext (some xs),PB x.q x.q.delta,SK x.g]):=by kernel_rfl
theorem oBk(κ:Kp)(x:A4):nT (n6 κ x) [.ptr 7 0 [] 0, .ptr 8 0 [] 0]=true:=by kernel_rfl
noncomputable def BI(κ:Kp)(x:A4):List QD->List Dn.Obj
 |[]=>LS κ x
 |e::l=>Cc κ x (x.ls++(e::l).map fun q=>qA q)
def zd(x:A4):List QD:=ua x.q x.g x.q.steps 0
theorem zM(q:QD)(g:List Int): ∀(l:List AV) (i:Int),(ua q g l i).length<=l.length
 |[],_=>Nat.le_refl _
 |s::l,i=>by
  have:=zM q g l (i+1)
  rw[ua]
  cases(decide (toInt (ae s 0)=1)&&g.contains (toInt (ae s 2))) with
  |true=>rw[aa9];simp only[List.length_cons];omega
  |false=>rw[aa7];simp only[List.length_cons];omega
structure Gx(x:A4):Prop where
 hs:x.q.steps.length<=100000
 hg:x.g.length<=60
 hl:x.ls.length<=100000000
noncomputable def On(κ:Kp)(x:A4):List AV×List Dn.Obj:=([.ptr 7 0 [] 0, .ptr 8 0 [] 0],n6 κ x)
noncomputable def VD(κ:Kp):dG:=fun caps st K=>∃x:A4,(caps,st)=On κ x/\Gx x/\aC (zd x).isEmpty (K (LS κ x)) (K (Cc κ x (x.ls++(zd x).map fun q=>qA q)))
theorem IH(κ:Kp):(VD κ).jk:=by
 rintro caps st K K' hK ⟨a,h1,h2,h3⟩
 exact⟨a,h1,h2,af.2 ⟨fun e=>hK _ ((af.1 h3).1 e),fun e=>hK _ ((af.1 h3).2 e)⟩⟩
theorem Rf(κ:Kp)(args:List AV)(st:List Dn.Obj)(K:AV->List Dn.Obj->Prop)(h:aR Tl Jy P2 args st K):(R6 κ).E.call 98 args st K:=h
theorem Vs{n:Nat}(h:n<=200000000):decide ((n+1+1)*65<=70368744177664)=true:=by rw[aa2];omega
theorem gBk(κ:Kp):lq (R6 κ).E 12 98 (VD κ):=by
 rintro caps st K ⟨x,h1,hf,h5⟩
 obtain⟨rfl,rfl⟩:=Prod.mk.inj (show(caps,st)=([.ptr 7 0 [] 0, .ptr 8 0 [] 0],n6 κ x) from h1)
 have hl:=hf.hl
 have hs:=hf.hs
 have htl:(zd x).length<=x.q.steps.length:=zM x.q x.g x.q.steps 0
 refine⟨JI (zd x),fun items st'=>∃E1 E2,items=JI E2/\st'=BI κ x E1/\E1++E2=zd x,⟨oBk κ x,?_,?_,?_,?_⟩⟩
 ·refine Rf κ _ _ _ ⟨(x.q,x.g),?_,⟨hf.hs,hf.hg⟩,fun st' h=>h⟩
  rw[kBk];rfl
 ·rw[show(R6 κ).E.P=Pr κ from rfl,show(n6 κ x).length=11 from rfl,sBk]
  exact⟨[],zd x,rfl,rfl,rfl⟩
 ·rintro us rest st' ⟨E1,E2,e1,rfl,e3⟩
  cases E2 with
  |nil=>cases e1
  | cons t E2=>
   obtain⟨hu,rfl⟩:=List.cons.inj e1
   obtain rfl:=AV.bp.inj hu
   rw[show(R6 κ).E.P=Pr κ from rfl,show(n6 κ x).length=11 from rfl,show(11:Nat) - 1=10 from rfl]
   have hE:E1.length<=(zd x).length:=by rw[←e3];simp
   cases E1 with
   |nil=>
    refine Eq.mpr (rBk κ x t (fun st'=>∃F1 F2,JI E2=JI F2/\st'=BI κ x F1/\F1++F2=zd x) K) ?_
    refine an.2 ⟨Vs (by omega),?_⟩
    rw[List.take_length]
    refine⟨[t],E2,rfl,?_,e3⟩
    simp only[BI,Cc,ac2,ac3,ac0,List.length_singleton]
    rfl
   |cons e E1=>
    refine Eq.mpr (tBk κ x (x.ls++(e::E1).map fun q=>qA q) t (fun st'=>∃F1 F2,JI E2=JI F2/\st'=BI κ x F1/\F1++F2=zd x) K) ?_
    refine an.2 ⟨Vs (by simp only[ac0,List.length_map];omega),?_⟩
    rw[List.take_length]
    refine⟨e::(E1++[t]),E2,rfl,?_,by rw[←e3];simp⟩
    have e5:x.ls++(e::(E1++[t])).map (fun q=>qA q)=(x.ls++(e::E1).map fun q=>qA q)++[qA t]:=by simp
    simp only[BI,Cc]
    rw[e5,ac0 (bs:=[qA t])]
    rfl
 ·rintro st' ⟨E1,E2,e1,rfl,e3⟩
  obtain rfl:E2=[]:=by cases E2 with|nil=>rfl|cons _ _=>cases e1
  rw[List.append_nil] at e3
  rw[e3]
  cases ht:zd x with
  |nil=>rw[ht] at h5;exact h5
  |cons t l=>rw[ht] at h5;exact h5
noncomputable def Q6(κ:Kp):EB:=(R6 κ).range 58 2 (IH κ) (gBk κ) (fun f=>jH f (98::241::QG))
theorem xBk(κ:Kp)(ds rs:List AV)(g:List Int)(os ls:List AV)(i:Int)(I:Nat->S->Prop)(n:Nat)(K:Exit->S->Prop):(vc (Q6 κ).E 12 28 none 0 (ah (Pr κ).toProgram 28 3) (Ng ds rs (iA g) os ls i) (bL (Q6 κ).E 28 3 0 I n K))=(
 letI z1:=gj Tryz.prog 58 2 LoopState.ready none (fU (bJ 13) [(0,AV.ar 4 0 ls.length),(1,AV.bQ 98 [AV.ptr 7 0 [] 0,AV.ptr 8 0 [] 0]),(2,AV.ptr 9 0 [] 0),
  (4,AV.nil),(6,AV.bQ 98 [AV.ptr 7 0 [] 0,AV.ptr 8 0 [] 0])])
 letI z3:=AV.agg [AV.nil,AV.nil,AV.nil]
 letI z4:=IntKind.wrap IntKind.i64 (i+(1:Int))
 letI z5:=AV.agg [AV.ad 3 (iA g),AV.ar 3 0 os.length,AV.ar 4 0 ls.length]
 letI z6:=AV.agg [AV.ad 61 ds,AV.ad 66 rs]
 letI z7:=nth rs i.toNat
 letI z2:=AV.agg [AV.agg [AV.str (toStr (ae (ae z7 0) 0)),AV.ad 56 (ai (ae (ae z7 0) 1))],AV.ad 72 (ai (ae z7 1)),AV.int (toInt (ae z7 2))]
 letI z8:=AV.ar 4 0 ls.length
 letI z9:=AV.ad 3 (iA g)
 letI z10:=i<(↑(rs.length):Int)
 aC (decide z10) (ba (decide ((0:Int)<=i)&&decide z10) (∃(e5:List AV×ByteArray),([AV.ad 61 ds,AV.str (toStr (ae (ae z7 0) 0))],[])=B5 e5/\gK e5/\
 ba (decide (List.length (iA g)<=9223372036854775807)) (aC (!SI (bD e5.2 e5.1) (iA g)) (∃(e0:Nat),e0<n/\I e0 (sp 65 [(1,AV.ad 3 (iA g)),(2,AV.ptr 0 0
 [] 0),(4,AV.ptr 1 0 [] 0),(5,AV.ptr 2 0 [] 0),(17,AV.ad 66 rs),(18,AV.int (↑(rs.length):Int)),(19,AV.int z4)] [Obj.box 25 z6,Obj.box 41 z3,Obj.box
 41 z5,Obj.row 45 os,Obj.row 45 ls])) (∃(e4:QZ),([AV.agg [AV.ad 61 ds,AV.ad 66 rs],AV.int i],[])=zU e4/\KR e4/\∃(e3:Qb),([AV.agg [AV.ad 61 ds,
 AV.ad 66 rs],AV.int i],[])=IP e3/\so e3/\aC (Jk e3.ds e3.rs e3.k) (((∃(e2:A4),([AV.ptr 7 0 [] 0,AV.ptr 8 0 [] 0],[Obj.box 25 z6,Obj.box 41 z3,
 Obj.box 41 z5,Obj.row 45 os,Obj.row 45 ls,Obj.box 66 z2,Obj.box 45 (AV.agg [AV.int (QD.rel (dm e4.ds (dW (nth e4.rs e4.k.toNat)))),AV.ad 58 (QD.steps (dm
 e4.ds (dW (nth e4.rs e4.k.toNat)))),AV.ad 56 (QD.out (dm e4.ds (dW (nth e4.rs e4.k.toNat)))),AV.int (QD.delta (dm e4.ds (dW (nth e4.rs e4.k.toNat))))]),
 Obj.box 45 (AV.agg [AV.int (QD.rel (dm e4.ds (dW (nth e4.rs e4.k.toNat)))),AV.ad 58 (QD.steps (dm e4.ds (dW (nth e4.rs e4.k.toNat)))),AV.ad 56 (QD.out (dm
 e4.ds (dW (nth e4.rs e4.k.toNat)))),AV.int (QD.delta (dm e4.ds (dW (nth e4.rs e4.k.toNat))))]),Obj.box 38 z9,Obj.box 39 z8,Dn.Obj.loop z1])=On κ e2/\Gx
 e2/\aC (List.isEmpty (zd e2)) (∃(e0:Nat),e0<n/\I e0 (sp 65 [(1,AV.ad 3 (iA g)),(2,AV.ptr 0 0 [] 0),(4,AV.ptr 1 0 [] 0),(5,AV.ptr 2 0 [] 0),(17,
 AV.ad 66 rs),(18,AV.int (↑(rs.length):Int)),(19,AV.int z4)] [Obj.box 25 (AV.agg [AV.ad 61 e2.ds,AV.ad 66 e2.rs]),Obj.box 41 z3,Obj.box 41 (AV.agg
 [AV.ad 3 (iA e2.g),AV.ar 3 0 e2.os.length,AV.ar 4 0 e2.ls.length]),Obj.row 45 e2.os,Obj.row 45 e2.ls])) (∃(e1:Nat),e1<n/\I e1 (sp 65 [(1,AV.ad 3 (iA
 g)),(2,AV.ptr 0 0 [] 0),(4,AV.ptr 1 0 [] 0),(5,AV.ptr 2 0 [] 0),(17,AV.ad 66 rs),(18,AV.int (↑(rs.length):Int)),(19,AV.int z4)] [Obj.box 25
 (AV.agg [AV.ad 61 e2.ds,AV.ad 66 e2.rs]),Obj.box 41 z3,Obj.box 41 (AV.agg [AV.ad 3 (iA e2.g),AV.ar 3 0 e2.os.length,AV.ar 4 0 (List.length (e2.ls++
 List.map (fun(e0:QD)=>AV.agg [AV.int e0.rel,AV.ad 58 e0.steps,AV.ad 56 e0.out,AV.int e0.delta]) (zd e2)))]),Obj.row 45 e2.os,Obj.row 45 (e2.ls++
 List.map (fun(e0:QD)=>AV.agg [AV.int e0.rel,AV.ad 58 e0.steps,AV.ad 56 e0.out,AV.int e0.delta]) (zd e2))])))/\∃(e2:A4),([AV.ptr 7 0 [] 0,AV.ptr 8
 0 [] 0],[Obj.box 25 z6,Obj.box 41 z3,Obj.box 41 z5,Obj.row 45 os,Obj.row 45 ls,Obj.box 66 z2,Obj.box 45 (AV.agg [AV.int (QD.rel (dm e4.ds (dW (nth e4.rs
 e4.k.toNat)))),AV.ad 58 (QD.steps (dm e4.ds (dW (nth e4.rs e4.k.toNat)))),AV.ad 56 (QD.out (dm e4.ds (dW (nth e4.rs e4.k.toNat)))),AV.int (QD.delta (dm e4.ds
 (dW (nth e4.rs e4.k.toNat))))]),Obj.box 45 (AV.agg [AV.int (QD.rel (dm e4.ds (dW (nth e4.rs e4.k.toNat)))),AV.ad 58 (QD.steps (dm e4.ds (dW (nth e4.rs
 e4.k.toNat)))),AV.ad 56 (QD.out (dm e4.ds (dW (nth e4.rs e4.k.toNat)))),AV.int (QD.delta (dm e4.ds (dW (nth e4.rs e4.k.toNat))))]),Obj.box 38 z9,Obj.box 39
 z8,Dn.Obj.loop z1])=On κ e2/\Gx e2/\aC (List.isEmpty (zd e2)) (∃(e0:Nat),e0<n/\I e0 (sp 65 [(1,AV.ad 3 (iA g)),(2,AV.ptr 0 0 [] 0),(4,AV.ptr 1
 0 [] 0),(5,AV.ptr 2 0 [] 0),(17,AV.ad 66 rs),(18,AV.int (↑(rs.length):Int)),(19,AV.int z4)] [Obj.box 25 (AV.agg [AV.ad 61 e2.ds,AV.ad 66 e2.rs]),
 Obj.box 41 z3,Obj.box 41 (AV.agg [AV.ad 3 (iA e2.g),AV.ar 3 0 e2.os.length,AV.ar 4 0 e2.ls.length]),Obj.row 45 e2.os,Obj.row 45 e2.ls])) (∃(e1:Nat),e1
 <n/\I e1 (sp 65 [(1,AV.ad 3 (iA g)),(2,AV.ptr 0 0 [] 0),(4,AV.ptr 1 0 [] 0),(5,AV.ptr 2 0 [] 0),(17,AV.ad 66 rs),(18,AV.int (↑(rs.length):Int)),
 (19,AV.int z4)] [Obj.box 25 (AV.agg [AV.ad 61 e2.ds,AV.ad 66 e2.rs]),Obj.box 41 z3,Obj.box 41 (AV.agg [AV.ad 3 (iA e2.g),AV.ar 3 0 e2.os.length,AV.ar 4 0
 (List.length (e2.ls++List.map (fun(e0:QD)=>AV.agg [AV.int e0.rel,AV.ad 58 e0.steps,AV.ad 56 e0.out,AV.int e0.delta]) (zd e2)))]),Obj.row 45 e2.os,
 Obj.row 45 (e2.ls++List.map (fun(e0:QD)=>AV.agg [AV.int e0.rel,AV.ad 58 e0.steps,AV.ad 56 e0.out,AV.int e0.delta]) (zd e2))])))/\∃(e2:A4),
 ([AV.ptr 7 0 [] 0,AV.ptr 8 0 [] 0],[Obj.box 25 z6,Obj.box 41 z3,Obj.box 41 z5,Obj.row 45 os,Obj.row 45 ls,Obj.box 66 z2,Obj.box 45 (AV.agg [AV.int
 (QD.rel (dm e4.ds (dW (nth e4.rs e4.k.toNat)))),AV.ad 58 (QD.steps (dm e4.ds (dW (nth e4.rs e4.k.toNat)))),AV.ad 56 (QD.out (dm e4.ds (dW (nth e4.rs
 e4.k.toNat)))),AV.int (QD.delta (dm e4.ds (dW (nth e4.rs e4.k.toNat))))]),Obj.box 45 (AV.agg [AV.int (QD.rel (dm e4.ds (dW (nth e4.rs e4.k.toNat)))),AV.ad 58
 (QD.steps (dm e4.ds (dW (nth e4.rs e4.k.toNat)))),AV.ad 56 (QD.out (dm e4.ds (dW (nth e4.rs e4.k.toNat)))),AV.int (QD.delta (dm e4.ds (dW (nth e4.rs
 e4.k.toNat))))]),Obj.box 38 z9,Obj.box 39 z8,Dn.Obj.loop z1])=On κ e2/\Gx e2/\aC (List.isEmpty (zd e2)) (∃(e0:Nat),e0<n/\I e0 (sp 65 [(1,AV.ad 3
 (iA g)),(2,AV.ptr 0 0 [] 0),(4,AV.ptr 1 0 [] 0),(5,AV.ptr 2 0 [] 0),(17,AV.ad 66 rs),(18,AV.int (↑(rs.length):Int)),(19,AV.int z4)] [Obj.box 25
 (AV.agg [AV.ad 61 e2.ds,AV.ad 66 e2.rs]),Obj.box 41 z3,Obj.box 41 (AV.agg [AV.ad 3 (iA e2.g),AV.ar 3 0 e2.os.length,AV.ar 4 0 e2.ls.length]),Obj.row 45
 e2.os,Obj.row 45 e2.ls])) (∃(e1:Nat),e1<n/\I e1 (sp 65 [(1,AV.ad 3 (iA g)),(2,AV.ptr 0 0 [] 0),(4,AV.ptr 1 0 [] 0),(5,AV.ptr 2 0 [] 0),(17,
 AV.ad 66 rs),(18,AV.int (↑(rs.length):Int)),(19,AV.int z4)] [Obj.box 25 (AV.agg [AV.ad 61 e2.ds,AV.ad 66 e2.rs]),Obj.box 41 z3,Obj.box 41 (AV.agg
 [AV.ad 3 (iA e2.g),AV.ar 3 0 e2.os.length,AV.ar 4 0 (List.length (e2.ls++List.map (fun(e0:QD)=>AV.agg [AV.int e0.rel,AV.ad 58 e0.steps,AV.ad 56
 e0.out,AV.int e0.delta]) (zd e2)))]),Obj.row 45 e2.os,Obj.row 45 (e2.ls++List.map (fun(e0:QD)=>AV.agg [AV.int e0.rel,AV.ad 58 e0.steps,AV.ad 56
 e0.out,AV.int e0.delta]) (zd e2))]))) (ba (decide ((os.length+1+1)*65<=70368744177664)) (∃(e0:Nat),e0<n/\I e0 (sp 65 [(1,AV.ad 3 (iA g)),(2,
 AV.ptr 0 0 [] 0),(4,AV.ptr 1 0 [] 0),(5,AV.ptr 2 0 [] 0),(17,AV.ad 66 rs),(18,AV.int (↑(rs.length):Int)),(19,AV.int z4)] [Obj.box 25 z6,Obj.box 41
 z3,Obj.box 41 (AV.agg [AV.ad 3 (iA g),AV.ar 3 0 (os.length+1),AV.ar 4 0 ls.length]),Obj.row 45 (List.take os.length os++[AV.agg [AV.int (QD.rel (dm
 e4.ds (dW (nth e4.rs e4.k.toNat)))),AV.ad 58 (QD.steps (dm e4.ds (dW (nth e4.rs e4.k.toNat)))),AV.ad 56 (QD.out (dm e4.ds (dW (nth e4.rs e4.k.toNat)))),
 AV.int (QD.delta (dm e4.ds (dW (nth e4.rs e4.k.toNat))))]]),Obj.row 45 ls]))))))) (K (Exit.exit 0) (sp 65 [(4,AV.ptr 0 0 [] 0),(5,AV.ptr 1 0 [] 0)] [Obj.box
 41 z3,Obj.box 41 (AV.agg [AV.ad 3 (iA g),AV.ar 2 0 os.length,AV.ar 3 0 ls.length]),Obj.row 45 os,Obj.row 45 ls]))):=by kernel_rfl
end Go.Proofs.YthaiinlfnommnaaGreatDoor
