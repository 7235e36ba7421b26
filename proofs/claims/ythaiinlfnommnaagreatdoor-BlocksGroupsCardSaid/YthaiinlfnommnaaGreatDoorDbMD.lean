import Derived.Test.YthaiinlfnommnaaGreatDoorDbMB
import Derived.Test.YthaiinlfnommnaaGreatDoorDbMA
namespace Go.Proofs.YthaiinlfnommnaaGreatDoor
open Go Go.Dn Go.Rl Go.Proofs
attribute [local irreducible] a9 vc
set_option maxRecDepth 20000
structure QG(a:cg):Prop where
 s:cV a
 r:aK (aG a)=true
 f:iH (aG a)=true
def RL(a:cg):List AV×List Dn.Obj:=([aq a],[])
def Sb(a:cg):Out (AV×List Dn.Obj):= .one (.ba [.ar 0 0 (cd (aG a)).length, .int 0],[.row 3 (ints (cd (aG a)))])
def R7(x:cg×Nat):List AV×List Dn.Obj:=([aq x.1, .int x.2],[])
def Kw(x:cg×Nat):Prop:=QG x.1/\x.2<=x.1.bl.length
def SX(x:cg×Nat):Out (AV×List Dn.Obj):= .one (.ba [.ad 9 (strs (kq (aG x.1) x.2)), .int 0],[])
theorem SN: ∀args st K,aM RL QG Sb args st K->aM B6 cV HY args st K:=by
 rintro args st K ⟨a,h1,h2,h3⟩
 refine⟨a,h1,h2.s,?_⟩
 simp only[HY,Out.run]
 rw[h2.r,h2.f]
 exact h3
theorem Tl: ∀args st K,aM R7 Kw SX args st K->aM LF yD wS args st K:=by
 rintro args st K ⟨⟨a,k⟩,h1,⟨h2,hk⟩,h3⟩
 simp only at h2 hk
 refine⟨(a,(k:Int)),h1,h2.s,?_⟩
 simp only[wS,Out.run]
 rw[h2.r,h2.f,show(decide ((k:Int)<0)||decide ((a.bl.length:Int)<k))=false by simp;omega]
 exact h3
theorem Pp(κ:Kp)(args:List AV)(st:List Dn.Obj)(K:AV->List Dn.Obj->Prop)(h:aM B6 cV HY args st K):(Xx κ).E.call 70 args st K:=h
noncomputable def WY(κ:Kp):EB:=(Xx κ).narrow (Pp κ) SN
theorem P7(κ:Kp)(args:List AV)(st:List Dn.Obj)(K:AV->List Dn.Obj->Prop)(h:aM LF yD wS args st K):(WY κ).E.call 77 args st K:=h
noncomputable def BBd(κ:Kp):EB:=(WY κ).narrow (P7 κ) Tl
noncomputable def Qj(κ:Kp):EB:=(BBd κ).calm [70,77]
abbrev qZ:Dn.Obj:= .box 45 (.agg [.int 0, .nil, .nil, .int 0])
abbrev Qw(ds rs:List AV)(a:cg)(rl:Int)(xs os:List AV)(ws:List Nat)(i:Int):S:=sp 66 [(2, .ptr 0 0 [] 0),(3, .ptr 1 0 [] 0),(4, .ptr 2 0 [] 0),(7, .ptr 3 0 [] 0),(35, .ar 5 0 ws.length),(36, .int ws.length),(37, .int i)] [.box 25 (gC ds rs), .box 66 (aq a),qZ, .box 45 (.agg [.int rl, .ar 4 0 xs.length, .ad 56 os, .int (-1)]), .row 58 xs, .row 3 (ints ws)]
theorem xMd(κ:Kp)(ds rs:List AV)(a:cg)(rl:Int)(xs os:List AV)(ws:List Nat)(i:Int)(I:Nat->S->Prop)(n:Nat)(K:Exit->S->Prop):(vc (Qj κ).E 12 41 none 0 (af (Pr κ).toProgram 41 5) (Qw ds rs a rl xs os ws i) (bH (Qj κ).E 41 5 0 I n K))=(
 letI z2:=AV.agg [AV.int 0,AV.nil,AV.nil,AV.int 0]
 letI z3:=AV.agg [AV.ad 61 ds,AV.ad 66 rs]
 letI z4:=AV.agg [AV.int rl,AV.ar 4 0 xs.length,AV.ad 56 os,AV.int (-1)]
 letI z5:=nth (ints ws) (0+i.toNat)
 letI z1:=nth a.bl (Int.toNat (toInt z5))
 letI z6:=i<(↑(ws.length):Int)
 aD (decide z6) (a7 (decide ((0:Int)<=i)&&decide z6) (∃(e2:cg×Nat),([aq a,AV.int i],[])=R7 e2/\Kw e2/\a7 (decide ((0:Int)<=toInt z5)&&
 decide (toInt z5<(↑(a.bl.length):Int))) (∃(e1:QP),([AV.ptr 0 0 [] 0,AV.agg [AV.int (toInt (ae z1 0)),AV.agg [AV.str (toStr (ae (ae z1 1) 0)),AV.ad 56
 (ai (ae (ae z1 1) 1))],AV.agg [AV.int (toInt (ae (ae z1 2) 0)),AV.str (toStr (ae (ae z1 2) 1)),AV.int (toInt (ae (ae z1 2) 2)),AV.ad 56 (ai (ae (ae z1 2)
 3))],AV.agg [AV.int (toInt (ae (ae z1 3) 0)),AV.str (toStr (ae (ae z1 3) 1)),AV.int (toInt (ae (ae z1 3) 2)),AV.ad 56 (ai (ae (ae z1 3) 3))]]],[Obj.box 131
 (AV.agg [AV.agg [AV.ad 61 ds,AV.ad 66 rs],AV.ad 9 (strs (kq (aG e2.1) e2.2))])])=Tk e1/\OO e1/\(Obj.box 25 z3=Obj.box 25 z3/\Obj.box 66 (aq a)=
 Obj.box 66 (aq a)/\Obj.box 45 z2=Obj.box 45 z2/\Obj.box 45 z4=Obj.box 45 z4/\Obj.box 131 (AV.agg [AV.agg [AV.ad 61 e1.ds,AV.ad 66 e1.rs],AV.ad 9
 e1.bd])=Obj.box 131 (AV.agg [AV.agg [AV.ad 61 ds,AV.ad 66 rs],AV.ad 9 (strs (kq (aG e2.1) e2.2))])/\True)/\a7 (decide ((xs.length+1+1)*297<=
 70368744177664)) (∃(e0:Nat),e0<n/\I e0 (sp 66 [(2,AV.ptr 0 0 [] 0),(3,AV.ptr 1 0 [] 0),(4,AV.ptr 2 0 [] 0),(7,AV.ptr 3 0 [] 0),(35,AV.ar 5 0
 ws.length),(36,AV.int (↑(ws.length):Int)),(37,AV.int (IntKind.wrap IntKind.i64 (i+(1:Int))))] [Obj.box 25 z3,Obj.box 66 (aq a),Obj.box 45 z2,
 Obj.box 45 (AV.agg [AV.int rl,AV.ar 4 0 (xs.length+1),AV.ad 56 os,AV.int (-1)]),Obj.row 58 (List.take xs.length xs++[AV.agg [AV.int (SD.op (wo e1.ds
 e1.bd e1.rel e1.l e1.op e1.u e1.v)),AV.int (SD.sX (wo e1.ds e1.bd e1.rel e1.l e1.op e1.u e1.v)),AV.int (SD.rl (wo e1.ds e1.bd e1.rel e1.l e1.op e1.u e1.v)),
 AV.ad 3 (iA (SS.eI (SD.q (wo e1.ds e1.bd e1.rel e1.l e1.op e1.u e1.v)))),AV.ad 56 (SS.df (SD.q (wo e1.ds e1.bd e1.rel e1.l e1.op e1.u e1.v))),AV.ad 3 (iA
 (SS.cW (SD.q (wo e1.ds e1.bd e1.rel e1.l e1.op e1.u e1.v)))),AV.ad 9 (strs (SS.binds (SD.q (wo e1.ds e1.bd e1.rel e1.l e1.op e1.u e1.v)))),AV.ad 3 (iA (SS.cX
 (SD.q (wo e1.ds e1.bd e1.rel e1.l e1.op e1.u e1.v)))),AV.ad 9 (strs (SS.eqs (SD.q (wo e1.ds e1.bd e1.rel e1.l e1.op e1.u e1.v)))),AV.str (SD.t (wo e1.ds e1.bd
 e1.rel e1.l e1.op e1.u e1.v)),AV.agg [AV.int (AT.op (SD.X (wo e1.ds e1.bd e1.rel e1.l e1.op e1.u e1.v))),AV.str (AT.s (SD.X (wo e1.ds e1.bd e1.rel e1.l e1.op
 e1.u e1.v))),AV.int (AT.n (SD.X (wo e1.ds e1.bd e1.rel e1.l e1.op e1.u e1.v))),AV.ad 56 (AT.l (SD.X (wo e1.ds e1.bd e1.rel e1.l e1.op e1.u e1.v)))],AV.agg
 [AV.int (AT.op (SD.Y (wo e1.ds e1.bd e1.rel e1.l e1.op e1.u e1.v))),AV.str (AT.s (SD.Y (wo e1.ds e1.bd e1.rel e1.l e1.op e1.u e1.v))),AV.int (AT.n (SD.Y (wo
 e1.ds e1.bd e1.rel e1.l e1.op e1.u e1.v))),AV.ad 56 (AT.l (SD.Y (wo e1.ds e1.bd e1.rel e1.l e1.op e1.u e1.v)))]]]),Obj.row 3 (ints ws)]))))) (K (Exit.exit 0)
 (sp 66 [(4,AV.ptr 0 0 [] 0),(7,AV.ptr 1 0 [] 0)] [Obj.box 45 z2,Obj.box 45 (AV.agg [AV.int rl,AV.ar 2 0 xs.length,AV.ad 56 os,AV.int (-1)]),Obj.row 58
 xs]))):=by kernel_rfl
theorem Eu: ∀{l:List Nat} {x:Nat},x∈l->x<=l.sum
 |a::l,x,h=>by
  rw[List.sum_cons]
  rcases List.mem_cons.1 h with rfl|h
  ·omega
  ·have:=Eu h;omega
theorem J5{a:cg}(h:cV a){l:AV}(hl:l∈a.bl):aX (aa (ai (ae (ae l 1) 1)))<=100000/\(cM (ae l 2)).iS<=100000/\(cM (ae l 3)).iS<=100000:=by
 have h1:=h.1
 rw[mD 56 a.rel a.hl a.bl] at h1
 have h2:iJ (cE l)<=((c6 a.bl).map iJ).sum:=Eu (List.mem_map_of_mem (List.mem_map_of_mem hl))
 simp only[oU] at h1
 have h3:iJ (cE l)=aX [cM (ae l 2),cM (ae l 3)]+aX (aa (ai (ae (ae l 1) 1))):=rfl
 simp only[aX] at h3
 omega
def jj(ds:List AV)(a:cg)(n:Nat):List AV:=(List.range n).map fun k=>Uc (KP ds (strs (kq (aG a) k)) (nth a.bl ((cd (aG a)).getD k 0)))
theorem BW(ds:List AV)(a:cg)(n:Nat):jj ds a (n+1)=jj ds a n++[Uc (KP ds (strs (kq (aG a) n)) (nth a.bl ((cd (aG a)).getD n 0)))]:=by
 simp[jj,List.range_succ]
theorem tD(ds:List AV)(a:cg)(n:Nat):(jj ds a n).length=n:=by simp[jj]
structure TY where
 ds:List AV
 rs:List AV
 a:cg
 rl:Int
 os:List AV
 i:Nat
abbrev OZ(x:TY):S:=Qw x.ds x.rs x.a x.rl (jj x.ds x.a x.i) x.os (cd (aG x.a)) x.i
def Jx(x:TY):Prop:=QG x.a/\x.ds.length<=aR/\x.i<=(cd (aG x.a)).length
def R9(x:TY):Out (Exit×S):= .one (.exit 0,sp 66 [(4, .ptr 0 0 [] 0),(7, .ptr 1 0 [] 0)] [qZ, .box 45 (.agg [.int x.rl, .ar 2 0 (jj x.ds x.a (cd (aG x.a)).length).length, .ad 56 x.os, .int (-1)]), .row 58 (jj x.ds x.a (cd (aG x.a)).length)])
theorem lMd(κ:Kp):bh (Qj κ).E 12 41 5 (aP 0 OZ Jx R9):=by
 refine aL (fun x=>(cd (aG x.a)).length - x.i) ?_
 rintro⟨ds,rs,a,rl,os,i⟩ K ⟨ha,hd,hi⟩ ho
 simp only at ha hd hi
 rw[show(Qj κ).E.P=Pr κ from rfl]
 refine Eq.mpr (xMd κ ds rs a rl (jj ds a i) os (cd (aG a)) i _ _ K) ?_
 have hw:=oH ha.f
 have hbl:=ha.s.2
 rw[ah,aa1,aa3]
 refine⟨fun h=>?_,fun h=>?_⟩
 ·have hk:i<(cd (aG a)).length:=by omega
  have hwk:(cd (aG a))[i]<a.bl.length:=by
   have:=AA (List.getElem_mem hk)
   rwa [gl] at this
  have hx:nth a.bl (cd (aG a))[i]∈a.bl:=by rw[bg _ _ hwk];exact List.getElem_mem _
  have hf:=J5 ha.s hx
  have hgd:(cd (aG a)).getD i 0=(cd (aG a))[i]:=by simp[List.getD_eq_getElem?_getD,hk]
  have hv:(strs (kq (aG a) i)).length<=100000:=by
   have h1:=x1 ha.s
   have h2:(kq (aG a) i).length<=(cP (aG a)).length:=List.length_filter_le _ _
   rw[aU];omega
  have hs:=BW ds a i
  rw[hgd] at hs
  simp only[Int.toNat_natCast,Nat.zero_add,Ao _ _ hk]
  refine an.2 ⟨by simp;omega,(a,i),rfl,⟨ha,by show i<=a.bl.length;omega⟩,an.2 ⟨by simp;omega,⟨ds,rs,strs (kq (aG a) i),toStr (ae (ae (nth a.bl (cd (aG a))[i]) 1) 0),ai (ae (ae (nth a.bl (cd (aG a))[i]) 1) 1),toInt (ae (nth a.bl (cd (aG a))[i]) 0),wv (ae (nth a.bl (cd (aG a))[i]) 2),wv (ae (nth a.bl (cd (aG a))[i]) 3)⟩,rfl,⟨hf.1,hv,hd,by rw[nQ];exact hf.2.1,by rw[nQ];exact hf.2.2⟩,by simp,an.2 ⟨?_,_,?_,⟨ds,rs,a,rl,os,i+1⟩,?_,⟨ha,hd,hk⟩,rfl,ho⟩⟩⟩
  ·rw[aa1,tD];omega
  ·simp only;omega
  ·simp only[OZ,Qw]
   rw[hs,List.take_length,aW (n:=(i:Int)+1) (by omega) (by omega),ab9]
   rfl
 ·obtain rfl:i=(cd (aG a)).length:=by omega
  exact ho
noncomputable def UZ(κ:Kp):EB:=(Qj κ).loop (lMd κ)
theorem yMd(κ:Kp)(ds rs:List AV)(a:cg)(K:AV->List Dn.Obj->Prop):(a9 (UZ κ).E 12 41 [gC ds rs,aq a] [] K)=(
 letI z1:=Pg.toProgram (Env.P (EB.E (Qj κ)))
 ∃(e3:List AV×ByteArray),([AV.ad 61 ds,AV.str a.rel],[])=AH e3/\gx e3/\∃(e2:List AV),([AV.ad 56 a.hl],[])=HD e2/\yf e2/\∃(e1:cg),([aq
 a],[])=RL e1/\QG e1/\af z1 41 5=af z1 41 5/\∃(e0:TY),sp 66 [(2,AV.ptr 0 0 [] 0),(3,AV.ptr 1 0 [] 0),(4,AV.ptr 2 0 [] 0),(7,AV.ptr 3 0 [] 0),
 (35,AV.ar 5 0 (List.length (cd (aG e1)))),(36,AV.int (↑(List.length (cd (aG e1))):Int)),(37,AV.int 0)] [Obj.box 25 (AV.agg [AV.ad 61 ds,AV.ad 66 rs]),
 Obj.box 66 (aq a),Obj.box 45 (AV.agg [AV.int 0,AV.nil,AV.nil,AV.int 0]),Obj.box 45 (AV.agg [AV.int (bt e3.2 e3.1),AV.ar 4 0 0,AV.ad 56 (cR (aa e2)),
 AV.int (-1)]),Obj.row 58 [],Obj.row 3 (ints (cd (aG e1)))]=OZ e0/\Jx e0/\K (AV.agg [AV.int e0.rl,AV.ad 58 (List.take (List.length (jj e0.ds e0.a
 (List.length (cd (aG e0.a))))) (List.drop 0 (jj e0.ds e0.a (List.length (cd (aG e0.a)))))),AV.ad 56 e0.os,AV.int (-1)]) []):=by kernel_rfl
def dM(ds:List AV)(a:cg):QD:=⟨bt a.rel ds,jj ds a (cd (aG a)).length,cR (aa a.hl), -1⟩
structure Um where
 ds:List AV
 rs:List AV
 a:cg
def RB(x:Um):List AV×List Dn.Obj:=([gC x.ds x.rs,aq x.a],[])
def Ig(x:Um):Prop:=QG x.a/\x.ds.length<=aR
def RC(x:Um):Out (AV×List Dn.Obj):= .one (qA (dM x.ds x.a),[])
theorem cM0(κ:Kp):bq (UZ κ).E 12 41 (aM RB Ig RC):=by
 refine aZ ?_
 rintro⟨ds,rs,a⟩ K ⟨ha,hd⟩ ho
 simp only at ha hd
 refine Eq.mpr (yMd κ ds rs a K) ?_
 have hh:aX (aa a.hl)<=100000:=by
  have h1:=ha.s.1
  rw[mD 56 a.rel a.hl a.bl] at h1
  simp only[oU] at h1;omega
 refine⟨(ds,a.rel),rfl,hd,a.hl,rfl,hh,a,rfl,ha,rfl,⟨ds,rs,a,bt a.rel ds,cR (aa a.hl),0⟩,rfl,⟨ha,hd,Nat.zero_le _⟩,?_⟩
 rw[ab1,List.take_length]
 exact ho
noncomputable def U6(κ:Kp):EB:=((UZ κ).call (cM0 κ)).calm [41]
theorem yQo(κ:Kp)(ds rs:List AV)(k:Int)(K:AV->List Dn.Obj->Prop):(a9 (U6 κ).E 12 17 [gC ds rs, .int k] [] K)=(
 letI z1:=K (AV.ba [AV.agg [AV.int 0,AV.nil,AV.nil,AV.int 0],AV.int 2]) []
 letI z2:=nth rs k.toNat
 ∃(e1:qB),([AV.agg [AV.ad 61 ds,AV.ad 66 rs]],[])=H7 e1/\vn e1/\aD (Prod.snd (fG e1.1 e1.2) != (0:Int)) (K (AV.ba [AV.agg [AV.int 0,AV.nil,AV.nil,
 AV.int 0],AV.int (Prod.snd (fG e1.1 e1.2))]) []) (aD (decide (k<(0:Int))) z1 (aD (decide (k>=(↑(rs.length):Int))) z1 (a7 (decide ((0:Int)<=k)&&
 decide (k<(↑(rs.length):Int))) (∃(e0:Um),([AV.agg [AV.ad 61 ds,AV.ad 66 rs],AV.agg [AV.agg [AV.str (toStr (ae (ae z2 0) 0)),AV.ad 56 (ai (ae (ae z2
 0) 1))],AV.ad 72 (ai (ae z2 1)),AV.int (toInt (ae z2 2))]],[])=RB e0/\Ig e0/\K (AV.ba [AV.agg [AV.int (QD.rel (dM e0.ds e0.a)),AV.ad 58 (QD.steps (dM
 e0.ds e0.a)),AV.ad 56 (QD.out (dM e0.ds e0.a)),AV.int (QD.delta (dM e0.ds e0.a))],AV.int 0]) []))))):=by kernel_rfl
theorem F0{ds rs:List AV}(hs:fX ds rs)(h:(fG ds rs).2=0){r:AV}(hr:r∈rs):QG (eE r):=by
 have h4:=(zY.1 h).2.2.2 r hr
 refine⟨hs.2.2 r hr,?_,?_⟩
 ·cases e:aK (aG (eE r)) with
  |true=>rfl
  |false=>
   unfold iU uu at h4
   rw[e] at h4
   cases h4
 ·cases e:aK (aG (eE r)) with
  | true=>
   cases e2:iH (aG (eE r)) with
   |true=>rfl
   |false=>
    unfold iU uu at h4
    rw[e,e2] at h4
    cases h4
  |false=>
   unfold iU uu at h4
   rw[e] at h4
   cases h4
structure Rn where
 ds:List AV
 rs:List AV
 k:Int
def JY(x:Rn):List AV×List Dn.Obj:=([gC x.ds x.rs, .int x.k],[])
def B3(x:Rn):Out (AV×List Dn.Obj):= .aD (decide (wq x.ds x.rs x.k x.k x.rs.length=0))
 (.one (.ba [qA (dM x.ds (eE (nth x.rs x.k.toNat))), .int 0],[]))
 (.one (.ba [.agg [.int 0, .nil, .nil, .int 0], .int (wq x.ds x.rs x.k x.k x.rs.length)],[]))
theorem cQo(κ:Kp):bq (U6 κ).E 12 17 (aM JY (fun x=>fX x.ds x.rs) B3):=by
 refine aZ ?_
 rintro⟨ds,rs,k⟩ K hs ho
 simp only at hs
 refine Eq.mpr (yQo κ ds rs k K) ?_
 simp only[B3,Out.run,ah,aa1,aa3] at ho
 refine⟨(ds,rs),rfl,hs,?_⟩
 simp only[ah,an,bne_iff_ne,bne_eq_false_iff_eq,aa1,aa3,aa2]
 refine⟨fun e=>?_,fun e=>⟨fun e2=>?_,fun e2=>⟨fun e3=>?_,fun e3=>⟨⟨by omega,by omega⟩,?_⟩⟩⟩⟩
 ·have hk:wq ds rs k k rs.length=(fG ds rs).2:=by unfold wq;rw[aa5 e];rfl
  have:=ho.2 (by rw[hk];exact e)
  rw[hk] at this;exact this
 ·have hk:wq ds rs k k rs.length=2:=by
   unfold wq
   rw[aa7 e,show Hd k k (rs.length:Int)=false by unfold Hd;simp;omega];rfl
  have:=ho.2 (by rw[hk];decide)
  rw[hk] at this;exact this
 ·have hk:wq ds rs k k rs.length=2:=by
   unfold wq
   rw[aa7 e,show Hd k k (rs.length:Int)=false by unfold Hd;simp;omega];rfl
  have:=ho.2 (by rw[hk];decide)
  rw[hk] at this;exact this
 ·have hk:k.toNat<rs.length:=by omega
  have hx:nth rs k.toNat∈rs:=by rw[bg _ _ hk];exact List.getElem_mem _
  exact⟨⟨ds,rs,eE (nth rs k.toNat)⟩,rfl,⟨F0 hs e hx,hs.1⟩,ho.1 (IL e ⟨by omega,by omega⟩ ⟨by omega,by omega⟩)⟩
noncomputable def PO(κ:Kp):EB:=(U6 κ).call (cQo κ)
def Jv(x:Rn):Prop:=fX x.ds x.rs/\wq x.ds x.rs x.k x.k x.rs.length=0
def RA(x:Rn):Out (AV×List Dn.Obj):= .one (.ba [qA (dM x.ds (eE (nth x.rs x.k.toNat))), .int 0],[])
theorem Sm: ∀args st K,aM JY Jv RA args st K->aM JY (fun x=>fX x.ds x.rs) B3 args st K:=by
 rintro args st K ⟨x,h1,h2,h3⟩
 refine⟨x,h1,h2.1,?_⟩
 simp only[B3,Out.run]
 rw[aa7 h2.2]
 exact h3
structure Q3 where
 q:QD
 g:List Int
 xs:List AV
 i:Nat
 d:Int
abbrev H8(x:Q3):S:=sp 32 [(0, .cu 0),(1, .ptr 1 0 [] 0),(2, .ptr 2 0 [] 0),(7, .ad 58 x.q.steps),(8, .int x.q.steps.length),(9, .int x.i)] [.ext (some x.xs), .box 45 (.agg [.int x.q.rel, .ad 58 x.q.steps, .ad 56 x.q.out, .int x.d]), .box 38 (.ad 3 (iA x.g))]
theorem xTu(κ:Kp)(x:Q3)(I:Nat->S->Prop)(n:Nat)(K:Exit->S->Prop):(vc (PO κ).E 12 98 none 3 (af (Pr κ).toProgram 98 1) (H8 x) (bH (PO κ).E 98 1 3 I n K))=(
 letI z2:=AV.agg [AV.int x.q.rel,AV.ad 58 x.q.steps,AV.ad 56 x.q.out,AV.int (↑(x.i):Int)]
 letI z3:=List.length x.q.steps
 letI z4:=IntKind.wrap IntKind.i64 ((↑(x.i):Int)+(1:Int))
 letI z5:=AV.ad 3 (iA x.g)
 letI z1:=∃(e0:Nat),e0<n/\I e0 (sp 32 [(0,AV.cu 0),(1,AV.ptr 1 0 [] 0),(2,AV.ptr 2 0 [] 0),(7,AV.ad 58 x.q.steps),(8,AV.int (↑z3:Int)),(9,
  AV.int z4)] [Obj.ext (some x.xs),Obj.box 45 z2,Obj.box 38 z5])
 letI z6:=nth x.q.steps (Int.toNat (↑(x.i):Int))
 letI z7:=(↑(x.i):Int)<(↑z3:Int)
 aD (decide z7) (a7 (true&&decide z7) (aD (toInt (ae z6 0)==(1:Int)) (a7 (decide (List.length (iA x.g)<=9223372036854775807)) (aD (QL (toInt (ae z6 2))
 (iA x.g)) (∃(e1:List AV),x.xs=AV.ba [AV.agg [AV.int x.q.rel,AV.ad 58 x.q.steps,AV.ad 56 x.q.out,AV.int (↑(x.i):Int)]]::e1/\(∃(e0:Nat),e0<n/\
 I e0 (sp 32 [(0,AV.cu 0),(1,AV.ptr 1 0 [] 0),(2,AV.ptr 2 0 [] 0),(7,AV.ad 58 x.q.steps),(8,AV.int (↑z3:Int)),(9,AV.int z4)] [Obj.ext (some e1),
 Obj.box 45 z2,Obj.box 38 z5]))/\K Exit.ret (sp 32 [] [Obj.ext none,Obj.box 45 z2,Obj.box 38 z5])) z1)) z1)) (K (Exit.exit 0) (sp 32 [] [Obj.ext (some x.xs),
 Obj.box 45 (AV.agg [AV.int x.q.rel,AV.ad 58 x.q.steps,AV.ad 56 x.q.out,AV.int x.d]),Obj.box 38 z5]))):=by kernel_rfl
def JD(l:List QD):List AV:=l.map fun q=> .ba [qA q]
abbrev NF(q:QD)(d:Int):Dn.Obj:= .box 45 (.agg [.int q.rel, .ad 58 q.steps, .ad 56 q.out, .int d])
abbrev QU(g:List Int):Dn.Obj:= .box 38 (.ad 3 (iA g))
def DR(x:Q3):Prop:=x.q.steps.length<=100000/\x.i<=x.q.steps.length/\x.g.length<=60/\x.xs=JD (Ap x.q x.g (x.q.steps.drop x.i) x.i)
def Oa(x:Q3):Out (Exit×S):= .all (fun _:Bool×Int=>True) fun y=> .aD y.1
 (.one (.exit 0,sp 32 [] [.ext (some []),NF x.q y.2,QU x.g]))
 (.one (.ret,sp 32 [] [.ext none,NF x.q y.2,QU x.g]))
theorem LX(q:QD)(g:List Int)(l:List AV)(i:Nat)(h:i<l.length):Ap q g (l.drop i) i=bif decide (toInt (ae (nth l i) 0)=1)&&g.contains (toInt (ae (nth l i) 2)) then{q with delta:=(i:Int)}::Ap q g (l.drop (i+1)) ((i+1:Nat):Int) else Ap q g (l.drop (i+1)) ((i+1:Nat):Int):=by
 rw[ab2 h,←bg l i h,Ap];rfl
theorem lTu(κ:Kp):bh (PO κ).E 12 98 1 (aP 3 H8 DR Oa):=by
 refine aL (fun x=>x.q.steps.length - x.i) ?_
 rintro⟨q,g,xs,i,d⟩ K ⟨h1,h2,h4,h3⟩ ho
 simp only at h1 h2 h3 h4
 rw[show(PO κ).E.P=Pr κ from rfl]
 refine Eq.mpr (xTu κ ⟨q,g,xs,i,d⟩ _ _ K) ?_
 have ho1:=fun e=>ho (true,e) trivial
 have ho2:=fun e=>ho (false,e) trivial
 simp only[Out.run,aD] at ho1 ho2
 simp only[ac0,Int.toNat_natCast,CQ]
 rw[ah,aa1,aa3]
 refine⟨fun h=>an.2 ⟨by simpa using h,?_⟩,fun h=>?_⟩
 ·have hk:i<q.steps.length:=by omega
  have hd:=LX q g q.steps i hk
  rw[hd] at h3
  have next: ∀ys,ys=JD (Ap q g (q.steps.drop (i+1)) ((i+1:Nat):Int))->∃m,m<q.steps.length - i/\fe H8 DR Oa (fun x=>x.q.steps.length - x.i) K m (H8 ⟨q,g,ys,i+1,i⟩):=fun ys hy=>
   ⟨_,by simp only;omega,⟨q,g,ys,i+1,i⟩,rfl,⟨h1,hk,h4,hy⟩,rfl,ho⟩
  rw[aW (n:=(i:Int)+1) (by omega) (by omega),ah]
  refine⟨fun e=>an.2 ⟨by rw[aa1,fP];omega,ah.2 ⟨fun e2=>?_,fun e2=>?_⟩⟩,fun e=>?_⟩
  ·rw[aa7 (by simpa using e),e2] at h3
   exact⟨_,h3,next _ rfl,ho2 _⟩
  ·rw[aa7 (by simpa using e),e2] at h3
   exact next _ h3
  ·rw[aa5 (by simpa using e),Bool.false_and] at h3
   exact next _ h3
 ·rw[aa9 (by omega)] at h3
  have h3:xs=[]:=h3
  subst h3
  exact ho1 d
noncomputable def Vl(κ:Kp):EB:=(PO κ).loop (lTu κ)
theorem yTu(κ:Kp)(q:QD)(g:List Int)(xs:List AV)(K:AV->List Dn.Obj->Prop):(a9 (Vl κ).E 12 98 [.cu 0, .ptr 1 0 [] 0, .ptr 2 0 [] 0] [.ext (some xs),NF q q.delta,QU g] K)=(
 letI z1:=Pg.toProgram (Env.P (EB.E (PO κ)))
 af z1 98 1=af z1 98 1/\∃(e1:Q3),sp 32 [(0,AV.cu 0),(1,AV.ptr 1 0 [] 0),(2,AV.ptr 2 0 [] 0),(7,AV.ad 58 q.steps),(8,AV.int (↑(q.steps.length):
 Int)),(9,AV.int 0)] [Obj.ext (some xs),Obj.box 45 (AV.agg [AV.int q.rel,AV.ad 58 q.steps,AV.ad 56 q.out,AV.int q.delta]),Obj.box 38 (AV.ad 3 (iA g))]=
 H8 e1/\DR e1/\∀(e0:Bool×Int),True->aD e0.1 (K (AV.ba []) [Obj.ext (some []),Obj.box 45 (AV.agg [AV.int e1.q.rel,AV.ad 58 e1.q.steps,AV.ad 56
 e1.q.out,AV.int e0.2]),Obj.box 38 (AV.ad 3 (iA e1.g))]) (K (AV.ba []) [Obj.ext none,Obj.box 45 (AV.agg [AV.int e1.q.rel,AV.ad 58 e1.q.steps,AV.ad 56
 e1.q.out,AV.int e0.2]),Obj.box 38 (AV.ad 3 (iA e1.g))])):=by kernel_rfl
abbrev VC:=QD×List Int
def Rr(x:VC):List AV×List Dn.Obj:=([.cu 0, .ptr 1 0 [] 0, .ptr 2 0 [] 0],[.ext (some (JD (Ap x.1 x.2 x.1.steps 0))),NF x.1 x.1.delta,QU x.2])
def I9(x:VC):Prop:=x.1.steps.length<=100000/\x.2.length<=60
def N7(_:VC):Out (AV×List Dn.Obj):= .all (fun st'=>qP st') fun st'=> .one (.ba [],st')
theorem Zn(κ:Kp):bq (Vl κ).E 12 98 (aM Rr I9 N7):=by
 refine aZ ?_
 rintro⟨q,g⟩ K ⟨h1,h2⟩ ho
 refine Eq.mpr (yTu κ q g (JD (Ap q g q.steps 0)) K) ?_
 refine⟨rfl,⟨q,g,JD (Ap q g q.steps 0),0,q.delta⟩,rfl,⟨h1,Nat.zero_le _,h2,rfl⟩,fun y _=>?_⟩
 obtain⟨b,d⟩:=y
 cases b
 ·exact ho _ trivial
 ·exact ho _ trivial
noncomputable def Yn(κ:Kp):EB:=(Vl κ).call (Zn κ)
theorem Pt(κ:Kp)(args:List AV)(st:List Dn.Obj)(K:AV->List Dn.Obj->Prop)(h:aM JY (fun x=>fX x.ds x.rs) B3 args st K):(Yn κ).E.call 17 args st K:=h
noncomputable def PZ(κ:Kp):EB:=(((Yn κ).narrow (Pt κ) Sm).calm [17,18]).opens [(28,3,[(1129,some 45),(1130,some 45)])]
abbrev MB(ds rs gs:List AV)(os ls:List AV)(i:Int):S:=sp 65 [(1, .ad 3 gs),(2, .ptr 0 0 [] 0),(4, .ptr 1 0 [] 0),(5, .ptr 2 0 [] 0),(17, .ad 66 rs),(18, .int rs.length),(19, .int i)] [.box 25 (gC ds rs), .box 41 (.agg [.nil, .nil, .nil]), .box 41 (.agg [.ad 3 gs, .ar 3 0 os.length, .ar 4 0 ls.length]), .row 45 os, .row 45 ls]
structure z8 where
 ds:List AV
 rs:List AV
 g:List Int
 os:List AV
 ls:List AV
 a:cg
 q:QD
noncomputable abbrev Pa(κ:Kp)(x:z8):Dn.Obj:=
 .loop (fR (Pr κ).toProgram 58 2 .ready none (fK (bz 13) [(0, .ar 4 0 x.ls.length),(1, .bI 98 [.ptr 7 0 [] 0, .ptr 8 0 [] 0]),(2, .ptr 9 0 [] 0),(4, .nil),(6, .bI 98 [.ptr 7 0 [] 0, .ptr 8 0 [] 0])]))
abbrev Vk(x:z8):List Dn.Obj:=[.box 25 (gC x.ds x.rs), .box 41 (.agg [.nil, .nil, .nil]), .box 41 (.agg [.ad 3 (iA x.g), .ar 3 0 x.os.length, .ar 4 0 x.ls.length]), .row 45 x.os]
noncomputable abbrev mZ(κ:Kp)(x:z8):List Dn.Obj:=Vk x++[.row 45 x.ls, .box 66 (aq x.a),NF x.q x.q.delta,NF x.q x.q.delta,QU x.g, .box 39 (.ar 4 0 x.ls.length),Pa κ x]
noncomputable abbrev K5(κ:Kp)(x:z8):List Dn.Obj:=Vk x++[.row 45 x.ls, .box 66 (aq x.a),NF x.q x.q.delta, .dead, .dead, .box 39 (.ar 4 0 x.ls.length),Pa κ x]
noncomputable abbrev A7(κ:Kp)(x:z8)(ts:List AV):List Dn.Obj:=Vk x++[.dead, .box 66 (aq x.a),NF x.q x.q.delta, .dead, .dead, .box 39 (.ar 11 0 ts.length),Pa κ x, .row 45 ts]
theorem sBk(κ:Kp)(x:z8)(Q:List Dn.Obj->Prop):(tidy (Pr κ).toProgram 11 (dO (mZ κ x) (ct (mZ κ x) [.ptr 7 0 [] 0, .ptr 8 0 [] 0])) Q)=(
 Q [Obj.box 25 (AV.agg [AV.ad 61 x.ds,AV.ad 66 x.rs]),Obj.box 41 (AV.agg [AV.nil,AV.nil,AV.nil]),Obj.box 41 (AV.agg [AV.ad 3 (iA x.g),AV.ar 3 0
 x.os.length,AV.ar 4 0 x.ls.length]),Obj.row 45 x.os,Obj.row 45 x.ls,Obj.box 66 (aq x.a),Obj.box 45 (AV.agg [AV.int x.q.rel,AV.ad 58 x.q.steps,AV.ad 56
 x.q.out,AV.int x.q.delta]),Obj.dead,Obj.dead,Obj.box 39 (AV.ar 4 0 x.ls.length),Dn.Obj.loop (fR Tryz.prog 58 2 LoopState.ready none (fK (bz 13) [(0,AV.ar
 4 0 x.ls.length),(1,AV.bI 98 [AV.ptr 7 0 [] 0,AV.ptr 8 0 [] 0]),(2,AV.ptr 9 0 [] 0),(4,AV.nil),(6,AV.bI 98 [AV.ptr 7 0 [] 0,AV.ptr 8 0 [] 0])]))]):=by kernel_rfl
theorem Ze(κ:Kp)(x:z8)(t:QD)(Q:List Dn.Obj->Prop)(K2:List Dn.Obj->Prop):(gG (vc (PZ κ).E 12) 10 [qA t] (K5 κ x) (fun r st''=>match r with| .lit (.bool true)=>tidy (Pr κ).toProgram 11 st'' Q| .lit (.bool false)=>K2 st''|_=>False))=(
 a7 (decide ((x.ls.length+1+1)*65<=70368744177664)) (Q [Obj.box 25 (AV.agg [AV.ad 61 x.ds,AV.ad 66 x.rs]),Obj.box 41 (AV.agg [AV.nil,AV.nil,AV.nil]),
 Obj.box 41 (AV.agg [AV.ad 3 (iA x.g),AV.ar 3 0 x.os.length,AV.ar 4 0 x.ls.length]),Obj.row 45 x.os,Obj.dead,Obj.box 66 (aq x.a),Obj.box 45 (AV.agg [AV.int
 x.q.rel,AV.ad 58 x.q.steps,AV.ad 56 x.q.out,AV.int x.q.delta]),Obj.dead,Obj.dead,Obj.box 39 (AV.ar 11 0 (x.ls.length+1)),Dn.Obj.loop (fR Tryz.prog 58 2
 LoopState.ready none (fK (bz 13) [(0,AV.ar 4 0 x.ls.length),(1,AV.bI 98 [AV.ptr 7 0 [] 0,AV.ptr 8 0 [] 0]),(2,AV.ptr 9 0 [] 0),(4,AV.nil),(6,AV.bI 98
 [AV.ptr 7 0 [] 0,AV.ptr 8 0 [] 0])])),Obj.row 45 (List.take x.ls.length x.ls++[AV.agg [AV.int t.rel,AV.ad 58 t.steps,AV.ad 56 t.out,AV.int t.delta]])])):=by kernel_rfl
theorem tBk(κ:Kp)(x:z8)(ts:List AV)(t:QD)(Q:List Dn.Obj->Prop)(K2:List Dn.Obj->Prop):(gG (vc (PZ κ).E 12) 10 [qA t] (A7 κ x ts) (fun r st''=>match r with| .lit (.bool true)=>tidy (Pr κ).toProgram 11 st'' Q| .lit (.bool false)=>K2 st''|_=>False))=(
 a7 (decide ((ts.length+1+1)*65<=70368744177664)) (Q [Obj.box 25 (AV.agg [AV.ad 61 x.ds,AV.ad 66 x.rs]),Obj.box 41 (AV.agg [AV.nil,AV.nil,AV.nil]),
 Obj.box 41 (AV.agg [AV.ad 3 (iA x.g),AV.ar 3 0 x.os.length,AV.ar 4 0 x.ls.length]),Obj.row 45 x.os,Obj.dead,Obj.box 66 (aq x.a),Obj.box 45 (AV.agg [AV.int
 x.q.rel,AV.ad 58 x.q.steps,AV.ad 56 x.q.out,AV.int x.q.delta]),Obj.dead,Obj.dead,Obj.box 39 (AV.ar 11 0 (ts.length+1)),Dn.Obj.loop (fR Tryz.prog 58 2
 LoopState.ready none (fK (bz 13) [(0,AV.ar 4 0 x.ls.length),(1,AV.bI 98 [AV.ptr 7 0 [] 0,AV.ptr 8 0 [] 0]),(2,AV.ptr 9 0 [] 0),(4,AV.nil),(6,AV.bI 98
 [AV.ptr 7 0 [] 0,AV.ptr 8 0 [] 0])])),Obj.row 45 (List.take ts.length ts++[AV.agg [AV.int t.rel,AV.ad 58 t.steps,AV.ad 56 t.out,AV.int t.delta]])])):=by kernel_rfl
theorem kBk(κ:Kp)(x:z8)(xs:List AV):(AV.cu 0::fM (ju (ct (mZ κ x) [.ptr 7 0 [] 0, .ptr 8 0 [] 0])) [.ptr 7 0 [] 0, .ptr 8 0 [] 0],Obj.ext (some xs)::fZ (ju (ct (mZ κ x) [.ptr 7 0 [] 0, .ptr 8 0 [] 0])) (gE (mZ κ x) (ct (mZ κ x) [.ptr 7 0 [] 0, .ptr 8 0 [] 0])))=([.cu 0, .ptr 1 0 [] 0, .ptr 2 0 [] 0],[.ext (some xs),NF x.q x.q.delta,QU x.g]):=by kernel_rfl
theorem YP(κ:Kp)(x:z8):mV (mZ κ x) [.ptr 7 0 [] 0, .ptr 8 0 [] 0]=true:=by kernel_rfl
noncomputable def A6(κ:Kp)(x:z8):List QD->List Dn.Obj
 |[]=>K5 κ x
 |e::l=>A7 κ x (x.ls++(e::l).map fun q=>qA q)
def zO(x:z8):List QD:=Ap x.q x.g x.q.steps 0
theorem yj(q:QD)(g:List Int): ∀(l:List AV) (i:Int),(Ap q g l i).length<=l.length
 |[],_=>Nat.le_refl _
 |s::l,i=>by
  have:=yj q g l (i+1)
  rw[Ap]
  cases(decide (toInt (ae s 0)=1)&&g.contains (toInt (ae s 2))) with
  |true=>rw[aa8];simp only[List.length_cons];omega
  |false=>rw[aa6];simp only[List.length_cons];omega
structure Ge(x:z8):Prop where
 hs:x.q.steps.length<=100000
 hg:x.g.length<=60
 hl:x.ls.length<=100000000
noncomputable def LI(κ:Kp)(x:z8):List AV×List Dn.Obj:=([.ptr 7 0 [] 0, .ptr 8 0 [] 0],mZ κ x)
noncomputable def TN(κ:Kp):dv:=fun caps st K=>∃x:z8,(caps,st)=LI κ x/\Ge x/\aD (zO x).isEmpty (K (K5 κ x)) (K (A7 κ x (x.ls++(zO x).map fun q=>qA q)))
theorem G9(κ:Kp):(TN κ).iT:=by
 rintro caps st K K' hK ⟨a,h1,h2,h3⟩
 exact⟨a,h1,h2,ah.2 ⟨fun e=>hK _ ((ah.1 h3).1 e),fun e=>hK _ ((ah.1 h3).2 e)⟩⟩
theorem Pb(κ:Kp)(args:List AV)(st:List Dn.Obj)(K:AV->List Dn.Obj->Prop)(h:aM Rr I9 N7 args st K):(PZ κ).E.call 98 args st K:=h
theorem Sf{n:Nat}(h:n<=200000000):decide ((n+1+1)*65<=70368744177664)=true:=by rw[aa1];omega
theorem gBk(κ:Kp):kP (PZ κ).E 12 98 (TN κ):=by
 rintro caps st K ⟨x,h1,hf,h5⟩
 obtain⟨rfl,rfl⟩:=Prod.mk.inj (show(caps,st)=([.ptr 7 0 [] 0, .ptr 8 0 [] 0],mZ κ x) from h1)
 have hl:=hf.hl
 have hs:=hf.hs
 have htl:(zO x).length<=x.q.steps.length:=yj x.q x.g x.q.steps 0
 refine⟨JD (zO x),fun items st'=>∃E1 E2,items=JD E2/\st'=A6 κ x E1/\E1++E2=zO x,⟨YP κ x,?_,?_,?_,?_⟩⟩
 ·refine Pb κ _ _ _ ⟨(x.q,x.g),?_,⟨hf.hs,hf.hg⟩,fun st' h=>h⟩
  rw[kBk];rfl
 ·rw[show(PZ κ).E.P=Pr κ from rfl,show(mZ κ x).length=11 from rfl,sBk]
  exact⟨[],zO x,rfl,rfl,rfl⟩
 ·rintro us rest st' ⟨E1,E2,e1,rfl,e3⟩
  cases E2 with
  |nil=>cases e1
  | cons t E2=>
   obtain⟨hu,rfl⟩:=List.cons.inj e1
   obtain rfl:=AV.ba.inj hu
   rw[show(PZ κ).E.P=Pr κ from rfl,show(mZ κ x).length=11 from rfl,show(11:Nat) - 1=10 from rfl]
   have hE:E1.length<=(zO x).length:=by rw[←e3];simp
   cases E1 with
   |nil=>
    refine Eq.mpr (Ze κ x t (fun st'=>∃F1 F2,JD E2=JD F2/\st'=A6 κ x F1/\F1++F2=zO x) K) ?_
    refine an.2 ⟨Sf (by omega),?_⟩
    rw[List.take_length]
    refine⟨[t],E2,rfl,?_,e3⟩
    simp only[A6,A7,ac1,ac2,ab9,List.length_singleton]
    rfl
   |cons e E1=>
    refine Eq.mpr (tBk κ x (x.ls++(e::E1).map fun q=>qA q) t (fun st'=>∃F1 F2,JD E2=JD F2/\st'=A6 κ x F1/\F1++F2=zO x) K) ?_
    refine an.2 ⟨Sf (by simp only[ab9,List.length_map];omega),?_⟩
    rw[List.take_length]
    refine⟨e::(E1++[t]),E2,rfl,?_,by rw[←e3];simp⟩
    have e5:x.ls++(e::(E1++[t])).map (fun q=>qA q)=(x.ls++(e::E1).map fun q=>qA q)++[qA t]:=by simp
    simp only[A6,A7]
    rw[e5,ab9 (bs:=[qA t])]
    rfl
 ·rintro st' ⟨E1,E2,e1,rfl,e3⟩
  obtain rfl:E2=[]:=by cases E2 with|nil=>rfl|cons _ _=>cases e1
  rw[List.append_nil] at e3
  rw[e3]
  cases ht:zO x with
  |nil=>rw[ht] at h5;exact h5
  |cons t l=>rw[ht] at h5;exact h5
noncomputable def O0(κ:Kp):EB:=(PZ κ).range 58 2 (G9 κ) (gBk κ) (fun f=>jM f (98::241::OV))
theorem xBk(κ:Kp)(ds rs:List AV)(g:List Int)(os ls:List AV)(i:Int)(I:Nat->S->Prop)(n:Nat)(K:Exit->S->Prop):(vc (O0 κ).E 12 28 none 0 (af (Pr κ).toProgram 28 3) (MB ds rs (iA g) os ls i) (bH (O0 κ).E 28 3 0 I n K))=(
 letI z1:=fR Tryz.prog 58 2 LoopState.ready none (fK (bz 13) [(0,AV.ar 4 0 ls.length),(1,AV.bI 98 [AV.ptr 7 0 [] 0,AV.ptr 8 0 [] 0]),(2,AV.ptr 9 0 [] 0),
  (4,AV.nil),(6,AV.bI 98 [AV.ptr 7 0 [] 0,AV.ptr 8 0 [] 0])])
 letI z3:=AV.agg [AV.nil,AV.nil,AV.nil]
 letI z4:=IntKind.wrap IntKind.i64 (i+(1:Int))
 letI z5:=AV.agg [AV.ad 3 (iA g),AV.ar 3 0 os.length,AV.ar 4 0 ls.length]
 letI z6:=AV.agg [AV.ad 61 ds,AV.ad 66 rs]
 letI z7:=nth rs i.toNat
 letI z2:=AV.agg [AV.agg [AV.str (toStr (ae (ae z7 0) 0)),AV.ad 56 (ai (ae (ae z7 0) 1))],AV.ad 72 (ai (ae z7 1)),AV.int (toInt (ae z7 2))]
 letI z9:=AV.ar 4 0 ls.length
 letI z10:=AV.ad 3 (iA g)
 letI z11:=i<(↑(rs.length):Int)
 aD (decide z11) (a7 (decide ((0:Int)<=i)&&decide z11) (∃(e5:List AV×ByteArray),([AV.ad 61 ds,AV.str (toStr (ae (ae z7 0) 0))],[])=AH e5/\gx e5/\
 a7 (decide (List.length (iA g)<=9223372036854775807)) (aD (!QL (bt e5.2 e5.1) (iA g)) (∃(e0:Nat),e0<n/\I e0 (sp 65 [(1,AV.ad 3 (iA g)),(2,AV.ptr 0 0
 [] 0),(4,AV.ptr 1 0 [] 0),(5,AV.ptr 2 0 [] 0),(17,AV.ad 66 rs),(18,AV.int (↑(rs.length):Int)),(19,AV.int z4)] [Obj.box 25 z6,Obj.box 41 z3,Obj.box
 41 z5,Obj.row 45 os,Obj.row 45 ls])) (∃(e4:Rn),([AV.agg [AV.ad 61 ds,AV.ad 66 rs],AV.int i],[])=JY e4/\Jv e4/\∃(e3:Ue),([AV.agg [AV.ad 61 ds,
 AV.ad 66 rs],AV.int i],[])=Sl e3/\JM e3/\aD (QO e3.ds e3.rs e3.k) (((∃(e2:z8),([AV.ptr 7 0 [] 0,AV.ptr 8 0 [] 0],[Obj.box 25 z6,Obj.box 41 z3,
 Obj.box 41 z5,Obj.row 45 os,Obj.row 45 ls,Obj.box 66 z2,Obj.box 45 (AV.agg [AV.int (QD.rel (dM e4.ds (eE (nth e4.rs e4.k.toNat)))),AV.ad 58 (QD.steps (dM
 e4.ds (eE (nth e4.rs e4.k.toNat)))),AV.ad 56 (QD.out (dM e4.ds (eE (nth e4.rs e4.k.toNat)))),AV.int (QD.delta (dM e4.ds (eE (nth e4.rs e4.k.toNat))))]),
 Obj.box 45 (AV.agg [AV.int (QD.rel (dM e4.ds (eE (nth e4.rs e4.k.toNat)))),AV.ad 58 (QD.steps (dM e4.ds (eE (nth e4.rs e4.k.toNat)))),AV.ad 56 (QD.out (dM
 e4.ds (eE (nth e4.rs e4.k.toNat)))),AV.int (QD.delta (dM e4.ds (eE (nth e4.rs e4.k.toNat))))]),Obj.box 38 z10,Obj.box 39 z9,Dn.Obj.loop z1])=LI κ e2/\Ge
 e2/\aD (List.isEmpty (zO e2)) (∃(e0:Nat),e0<n/\I e0 (sp 65 [(1,AV.ad 3 (iA g)),(2,AV.ptr 0 0 [] 0),(4,AV.ptr 1 0 [] 0),(5,AV.ptr 2 0 [] 0),(17,
 AV.ad 66 rs),(18,AV.int (↑(rs.length):Int)),(19,AV.int z4)] [Obj.box 25 (AV.agg [AV.ad 61 e2.ds,AV.ad 66 e2.rs]),Obj.box 41 z3,Obj.box 41 (AV.agg
 [AV.ad 3 (iA e2.g),AV.ar 3 0 e2.os.length,AV.ar 4 0 e2.ls.length]),Obj.row 45 e2.os,Obj.row 45 e2.ls])) (∃(e1:Nat),e1<n/\I e1 (sp 65 [(1,AV.ad 3 (iA
 g)),(2,AV.ptr 0 0 [] 0),(4,AV.ptr 1 0 [] 0),(5,AV.ptr 2 0 [] 0),(17,AV.ad 66 rs),(18,AV.int (↑(rs.length):Int)),(19,AV.int z4)] [Obj.box 25
 (AV.agg [AV.ad 61 e2.ds,AV.ad 66 e2.rs]),Obj.box 41 z3,Obj.box 41 (AV.agg [AV.ad 3 (iA e2.g),AV.ar 3 0 e2.os.length,AV.ar 4 0 (List.length (e2.ls++
 List.map (fun(e0:QD)=>AV.agg [AV.int e0.rel,AV.ad 58 e0.steps,AV.ad 56 e0.out,AV.int e0.delta]) (zO e2)))]),Obj.row 45 e2.os,Obj.row 45 (e2.ls++
 List.map (fun(e0:QD)=>AV.agg [AV.int e0.rel,AV.ad 58 e0.steps,AV.ad 56 e0.out,AV.int e0.delta]) (zO e2))])))/\∃(e2:z8),([AV.ptr 7 0 [] 0,AV.ptr 8
 0 [] 0],[Obj.box 25 z6,Obj.box 41 z3,Obj.box 41 z5,Obj.row 45 os,Obj.row 45 ls,Obj.box 66 z2,Obj.box 45 (AV.agg [AV.int (QD.rel (dM e4.ds (eE (nth e4.rs
 e4.k.toNat)))),AV.ad 58 (QD.steps (dM e4.ds (eE (nth e4.rs e4.k.toNat)))),AV.ad 56 (QD.out (dM e4.ds (eE (nth e4.rs e4.k.toNat)))),AV.int (QD.delta (dM e4.ds
 (eE (nth e4.rs e4.k.toNat))))]),Obj.box 45 (AV.agg [AV.int (QD.rel (dM e4.ds (eE (nth e4.rs e4.k.toNat)))),AV.ad 58 (QD.steps (dM e4.ds (eE (nth e4.rs
 e4.k.toNat)))),AV.ad 56 (QD.out (dM e4.ds (eE (nth e4.rs e4.k.toNat)))),AV.int (QD.delta (dM e4.ds (eE (nth e4.rs e4.k.toNat))))]),Obj.box 38 z10,Obj.box 39
 z9,Dn.Obj.loop z1])=LI κ e2/\Ge e2/\aD (List.isEmpty (zO e2)) (∃(e0:Nat),e0<n/\I e0 (sp 65 [(1,AV.ad 3 (iA g)),(2,AV.ptr 0 0 [] 0),(4,AV.ptr 1
 0 [] 0),(5,AV.ptr 2 0 [] 0),(17,AV.ad 66 rs),(18,AV.int (↑(rs.length):Int)),(19,AV.int z4)] [Obj.box 25 (AV.agg [AV.ad 61 e2.ds,AV.ad 66 e2.rs]),
 Obj.box 41 z3,Obj.box 41 (AV.agg [AV.ad 3 (iA e2.g),AV.ar 3 0 e2.os.length,AV.ar 4 0 e2.ls.length]),Obj.row 45 e2.os,Obj.row 45 e2.ls])) (∃(e1:Nat),e1
 <n/\I e1 (sp 65 [(1,AV.ad 3 (iA g)),(2,AV.ptr 0 0 [] 0),(4,AV.ptr 1 0 [] 0),(5,AV.ptr 2 0 [] 0),(17,AV.ad 66 rs),(18,AV.int (↑(rs.length):Int)),
 (19,AV.int z4)] [Obj.box 25 (AV.agg [AV.ad 61 e2.ds,AV.ad 66 e2.rs]),Obj.box 41 z3,Obj.box 41 (AV.agg [AV.ad 3 (iA e2.g),AV.ar 3 0 e2.os.length,AV.ar 4 0
 (List.length (e2.ls++List.map (fun(e0:QD)=>AV.agg [AV.int e0.rel,AV.ad 58 e0.steps,AV.ad 56 e0.out,AV.int e0.delta]) (zO e2)))]),Obj.row 45 e2.os,
 Obj.row 45 (e2.ls++List.map (fun(e0:QD)=>AV.agg [AV.int e0.rel,AV.ad 58 e0.steps,AV.ad 56 e0.out,AV.int e0.delta]) (zO e2))])))/\∃(e2:z8),
 ([AV.ptr 7 0 [] 0,AV.ptr 8 0 [] 0],[Obj.box 25 z6,Obj.box 41 z3,Obj.box 41 z5,Obj.row 45 os,Obj.row 45 ls,Obj.box 66 z2,Obj.box 45 (AV.agg [AV.int
 (QD.rel (dM e4.ds (eE (nth e4.rs e4.k.toNat)))),AV.ad 58 (QD.steps (dM e4.ds (eE (nth e4.rs e4.k.toNat)))),AV.ad 56 (QD.out (dM e4.ds (eE (nth e4.rs
 e4.k.toNat)))),AV.int (QD.delta (dM e4.ds (eE (nth e4.rs e4.k.toNat))))]),Obj.box 45 (AV.agg [AV.int (QD.rel (dM e4.ds (eE (nth e4.rs e4.k.toNat)))),AV.ad 58
 (QD.steps (dM e4.ds (eE (nth e4.rs e4.k.toNat)))),AV.ad 56 (QD.out (dM e4.ds (eE (nth e4.rs e4.k.toNat)))),AV.int (QD.delta (dM e4.ds (eE (nth e4.rs
 e4.k.toNat))))]),Obj.box 38 z10,Obj.box 39 z9,Dn.Obj.loop z1])=LI κ e2/\Ge e2/\aD (List.isEmpty (zO e2)) (∃(e0:Nat),e0<n/\I e0 (sp 65 [(1,AV.ad 3
 (iA g)),(2,AV.ptr 0 0 [] 0),(4,AV.ptr 1 0 [] 0),(5,AV.ptr 2 0 [] 0),(17,AV.ad 66 rs),(18,AV.int (↑(rs.length):Int)),(19,AV.int z4)] [Obj.box 25
 (AV.agg [AV.ad 61 e2.ds,AV.ad 66 e2.rs]),Obj.box 41 z3,Obj.box 41 (AV.agg [AV.ad 3 (iA e2.g),AV.ar 3 0 e2.os.length,AV.ar 4 0 e2.ls.length]),Obj.row 45
 e2.os,Obj.row 45 e2.ls])) (∃(e1:Nat),e1<n/\I e1 (sp 65 [(1,AV.ad 3 (iA g)),(2,AV.ptr 0 0 [] 0),(4,AV.ptr 1 0 [] 0),(5,AV.ptr 2 0 [] 0),(17,
 AV.ad 66 rs),(18,AV.int (↑(rs.length):Int)),(19,AV.int z4)] [Obj.box 25 (AV.agg [AV.ad 61 e2.ds,AV.ad 66 e2.rs]),Obj.box 41 z3,Obj.box 41 (AV.agg
 [AV.ad 3 (iA e2.g),AV.ar 3 0 e2.os.length,AV.ar 4 0 (List.length (e2.ls++List.map (fun(e0:QD)=>AV.agg [AV.int e0.rel,AV.ad 58 e0.steps,AV.ad 56
 e0.out,AV.int e0.delta]) (zO e2)))]),Obj.row 45 e2.os,Obj.row 45 (e2.ls++List.map (fun(e0:QD)=>AV.agg [AV.int e0.rel,AV.ad 58 e0.steps,AV.ad 56
 e0.out,AV.int e0.delta]) (zO e2))]))) (a7 (decide ((os.length+1+1)*65<=70368744177664)) (∃(e0:Nat),e0<n/\I e0 (sp 65 [(1,AV.ad 3 (iA g)),(2,
 AV.ptr 0 0 [] 0),(4,AV.ptr 1 0 [] 0),(5,AV.ptr 2 0 [] 0),(17,AV.ad 66 rs),(18,AV.int (↑(rs.length):Int)),(19,AV.int z4)] [Obj.box 25 z6,Obj.box 41
 z3,Obj.box 41 (AV.agg [AV.ad 3 (iA g),AV.ar 3 0 (os.length+1),AV.ar 4 0 ls.length]),Obj.row 45 (List.take os.length os++[AV.agg [AV.int (QD.rel (dM
 e4.ds (eE (nth e4.rs e4.k.toNat)))),AV.ad 58 (QD.steps (dM e4.ds (eE (nth e4.rs e4.k.toNat)))),AV.ad 56 (QD.out (dM e4.ds (eE (nth e4.rs e4.k.toNat)))),
 AV.int (QD.delta (dM e4.ds (eE (nth e4.rs e4.k.toNat))))]]),Obj.row 45 ls]))))))) (K (Exit.exit 0) (sp 65 [(4,AV.ptr 0 0 [] 0),(5,AV.ptr 1 0 [] 0)] [Obj.box
 41 z3,Obj.box 41 (AV.agg [AV.ad 3 (iA g),AV.ar 2 0 os.length,AV.ar 3 0 ls.length]),Obj.row 45 os,Obj.row 45 ls]))):=by kernel_rfl
end Go.Proofs.YthaiinlfnommnaaGreatDoor
