import Derived.Test.YthaiinlfnommnaaGreatDoorDbM4
import Derived.Test.YthaiinlfnommnaaGreatDoorDbM1
namespace Go.Proofs.YthaiinlfnommnaaGreatDoor
open Go Go.Dn Go.Rl Go.Proofs
attribute [local irreducible] a9 vc
set_option maxRecDepth 20000
noncomputable abbrev ZG(a:cg)(ws:List AV)(κ:Kp)(st:LoopState)(p:Option Code):Dn.Obj:=
 .loop (fR (Pr κ).toProgram 74 5 st p (fK (bz 63) [(0,aq a),(1, .ptr 0 0 [] 0),(2, .ptr 1 0 [] 0),(3, .ptr 2 0 [] 0),(4, .ar 3 0 ws.length),(5, .int 0),(10, .ba [.ar 3 0 ws.length, .int 0]),(11,aq a),(12, .ba [.ar 3 0 ws.length, .int 0]),(13, .ar 3 0 ws.length),(14, .int 0),(15, .int 0),(16, .bool false),(18,aq a),(19, .bI 186 [.ptr 4 0 [] 0])]))
noncomputable abbrev Dz(κ:Kp)(a:cg)(ws:List AV)(b:Bool)(st:LoopState)(p:Option Code):List Dn.Obj:=[.box 66 (aq a), .box 4 (.bool b), .box 29 (.int 0), .row 3 ws, .box 66 (aq a),ZG a ws κ st p]
theorem x8(κ:Kp)(a:cg)(ws:List AV)(es:List (Value×AV))(done:List AV)(i:Int)(I:Nat->S->Prop)(n:Nat)(K:Exit->S->Prop):(vc (Lz κ) 12 186 none 6 (af (Pr κ).toProgram 186 3) (sp 38 [(0, .cu 5),(1, .ptr 4 0 [] 0),(3, .mp 6),(4, .ar 7 0 done.length),(13, .int a.bl.length),(14, .int i)] (Dz κ a ws false .ready none++[.map 9 4 es, .row 4 done])) (bH (Lz κ) 186 3 6 I n K))=(
 letI z1:=fK (bz 63) [(0,aq a),(1,AV.ptr 0 0 [] 0),(2,AV.ptr 1 0 [] 0),(3,AV.ptr 2 0 [] 0),(4,AV.ar 3 0 ws.length),(5,AV.int 0),(10,AV.ba [AV.ar 3
  0 ws.length,AV.int 0]),(11,aq a),(12,AV.ba [AV.ar 3 0 ws.length,AV.int 0]),(13,AV.ar 3 0 ws.length),(14,AV.int 0),(15,AV.int 0),(16,AV.bool
  false),(18,aq a),(19,AV.bI 186 [AV.ptr 4 0 [] 0])]
 letI z3:=fR Tryz.prog 74 5 LoopState.ready none z1
 letI z4:=IntKind.wrap IntKind.i64 (i+(1:Int))
 letI z6:=a.bl.length
 letI z7:=AV.bool false
 letI z5:=sp 38 [] [Obj.box 66 (aq a),Obj.box 4 z7,Obj.box 29 (AV.int 0),Obj.row 3 ws,Obj.box 66 (aq a),Dn.Obj.loop z3]
 letI z8:=AV.bool true
 letI z2:=K Exit.ret (sp 38 [] [Obj.box 66 (aq a),Obj.box 4 z8,Obj.box 29 (AV.int 0),Obj.row 3 ws,Obj.box 66 (aq a),Dn.Obj.loop (fR Tryz.prog 74 5
  LoopState.done (some Code.ret) z1)])
 letI z9:=done.length
 letI z10:=Value×AV
 aD (decide (i<(↑z6:Int))) (∃(e5:H5),([aq a,AV.ar 0 0 done.length,AV.mp 1],[Obj.row 4 done,Dn.Obj.map 9 4 es])=([aq e5.a,AV.ar 0 0 (List.length
 (bV e5.done)),AV.mp 1],[Obj.row 4 (bV e5.done),Dn.Obj.map 9 4 (bM e5.b)])/\(aK (aG e5.a)=true/\(aX (aa (bc 56 e5.a.hl e5.a.bl))<=100000/\List.length
 e5.a.bl<=100000)/\e5.done.length=List.length e5.a.bl)/\aD (decide (aE (aG e5.a) e5.done e5.b<(0:Int))) (K Exit.ret z5) (a7 (decide ((0:Int)<=aE (aG
 e5.a) e5.done e5.b)&&decide (aE (aG e5.a) e5.done e5.b<(↑z6:Int))) (aD (toInt (ae (nth a.bl (Int.toNat (aE (aG e5.a) e5.done e5.b))) 0)==(3:Int)) (∃
 (e4:TA),([AV.mp 0,AV.agg [AV.int (toInt (ae (ae (nth a.bl (Int.toNat (aE (aG e5.a) e5.done e5.b))) 2) 0)),AV.str (toStr (ae (ae (nth a.bl (Int.toNat (aE
 (aG e5.a) e5.done e5.b))) 2) 1)),AV.int (toInt (ae (ae (nth a.bl (Int.toNat (aE (aG e5.a) e5.done e5.b))) 2) 2)),AV.ad 56 (ai (ae (ae (nth a.bl (Int.toNat (aE
 (aG e5.a) e5.done e5.b))) 2) 3))],AV.agg [AV.int (toInt (ae (ae (nth a.bl (Int.toNat (aE (aG e5.a) e5.done e5.b))) 3) 0)),AV.str (toStr (ae (ae (nth a.bl
 (Int.toNat (aE (aG e5.a) e5.done e5.b))) 3) 1)),AV.int (toInt (ae (ae (nth a.bl (Int.toNat (aE (aG e5.a) e5.done e5.b))) 3) 2)),AV.ad 56 (ai (ae (ae (nth a.bl
 (Int.toNat (aE (aG e5.a) e5.done e5.b))) 3) 3))]],[Dn.Obj.map 9 4 (bM e5.b)])=([AV.mp 0,AV.agg [AV.int e4.o1,AV.str e4.s1,AV.int e4.n1,AV.ad 56 e4.l1],
 AV.agg [AV.int e4.o2,AV.str e4.s2,AV.int e4.n2,AV.ad 56 e4.l2]],[Dn.Obj.map 9 4 e4.es])/\iB e4/\aD (lz e4.es (TA.x e4) (TA.y e4)) (aD (decide (toInt (ae
 (ae (nth a.bl (Int.toNat (aE (aG e5.a) e5.done e5.b))) 3) 0)>=(5:Int))) z2 (∃(e3:TA),([AV.mp 0,AV.agg [AV.int (toInt (ae (ae (nth a.bl (Int.toNat (aE
 (aG e5.a) e5.done e5.b))) 3) 0)),AV.str (toStr (ae (ae (nth a.bl (Int.toNat (aE (aG e5.a) e5.done e5.b))) 3) 1)),AV.int (toInt (ae (ae (nth a.bl (Int.toNat
 (aE (aG e5.a) e5.done e5.b))) 3) 2)),AV.ad 56 (ai (ae (ae (nth a.bl (Int.toNat (aE (aG e5.a) e5.done e5.b))) 3) 3))],AV.agg [AV.int (toInt (ae (ae (nth a.bl
 (Int.toNat (aE (aG e5.a) e5.done e5.b))) 2) 0)),AV.str (toStr (ae (ae (nth a.bl (Int.toNat (aE (aG e5.a) e5.done e5.b))) 2) 1)),AV.int (toInt (ae (ae (nth
 a.bl (Int.toNat (aE (aG e5.a) e5.done e5.b))) 2) 2)),AV.ad 56 (ai (ae (ae (nth a.bl (Int.toNat (aE (aG e5.a) e5.done e5.b))) 2) 3))]],[Dn.Obj.map 9 4 e4.es])
 =([AV.mp 0,AV.agg [AV.int e3.o1,AV.str e3.s1,AV.int e3.n1,AV.ad 56 e3.l1],AV.agg [AV.int e3.o2,AV.str e3.s2,AV.int e3.n2,AV.ad 56 e3.l2]],[Dn.Obj.map
 9 4 e3.es])/\iB e3/\aD (lz e3.es (TA.x e3) (TA.y e3)) (aD (decide (toInt (ae (ae (nth a.bl (Int.toNat (aE (aG e5.a) e5.done e5.b))) 2) 0)>=(5:Int))) z2 (aD
 (decide ((7:Int)<=toInt (ae (nth a.bl (Int.toNat (aE (aG e5.a) e5.done e5.b))) 0))) z2 (a7 (decide ((0:Int)<=aE (aG e5.a) e5.done e5.b)&&decide (aE (aG
 e5.a) e5.done e5.b<(↑z9:Int))) (∃(e2:cg×Int),([aq a,AV.int (aE (aG e5.a) e5.done e5.b)],aI)=([aq e2.1,AV.int e2.2],aI)/\(aK (aG e2.1)=true/\
 (aX (aa (bc 56 e2.1.hl e2.1.bl))<=100000/\e2.1.bl.length<=100000)/\(0:Int)<=e2.2/\e2.2<(↑(e2.1.bl.length):Int))/\∃(e1:List AV×List z10),
 ([AV.mp 0,AV.ad 9 (strs (cL (aG e2.1) e2.2.toNat))],[Dn.Obj.map 9 4 e3.es])=([AV.mp 0,AV.ad 9 e1.1],[Dn.Obj.map 9 4 e1.2])/\bj e1/\∃(e0:Nat),e0<n
 /\I e0 (sp 38 [(0,AV.cu 5),(1,AV.ptr 4 0 [] 0),(3,AV.mp 6),(4,AV.ar 7 0 done.length),(13,AV.int (↑z6:Int)),(14,AV.int z4)] [Obj.box 66 (aq a),
 Obj.box 4 z7,Obj.box 29 (AV.int 0),Obj.row 3 ws,Obj.box 66 (aq a),Dn.Obj.loop z3,Dn.Obj.map 9 4 (fm e1.2 e1.1),Obj.row 4 (b8 (bV e5.done) (0+Int.toNat
 (aE (aG e5.a) e5.done e5.b)) z8)]))))) (aD (decide ((7:Int)<=toInt (ae (nth a.bl (Int.toNat (aE (aG e5.a) e5.done e5.b))) 0))) z2 (a7 (decide ((0:Int)<=aE
 (aG e5.a) e5.done e5.b)&&decide (aE (aG e5.a) e5.done e5.b<(↑z9:Int))) (∃(e2:cg×Int),([aq a,AV.int (aE (aG e5.a) e5.done e5.b)],aI)=([aq e2.1,
 AV.int e2.2],aI)/\(aK (aG e2.1)=true/\(aX (aa (bc 56 e2.1.hl e2.1.bl))<=100000/\e2.1.bl.length<=100000)/\(0:Int)<=e2.2/\e2.2<(↑(e2.1.bl.length):
 Int))/\∃(e1:List AV×List z10),([AV.mp 0,AV.ad 9 (strs (cL (aG e2.1) e2.2.toNat))],[Dn.Obj.map 9 4 e3.es])=([AV.mp 0,AV.ad 9 e1.1],[Dn.Obj.map 9 4
 e1.2])/\bj e1/\∃(e0:Nat),e0<n/\I e0 (sp 38 [(0,AV.cu 5),(1,AV.ptr 4 0 [] 0),(3,AV.mp 6),(4,AV.ar 7 0 done.length),(13,AV.int (↑z6:Int)),
 (14,AV.int z4)] [Obj.box 66 (aq a),Obj.box 4 z7,Obj.box 29 (AV.int 0),Obj.row 3 ws,Obj.box 66 (aq a),Dn.Obj.loop z3,Dn.Obj.map 9 4 (fm e1.2 e1.1),
 Obj.row 4 (b8 (bV e5.done) (0+Int.toNat (aE (aG e5.a) e5.done e5.b)) z8)])))))) (∃(e3:TA),([AV.mp 0,AV.agg [AV.int (toInt (ae (ae (nth a.bl (Int.toNat
 (aE (aG e5.a) e5.done e5.b))) 3) 0)),AV.str (toStr (ae (ae (nth a.bl (Int.toNat (aE (aG e5.a) e5.done e5.b))) 3) 1)),AV.int (toInt (ae (ae (nth a.bl
 (Int.toNat (aE (aG e5.a) e5.done e5.b))) 3) 2)),AV.ad 56 (ai (ae (ae (nth a.bl (Int.toNat (aE (aG e5.a) e5.done e5.b))) 3) 3))],AV.agg [AV.int (toInt (ae (ae
 (nth a.bl (Int.toNat (aE (aG e5.a) e5.done e5.b))) 2) 0)),AV.str (toStr (ae (ae (nth a.bl (Int.toNat (aE (aG e5.a) e5.done e5.b))) 2) 1)),AV.int (toInt (ae
 (ae (nth a.bl (Int.toNat (aE (aG e5.a) e5.done e5.b))) 2) 2)),AV.ad 56 (ai (ae (ae (nth a.bl (Int.toNat (aE (aG e5.a) e5.done e5.b))) 2) 3))]],[Dn.Obj.map 9 4
 e4.es])=([AV.mp 0,AV.agg [AV.int e3.o1,AV.str e3.s1,AV.int e3.n1,AV.ad 56 e3.l1],AV.agg [AV.int e3.o2,AV.str e3.s2,AV.int e3.n2,AV.ad 56 e3.l2]],
 [Dn.Obj.map 9 4 e3.es])/\iB e3/\aD (lz e3.es (TA.x e3) (TA.y e3)) (aD (decide (toInt (ae (ae (nth a.bl (Int.toNat (aE (aG e5.a) e5.done e5.b))) 2) 0)>=(5:
 Int))) z2 (aD (decide ((7:Int)<=toInt (ae (nth a.bl (Int.toNat (aE (aG e5.a) e5.done e5.b))) 0))) z2 (a7 (decide ((0:Int)<=aE (aG e5.a) e5.done e5.b)&&
 decide (aE (aG e5.a) e5.done e5.b<(↑z9:Int))) (∃(e2:cg×Int),([aq a,AV.int (aE (aG e5.a) e5.done e5.b)],aI)=([aq e2.1,AV.int e2.2],aI)/\(aK (aG
 e2.1)=true/\(aX (aa (bc 56 e2.1.hl e2.1.bl))<=100000/\e2.1.bl.length<=100000)/\(0:Int)<=e2.2/\e2.2<(↑(e2.1.bl.length):Int))/\∃(e1:List AV×
 List z10),([AV.mp 0,AV.ad 9 (strs (cL (aG e2.1) e2.2.toNat))],[Dn.Obj.map 9 4 e3.es])=([AV.mp 0,AV.ad 9 e1.1],[Dn.Obj.map 9 4 e1.2])/\bj e1/\∃(e0:
 Nat),e0<n/\I e0 (sp 38 [(0,AV.cu 5),(1,AV.ptr 4 0 [] 0),(3,AV.mp 6),(4,AV.ar 7 0 done.length),(13,AV.int (↑z6:Int)),(14,AV.int z4)] [Obj.box 66
 (aq a),Obj.box 4 z7,Obj.box 29 (AV.int 0),Obj.row 3 ws,Obj.box 66 (aq a),Dn.Obj.loop z3,Dn.Obj.map 9 4 (fm e1.2 e1.1),Obj.row 4 (b8 (bV e5.done) (0+
 Int.toNat (aE (aG e5.a) e5.done e5.b)) z8)]))))) (aD (decide ((7:Int)<=toInt (ae (nth a.bl (Int.toNat (aE (aG e5.a) e5.done e5.b))) 0))) z2 (a7 (decide ((0:
 Int)<=aE (aG e5.a) e5.done e5.b)&&decide (aE (aG e5.a) e5.done e5.b<(↑z9:Int))) (∃(e2:cg×Int),([aq a,AV.int (aE (aG e5.a) e5.done e5.b)],aI)=
 ([aq e2.1,AV.int e2.2],aI)/\(aK (aG e2.1)=true/\(aX (aa (bc 56 e2.1.hl e2.1.bl))<=100000/\e2.1.bl.length<=100000)/\(0:Int)<=e2.2/\e2.2<
 (↑(e2.1.bl.length):Int))/\∃(e1:List AV×List z10),([AV.mp 0,AV.ad 9 (strs (cL (aG e2.1) e2.2.toNat))],[Dn.Obj.map 9 4 e3.es])=([AV.mp 0,AV.ad 9
 e1.1],[Dn.Obj.map 9 4 e1.2])/\bj e1/\∃(e0:Nat),e0<n/\I e0 (sp 38 [(0,AV.cu 5),(1,AV.ptr 4 0 [] 0),(3,AV.mp 6),(4,AV.ar 7 0 done.length),(13,
 AV.int (↑z6:Int)),(14,AV.int z4)] [Obj.box 66 (aq a),Obj.box 4 z7,Obj.box 29 (AV.int 0),Obj.row 3 ws,Obj.box 66 (aq a),Dn.Obj.loop z3,Dn.Obj.map 9 4
 (fm e1.2 e1.1),Obj.row 4 (b8 (bV e5.done) (0+Int.toNat (aE (aG e5.a) e5.done e5.b)) z8)])))))) (aD (decide ((7:Int)<=toInt (ae (nth a.bl (Int.toNat (aE
 (aG e5.a) e5.done e5.b))) 0))) z2 (a7 (decide ((0:Int)<=aE (aG e5.a) e5.done e5.b)&&decide (aE (aG e5.a) e5.done e5.b<(↑z9:Int))) (∃(e2:cg×Int),
 ([aq a,AV.int (aE (aG e5.a) e5.done e5.b)],aI)=([aq e2.1,AV.int e2.2],aI)/\(aK (aG e2.1)=true/\(aX (aa (bc 56 e2.1.hl e2.1.bl))<=100000/\
 e2.1.bl.length<=100000)/\(0:Int)<=e2.2/\e2.2<(↑(e2.1.bl.length):Int))/\∃(e1:List AV×List z10),([AV.mp 0,AV.ad 9 (strs (cL (aG e2.1)
 e2.2.toNat))],[Dn.Obj.map 9 4 (bM e5.b)])=([AV.mp 0,AV.ad 9 e1.1],[Dn.Obj.map 9 4 e1.2])/\bj e1/\∃(e0:Nat),e0<n/\I e0 (sp 38 [(0,AV.cu 5),(1,
 AV.ptr 4 0 [] 0),(3,AV.mp 6),(4,AV.ar 7 0 done.length),(13,AV.int (↑z6:Int)),(14,AV.int z4)] [Obj.box 66 (aq a),Obj.box 4 z7,Obj.box 29 (AV.int 0),
 Obj.row 3 ws,Obj.box 66 (aq a),Dn.Obj.loop z3,Dn.Obj.map 9 4 (fm e1.2 e1.1),Obj.row 4 (b8 (bV e5.done) (0+Int.toNat (aE (aG e5.a) e5.done e5.b))
 z8)]))))))) (K (Exit.exit 0) z5)):=by kernel_rfl
structure A8 where
 a:cg
 ws:List AV
 done:List Bool
 b:List ByteArray
 i:Int
noncomputable abbrev LU(κ:Kp)(a:A8):S:=sp 38 [(0, .cu 5),(1, .ptr 4 0 [] 0),(3, .mp 6),(4, .ar 7 0 (bV a.done).length),(13, .int a.a.bl.length),(14, .int a.i)] (Dz κ a.a a.ws false .ready none++[.map 9 4 (bM a.b), .row 4 (bV a.done)])
def Dl(a:A8):Prop:=aK (aG a.a)=true/\cV a.a/\0<=a.i/\a.i<=a.a.bl.length/\a.done.length=a.a.bl.length
noncomputable def H0(a:A8):Bool:=I1 (aG a.a) (a.a.bl.length - a.i.toNat) a.done a.b
noncomputable def BT(κ:Kp)(a:A8):Out (Exit×S):= .aD (H0 a) (.one (.ret,sp 38 [] (Dz κ a.a a.ws true .done (some .ret)))) (.all (fun _:Bool=>True) fun e=> .aD e (.one (.ret,sp 38 [] (Dz κ a.a a.ws false .ready none))) (.one (.exit 0,sp 38 [] (Dz κ a.a a.ws false .ready none))))
theorem Gz(r:Rl)(n:Nat)(done:List Bool)(b:List ByteArray):I1 r (n+1) done b=
  bif decide (aE r done b<0) then false else GP r b (aE r done b).toNat||I1 r n (done.set (aE r done b).toNat true) (b++cL r (aE r done b).toNat):=rfl
theorem l8(κ:Kp):bh (Lz κ) 12 186 3 (aP 6 (LU κ) Dl (BT κ)):=by
 refine aL (fun a=>a.a.bl.length - a.i.toNat) ?_
 rintro⟨a,ws,done,b,i⟩ K ⟨h1,h2,h3,h4,h5⟩ ho
 simp only at h1 h2 h3 h4 h5
 rw[show(Lz κ).P=Pr κ from rfl]
 refine Eq.mpr (x8 κ a ws (bM b) (bV done) i _ _ K) ?_
 simp only[BT,Out.run,ah,H0] at ho
 simp only[and_self]
 have hbl:=jd done
 have hl:=h2.2
 rw[ah,aa1,aa3]
 refine⟨fun hi=>⟨⟨a,done,b,0,0⟩,rfl,⟨h1,h2,h5⟩,?_⟩,fun hi=>?_⟩
 ·have hw:=Gz (aG a) (a.bl.length - (i.toNat+1)) done b
  rw[show a.bl.length - (i.toNat+1)+1=a.bl.length - i.toNat by omega] at hw
  rw[ah,aa1,aa3]
  refine⟨fun e=>?_,fun e=>?_⟩
  ·rw[hw,aa7 e] at ho
   exact(ho.2 rfl true trivial).1 rfl
  ·rw[hw,aa5 e,aa6] at ho
   rcases pq (aG a) done b with e0|⟨e1,e2,e3,_⟩
   ·rw[e0] at e;omega
   have e2':=e2
   rw[gl] at e2'
   have hg:=rE h2 e2'
   have hlit:=kJ h2 e2'
   have e2i:aE (aG a) done b<a.bl.length:=by omega
   have hsd:bj (strs (cL (aG a) (aE (aG a) done b).toNat),bM b):=by simp only[bj,aU,aR];omega
   have hbnd:(decide (0<=aE (aG a) done b)&&decide (aE (aG a) done b<(a.bl.length:Int)))=true:=by simp[e1,e2i]
   have hbnd2:(decide (0<=aE (aG a) done b)&&decide (aE (aG a) done b<((bV done).length:Int)))=true:=by rw[hbl,h5];exact hbnd
   have hlc:iJ (cE (nth a.bl (aE (aG a) done b).toNat))=aX [cM (ae (nth a.bl (aE (aG a) done b).toNat) 2),cM (ae (nth a.bl (aE (aG a) done b).toNat) 3)]+aX (aa (ai (ae (ae (nth a.bl (aE (aG a) done b).toNat) 1) 1))):=rfl
   have hcx:aX [cM (ae (nth a.bl (aE (aG a) done b).toNat) 2)]<=100000/\aX [cM (ae (nth a.bl (aE (aG a) done b).toNat) 3)]<=100000:=by
    simp only[aX] at hlc⊢;omega
   have hx1:iB (lq (ae (nth a.bl (aE (aG a) done b).toNat) 2) (ae (nth a.bl (aE (aG a) done b).toNat) 3) (bM b)):=by unfold iB lq;rw[mX];exact hcx.2
   have hx2:iB (lq (ae (nth a.bl (aE (aG a) done b).toNat) 3) (ae (nth a.bl (aE (aG a) done b).toNat) 2) (bM b)):=by unfold iB lq;rw[mX];exact hcx.1
   have ta1:lz (lq (ae (nth a.bl (aE (aG a) done b).toNat) 2) (ae (nth a.bl (aE (aG a) done b).toNat) 3) (bM b)).es (lq (ae (nth a.bl (aE (aG a) done b).toNat) 2) (ae (nth a.bl (aE (aG a) done b).toNat) 3) (bM b)).x (lq (ae (nth a.bl (aE (aG a) done b).toNat) 2) (ae (nth a.bl (aE (aG a) done b).toNat) 3) (bM b)).y=lr b (cM (ae (nth a.bl (aE (aG a) done b).toNat) 2)) (cM (ae (nth a.bl (aE (aG a) done b).toNat) 3)):=by
    unfold lq;rw[ym,mX,od]
   have ta2:lz (lq (ae (nth a.bl (aE (aG a) done b).toNat) 3) (ae (nth a.bl (aE (aG a) done b).toNat) 2) (bM b)).es (lq (ae (nth a.bl (aE (aG a) done b).toNat) 3) (ae (nth a.bl (aE (aG a) done b).toNat) 2) (bM b)).x (lq (ae (nth a.bl (aE (aG a) done b).toNat) 3) (ae (nth a.bl (aE (aG a) done b).toNat) 2) (bM b)).y=lr b (cM (ae (nth a.bl (aE (aG a) done b).toNat) 3)) (cM (ae (nth a.bl (aE (aG a) done b).toNat) 2)):=by
    unfold lq;rw[ym,mX,od]
   have hinv:GP (aG a) b (aE (aG a) done b).toNat=((decide (toInt (ae (nth a.bl (aE (aG a) done b).toNat) 0)=3)&&(lr b (cM (ae (nth a.bl (aE (aG a) done b).toNat) 2)) (cM (ae (nth a.bl (aE (aG a) done b).toNat) 3))&&decide (toInt (ae (ae (nth a.bl (aE (aG a) done b).toNat) 3) 0)>=5)||lr b (cM (ae (nth a.bl (aE (aG a) done b).toNat) 3)) (cM (ae (nth a.bl (aE (aG a) done b).toNat) 2))&&decide (toInt (ae (ae (nth a.bl (aE (aG a) done b).toNat) 2) 0)>=5)))||decide (7<=toInt (ae (nth a.bl (aE (aG a) done b).toNat) 0))):=by
    have o1:(cM (ae (nth a.bl (aE (aG a) done b).toNat) 2)).op=toInt (ae (ae (nth a.bl (aE (aG a) done b).toNat) 2) 0):=by rw[da];rfl
    have o2:(cM (ae (nth a.bl (aE (aG a) done b).toNat) 3)).op=toInt (ae (ae (nth a.bl (aE (aG a) done b).toNat) 3) 0):=by rw[da];rfl
    unfold GP
    rw[show(aG a).body=c6 a.bl from rfl,j8 _ e2',show(cE (nth a.bl (aE (aG a) done b).toNat)).op=toInt (ae (nth a.bl (aE (aG a) done b).toNat) 0) from rfl,show(cE (nth a.bl (aE (aG a) done b).toNat)).x=cM (ae (nth a.bl (aE (aG a) done b).toNat) 2) from rfl,show(cE (nth a.bl (aE (aG a) done b).toNat)).y=cM (ae (nth a.bl (aE (aG a) done b).toNat) 3) from rfl,o1,o2]
   have h3t:(toInt (ae (nth a.bl (aE (aG a) done b).toNat) 0)==3)=true->decide (toInt (ae (nth a.bl (aE (aG a) done b).toNat) 0)=3)=true:=fun e=>by simpa using e
   have h3f:(toInt (ae (nth a.bl (aE (aG a) done b).toNat) 0)==3)=false->decide (toInt (ae (nth a.bl (aE (aG a) done b).toNat) 0)=3)=false:=fun e=>by simpa using e
   have ho1:GP (aG a) b (aE (aG a) done b).toNat=true->K .ret (sp 38 [] (Dz κ a ws true .done (some .ret))):=fun e=>ho.1 (by rw[e];rfl)
   have nx:GP (aG a) b (aE (aG a) done b).toNat=false->∃m,m<a.bl.length - i.toNat/\fe (LU κ) Dl (BT κ) (fun a=>a.a.bl.length - a.i.toNat) K m (sp 38 [(0, .cu 5),(1, .ptr 4 0 [] 0),(3, .mp 6),(4, .ar 7 0 (bV done).length),(13, .int a.bl.length),(14, .int (IntKind.wrap .i64 (i+1)))] (Dz κ a ws false .ready none++[.map 9 4 (fm (bM b) (strs (cL (aG a) (aE (aG a) done b).toNat))), .row 4 (b8 (bV done) (0+(aE (aG a) done b).toNat) (.lit (.bool true)))])):=by
    intro e
    rw[e,Bool.false_or] at ho
    rw[aW (n:=i+1) (by omega) (by omega)]
    refine⟨_,?_,⟨a,ws,done.set (aE (aG a) done b).toNat true,b++cL (aG a) (aE (aG a) done b).toNat,i+1⟩,?_,⟨h1,h2,by simp only;omega,by simp only;omega,by simpa using h5⟩,rfl,?_⟩
    ·simp only;omega
    ·simp only[LU,Nat.zero_add,pj,lH,jd,List.length_set]
    ·simp only[BT,Out.run,ah,H0,show(i+1).toNat=i.toNat+1 by omega]
     exact ho
   rw[an]
   refine⟨hbnd,?_⟩
   rw[ah]
   exact⟨fun f3=>⟨lq (ae (nth a.bl (aE (aG a) done b).toNat) 2) (ae (nth a.bl (aE (aG a) done b).toNat) 3) (bM b),rfl,hx1,by
   rw[ta1]
   exact ah.2 ⟨fun g1=>ah.2 ⟨fun g4=>ho1 (by rw[hinv,h3t f3,g1,g4];simp),fun g4=>⟨lq (ae (nth a.bl (aE (aG a) done b).toNat) 3) (ae (nth a.bl (aE (aG a) done b).toNat) 2) (bM b),rfl,hx2,by
   rw[ta2]
   exact ah.2 ⟨fun g2=>ah.2 ⟨fun g3=>ho1 (by rw[hinv,h3t f3,g1,g4,g2,g3];simp),fun g3=>ah.2 ⟨fun f7=>ho1 (by rw[hinv,h3t f3,g1,g4,g2,g3,f7];simp),fun f7=>an.2 ⟨hbnd2,(a,(aE (aG a) done b)),rfl,⟨h1,h2,e1,e2i⟩,(strs (cL (aG a) (aE (aG a) done b).toNat),bM b),rfl,hsd,nx (by rw[hinv,h3t f3,g1,g4,g2,g3,f7];simp)⟩⟩⟩,fun g2=>ah.2 ⟨fun f7=>ho1 (by rw[hinv,h3t f3,g1,g4,g2,f7];simp),fun f7=>an.2 ⟨hbnd2,(a,(aE (aG a) done b)),rfl,⟨h1,h2,e1,e2i⟩,(strs (cL (aG a) (aE (aG a) done b).toNat),bM b),rfl,hsd,nx (by rw[hinv,h3t f3,g1,g4,g2,f7];simp)⟩⟩⟩⟩⟩,fun g1=>⟨lq (ae (nth a.bl (aE (aG a) done b).toNat) 3) (ae (nth a.bl (aE (aG a) done b).toNat) 2) (bM b),rfl,hx2,by
   rw[ta2]
   exact ah.2 ⟨fun g2=>ah.2 ⟨fun g3=>ho1 (by rw[hinv,h3t f3,g1,g2,g3];simp),fun g3=>ah.2 ⟨fun f7=>ho1 (by rw[hinv,h3t f3,g1,g2,g3,f7];simp),fun f7=>an.2 ⟨hbnd2,(a,(aE (aG a) done b)),rfl,⟨h1,h2,e1,e2i⟩,(strs (cL (aG a) (aE (aG a) done b).toNat),bM b),rfl,hsd,nx (by rw[hinv,h3t f3,g1,g2,g3,f7];simp)⟩⟩⟩,fun g2=>ah.2 ⟨fun f7=>ho1 (by rw[hinv,h3t f3,g1,g2,f7];simp),fun f7=>an.2 ⟨hbnd2,(a,(aE (aG a) done b)),rfl,⟨h1,h2,e1,e2i⟩,(strs (cL (aG a) (aE (aG a) done b).toNat),bM b),rfl,hsd,nx (by rw[hinv,h3t f3,g1,g2,f7];simp)⟩⟩⟩⟩⟩⟩,fun f3=>ah.2 ⟨fun f7=>ho1 (by rw[hinv,h3f f3,f7];simp),fun f7=>an.2 ⟨hbnd2,(a,(aE (aG a) done b)),rfl,⟨h1,h2,e1,e2i⟩,(strs (cL (aG a) (aE (aG a) done b).toNat),bM b),rfl,hsd,nx (by rw[hinv,h3f f3,f7];simp)⟩⟩⟩
 ·rw[show a.bl.length - i.toNat=0 by omega] at ho
  exact(ho.2 rfl false trivial).2 rfl
noncomputable def Tu(κ:Kp):Env:=(Lz κ).ak 186 3 (aP 6 (LU κ) Dl (BT κ))
theorem e8l(κ:Kp):aB (Tu κ):=(e10 κ).ak (XN κ) (l8 κ)
theorem XV(κ:Kp):aj (Tu κ):=(XN κ).ak aF
theorem y8(κ:Kp)(a:cg)(K:AV->List Dn.Obj->Prop):(a9 (Tu κ) 12 74 [aq a] [] K)=(
 letI z1:=a.bl.length
 letI z2:=K (AV.ba [AV.bool false,AV.int 0]) []
 letI z3:=Pg.toProgram (Env.P (Lz κ))
 letI z4:=AV.bool false
 letI z5:=Int.toNat (↑z1:Int)
 ∃(e2:cg),([aq a],aI)=([aq e2],aI)/\(aX (aa (bc 56 e2.hl e2.bl))<=100000/\e2.bl.length<=100000)/\aD (aK (aG e2)) (aD (iH (aG e2)) (a7 (true&&
 decide ((↑z1:Int)<=(↑z1:Int))&&decide ((Int.toNat (↑z1:Int)+1)*2<=70368744177664)&&true) (af z3 186 3=af z3 186 3/\∃(e1:A8),sp 38 [(0,
 AV.cu 5),(1,AV.ptr 4 0 [] 0),(3,AV.mp 6),(4,AV.ar 7 0 z5),(13,AV.int (↑z1:Int)),(14,AV.int 0)] [Obj.box 66 (aq a),Obj.box 4 z4,Obj.box 29 (AV.int
 0),Obj.row 3 (ints (cd (aG e2))),Obj.box 66 (aq a),Dn.Obj.loop (fR Tryz.prog 74 5 LoopState.ready none (fK (bz 63) [(0,aq a),(1,AV.ptr 0 0 [] 0),(2,
 AV.ptr 1 0 [] 0),(3,AV.ptr 2 0 [] 0),(4,AV.ar 3 0 (List.length (cd (aG e2)))),(5,AV.int 0),(10,AV.ba [AV.ar 3 0 (List.length (cd (aG e2))),AV.int 0]),
 (11,aq a),(12,AV.ba [AV.ar 3 0 (List.length (cd (aG e2))),AV.int 0]),(13,AV.ar 3 0 (List.length (cd (aG e2)))),(14,AV.int 0),(15,AV.int 0),(16,
 AV.bool false),(18,aq a),(19,AV.bI 186 [AV.ptr 4 0 [] 0])])),Dn.Obj.map 9 4 [],Obj.row 4 (fC z4 z5)]=sp 38 [(0,AV.cu 5),(1,AV.ptr 4 0 [] 0),(3,
 AV.mp 6),(4,AV.ar 7 0 (List.length (bV e1.done))),(13,AV.int (↑(List.length e1.a.bl):Int)),(14,AV.int e1.i)] [Obj.box 66 (aq e1.a),Obj.box 4 z4,
 Obj.box 29 (AV.int 0),Obj.row 3 e1.ws,Obj.box 66 (aq e1.a),Dn.Obj.loop (fR Tryz.prog 74 5 LoopState.ready none (fK (bz 63) [(0,aq e1.a),(1,AV.ptr 0 0 []
 0),(2,AV.ptr 1 0 [] 0),(3,AV.ptr 2 0 [] 0),(4,AV.ar 3 0 e1.ws.length),(5,AV.int 0),(10,AV.ba [AV.ar 3 0 e1.ws.length,AV.int 0]),(11,aq e1.a),(12,
 AV.ba [AV.ar 3 0 e1.ws.length,AV.int 0]),(13,AV.ar 3 0 e1.ws.length),(14,AV.int 0),(15,AV.int 0),(16,AV.bool false),(18,aq e1.a),(19,AV.bI 186
 [AV.ptr 4 0 [] 0])])),Dn.Obj.map 9 4 (bM e1.b),Obj.row 4 (bV e1.done)]/\(aK (aG e1.a)=true/\(aX (aa (bc 56 e1.a.hl e1.a.bl))<=100000/\List.length
 e1.a.bl<=100000)/\(0:Int)<=e1.i/\e1.i<=(↑(List.length e1.a.bl):Int)/\e1.done.length=List.length e1.a.bl)/\aD (H0 e1) (K (AV.ba [AV.bool true,
 AV.int 0]) []) (∀(e0:Bool),True->aD e0 z2 z2))) (K (AV.ba [AV.bool false,AV.int 60]) [])) (K (AV.ba [AV.bool false,AV.int 30]) [])):=by kernel_rfl
def Pl(a:cg):Out (AV×List Dn.Obj):= .aD (aK (aG a)) (.aD (iH (aG a)) (.one (.ba [.bool (J6 (aG a)), .int 0],[])) (.one (.ba [.bool false, .int 60],[]))) (.one (.ba [.bool false, .int 30],[]))
theorem c8(κ:Kp):bq (Tu κ) 12 74 (aM B6 cV Pl):=by
 refine aZ ?_
 rintro a K h2 ho
 refine Eq.mpr (y8 κ a K) ?_
 simp only[Pl,Out.run,ah] at ho
 have hl:=h2.2
 refine⟨a,rfl,h2,?_⟩
 rw[ah]
 refine⟨fun e1=>?_,fun e1=>ho.2 e1⟩
 rw[ah]
 refine⟨fun e2=>?_,fun e2=>(ho.1 e1).2 e2⟩
 have hw:=oH e2
 have ho1:=(ho.1 e1).1 e2
 simp only[an,aa2,aa1,Int.toNat_natCast]
 have hi:H0 ⟨a,ints (cd (aG a)),List.replicate a.bl.length false,[],0⟩=J6 (aG a):=by
  unfold H0 J6
  rw[gl];rfl
 refine⟨⟨⟨⟨trivial,by omega⟩,by omega⟩,trivial⟩,trivial,⟨a,ints (cd (aG a)),List.replicate a.bl.length false,[],0⟩,?_,⟨e1,h2,by simp only;omega,by simp only;omega,by simp⟩,?_⟩
 ·simp only[sn,jd,nj,List.length_replicate];rfl
 ·rw[hi,ah]
  refine⟨fun e=>by rw[e] at ho1;exact ho1,fun e y _=>?_⟩
  rw[e] at ho1
  cases y
  ·exact ho1
  ·exact ho1
noncomputable def E8(κ:Kp):Env:=(Tu κ).ay 74 (aM B6 cV Pl)
theorem e8(κ:Kp):aB (E8 κ):=(e8l κ).ay (XV κ) (c8 κ)
theorem m8(κ:Kp):aj (E8 κ):=(XV κ).ay aJ
def PS:List AV->Option (Bool×AV)
 |[.agg [.lit (.int .i64 op), .lit (.string s), .lit (.int .i64 n), .ad 56 l], .lit (.int .i64 left)]=>some (decide (0<=left)&&decide (left<=100000), .int ((Tm.mk op s n (aa l)).size left))
 |_=>none
def Ds:List AV->Nat
 |[.agg [_,_,_, .ad _ l],_]=>aX (aa l)
 |_=>0
noncomputable def zL(κ:Kp)(n:Nat):Env:=(E8 κ).aH 94 (below PS Ds n)
structure Rk where
 op:Int
 s:ByteArray
 n:Int
 l:List AV
 left:Int
 i:Int
abbrev Io(a:Rk):S:=sp 31 [(1, .int a.left),(2, .ptr 0 0 [] 0),(5, .int a.i)] [.box 56 (.agg [.int a.op, .lit (.string a.s), .int a.n, .ad 56 a.l])]
theorem x54(κ:Kp)(r:Nat)(a:Rk)(I:Nat->S->Prop)(n:Nat)(K:Exit->S->Prop):(vc (zL κ r) 12 94 none 0 (af (Pr κ).toProgram 94 5) (Io a) (bH (zL κ r) 94 5 0 I n K))=(
 letI z1:=nth a.l a.i.toNat
 letI z2:=K (Exit.exit 0) (sp 31 [(1,AV.int a.left)] [])
 letI z3:=a.i<(↑(a.l.length):Int)
 aD (decide z3) (aD (decide (a.left>=(0:Int))) (a7 (decide ((0:Int)<=a.i)&&decide z3) (a7 (decide ((0:Int)<=a.left)&&decide (a.left<=(100000:
 Int))&&Nat.blt (Ds [AV.agg [AV.int (toInt (ae z1 0)),AV.str (toStr (ae z1 1)),AV.int (toInt (ae z1 2)),AV.ad 56 (ai (ae z1 3))],AV.int a.left]) r) (∃(e0
 :Nat),e0<n/\I e0 (sp 31 [(1,AV.int (Tm.size (Tm.mk (toInt (ae z1 0)) (toStr (ae z1 1)) (toInt (ae z1 2)) (aa (ai (ae z1 3)))) a.left)),(2,AV.ptr 0 0 []
 0),(5,AV.int (IntKind.wrap IntKind.i64 (a.i+(1:Int))))] [Obj.box 56 (AV.agg [AV.int a.op,AV.str a.s,AV.int a.n,AV.ad 56 a.l])])))) z2) z2):=by kernel_rfl
def Fj(r:Nat)(a:Rk):Prop:= -1<=a.left/\a.i+a.left<=100000/\0<=a.i/\a.i<=a.l.length/\aX (aa (a.l.drop a.i.toNat))<=r
def zD(a:Rk):Out (Exit×S):= .one (.exit 0,sp 31 [(1, .int (iM (aa (a.l.drop a.i.toNat)) a.left))] [])
theorem ZY(κ:Kp)(r:Nat):bh (zL κ r) 12 94 5 (aP 0 Io (Fj r) zD):=by
 refine aL (fun a=>a.l.length - a.i.toNat) ?_
 rintro⟨op,s,n,l,left,i⟩ K ⟨h1,h2,h3,h4,h5⟩ ho
 simp only at h1 h2 h3 h4 h5
 rw[show(zL κ r).P=Pr κ from rfl]
 refine Eq.mpr (x54 κ r ⟨op,s,n,l,left,i⟩ _ _ K) ?_
 simp only[zD,Out.run] at ho
 simp only[ah,an,aa1,aa3,aa2,Nat.blt_eq,←da]
 refine⟨fun hi=>⟨fun hl=>⟨⟨h3,hi⟩,?_⟩,fun hl=>?_⟩,fun hi=>?_⟩
 ·have hc:=tM l i.toNat (by omega)
  have hz:=Tm.size_le (cM (nth l i.toNat)) left hl
  have hp:(cM (nth l i.toNat)).iS=1+aX (aa (ai (ae (nth l i.toNat) 3))):=by rw[da,Tm.iS]
  rw[eu l i.toNat (by omega),iM,aa7 hl,aa8] at ho
  rw[aW (n:=i+1) (by omega) (by omega)]
  refine⟨⟨⟨hl,by omega⟩,by simp only[Ds];omega⟩,_,?_,⟨op,s,n,l,(cM (nth l i.toNat)).size left,i+1⟩,rfl,⟨by simp only;omega,by simp only;omega,by simp only;omega,by simp only;omega,?_⟩,rfl,?_⟩
  ·simp only;omega
  ·simp only[show(i+1).toNat=i.toNat+1 by omega];omega
  ·simp only[zD,Out.run,show(i+1).toNat=i.toNat+1 by omega]
   exact ho
 ·rw[eu l i.toNat (by omega),iM,aa5 (show ¬ 0<=left from hl),aa6] at ho
  exact ho
 ·rw[aa9 (by omega)] at ho
  exact ho
noncomputable def HK(κ:Kp)(r:Nat):Env:=(zL κ r).ak 94 5 (aP 0 Io (Fj r) zD)
theorem ZP(κ:Kp)(r:Nat)(op:Int)(s:ByteArray)(n:Int)(l:List AV)(left:Int)(K:AV->List Dn.Obj->Prop):(a9 (HK κ r) 12 94 [.agg [.int op, .lit (.string s), .int n, .ad 56 l], .int left] [] K)=(
 aD (decide ((↑(ByteArray.size s):Int)>(1000:Int))) (K (AV.int (-1)) []) (af (Pg.toProgram (Env.P (zL κ r))) 94 5=af (Pg.toProgram (Env.P
 (zL κ r))) 94 5/\∃(a:Rk),sp 31 [(1,AV.int (IntKind.wrap IntKind.i64 (left - (1:Int)))),(2,AV.ptr 0 0 [] 0),(5,AV.int 0)] [Obj.box 56 (AV.agg
 [AV.int op,AV.str s,AV.int n,AV.ad 56 l])]=sp 31 [(1,AV.int a.left),(2,AV.ptr 0 0 [] 0),(5,AV.int a.i)] [Obj.box 56 (AV.agg [AV.int a.op,AV.str
 a.s,AV.int a.n,AV.ad 56 a.l])]/\((-1:Int)<=a.left/\a.i+a.left<=(100000:Int)/\(0:Int)<=a.i/\a.i<=(↑(a.l.length):Int)/\aX (aa
 (List.drop a.i.toNat a.l))<=r)/\K (AV.int (iM (aa (List.drop a.i.toNat a.l)) a.left)) [])):=by kernel_rfl
theorem Va(κ:Kp)(r:Nat)(hp:gZ (Pr κ) 94 (below PS Ds r)):aB (HK κ r)/\aj (HK κ r)/\(HK κ r).P=Pr κ:=
 have h:aB (zL κ r):=(e8 κ).eZ hp
 have hm:aj (zL κ r):=(m8 κ).aH
 ⟨h.ak hm (ZY κ r),hm.ak aF,rfl⟩
theorem p54(κ:Kp)(r:Nat):c9 (HK κ r) 12 94 (fun xs=>bif Nat.beq (Ds xs) r then PS xs else none):=by
 intro args x hh
 cases hb:Nat.beq (Ds args) r with
 |false=>simp only[hb] at hh;cases hh
 | true=>
  simp only[hb,aa8] at hh
  unfold PS at hh
  split at hh
  ·rename_i op s n l left
   simp only[aa4,ab0,aa2,aa1] at hh
   obtain⟨⟨h1,h2⟩,rfl⟩:=hh
   have hr:aX (aa l)=r:=Nat.eq_of_beq_eq_true hb
   refine⟨_,rfl,rfl,?_⟩
   refine Eq.mpr (ZP κ r op s n l left _) ?_
   rw[ah,aa1,aa3]
   refine⟨fun e=>?_,fun e=>?_⟩
   ·unfold Tm.size;rw[aa7 (show(1000:Int)<s.size from e)];rfl
   ·rw[aW (n:=left - 1) (by omega) (by omega)]
    refine⟨rfl,⟨op,s,n,l,left - 1,0⟩,rfl,⟨by simp only;omega,by simp only;omega,by simp only;omega,by simp only;omega,?_⟩,?_⟩
    ·simp only[ab8,ab1];omega
    ·unfold Tm.size;rw[aa5 (show ¬ (1000:Int)<s.size from e)];rfl
  ·cases hh
theorem q54(κ:Kp):gZ (Pr κ) 94 PS:=aB.tQ PS Ds (HK κ) (Va κ) (p54 κ)
noncomputable def Mn(κ:Kp):Env:=(E8 κ).aH 94 PS
theorem YT(κ:Kp):aB (Mn κ):=(e8 κ).eZ (q54 κ)
theorem Yc(κ:Kp):aj (Mn κ):=(m8 κ).aH
structure S1 where
 s:ByteArray
 l:List AV
 left:Int
 i:Int
abbrev Lp(a:S1):S:=sp 29 [(1, .int a.left),(2, .ptr 0 0 [] 0),(5, .int a.i)] [.box 63 (.agg [.lit (.string a.s), .ad 56 a.l])]
theorem x53(κ:Kp)(a:S1)(I:Nat->S->Prop)(n:Nat)(K:Exit->S->Prop):(vc (Mn κ) 12 93 none 0 (af (Pr κ).toProgram 93 4) (Lp a) (bH (Mn κ) 93 4 0 I n K))=(
 letI z1:=nth a.l a.i.toNat
 letI z2:=K (Exit.exit 0) (sp 29 [(1,AV.int a.left)] [])
 letI z3:=a.i<(↑(a.l.length):Int)
 aD (decide z3) (aD (decide (a.left>=(0:Int))) (a7 (decide ((0:Int)<=a.i)&&decide z3) (a7 (decide ((0:Int)<=a.left)&&decide (a.left<=(100000:
 Int))) (∃(e0:Nat),e0<n/\I e0 (sp 29 [(1,AV.int (Tm.size (Tm.mk (toInt (ae z1 0)) (toStr (ae z1 1)) (toInt (ae z1 2)) (aa (ai (ae z1 3)))) a.left)),(2,
 AV.ptr 0 0 [] 0),(5,AV.int (IntKind.wrap IntKind.i64 (a.i+(1:Int))))] [Obj.box 63 (AV.agg [AV.str a.s,AV.ad 56 a.l])])))) z2) z2):=by kernel_rfl
def Ex(a:S1):Prop:= -1<=a.left/\a.i+a.left<=100000/\0<=a.i/\a.i<=a.l.length
def x4(a:S1):Out (Exit×S):= .one (.exit 0,sp 29 [(1, .int (iM (aa (a.l.drop a.i.toNat)) a.left))] [])
theorem l53(κ:Kp):bh (Mn κ) 12 93 4 (aP 0 Lp Ex x4):=by
 refine aL (fun a=>a.l.length - a.i.toNat) ?_
 rintro⟨s,l,left,i⟩ K ⟨h1,h2,h3,h4⟩ ho
 simp only at h1 h2 h3 h4
 rw[show(Mn κ).P=Pr κ from rfl]
 refine Eq.mpr (x53 κ ⟨s,l,left,i⟩ _ _ K) ?_
 simp only[x4,Out.run] at ho
 simp only[ah,an,aa1,aa3,aa2,←da]
 refine⟨fun hi=>⟨fun hl=>⟨⟨h3,hi⟩,?_⟩,fun hl=>?_⟩,fun hi=>?_⟩
 ·have hz:=Tm.size_le (cM (nth l i.toNat)) left hl
  rw[eu l i.toNat (by omega),iM,aa7 hl,aa8] at ho
  rw[aW (n:=i+1) (by omega) (by omega)]
  refine⟨⟨hl,by omega⟩,_,?_,⟨s,l,(cM (nth l i.toNat)).size left,i+1⟩,rfl,⟨by simp only;omega,by simp only;omega,by simp only;omega,by simp only;omega⟩,rfl,?_⟩
  ·simp only;omega
  ·simp only[x4,Out.run,show(i+1).toNat=i.toNat+1 by omega]
   exact ho
 ·rw[eu l i.toNat (by omega),iM,aa5 (show ¬ 0<=left from hl),aa6] at ho
  exact ho
 ·rw[aa9 (by omega)] at ho
  exact ho
noncomputable def KG(κ:Kp):Env:=(Mn κ).ak 93 4 (aP 0 Lp Ex x4)
theorem Wa(κ:Kp):aB (KG κ):=(YT κ).ak (Yc κ) (l53 κ)
theorem Tt(κ:Kp):aj (KG κ):=(Yc κ).ak aF
theorem ZJ(κ:Kp)(s:ByteArray)(l:List AV)(left:Int)(K:AV->List Dn.Obj->Prop):(a9 (KG κ) 12 93 [.agg [.lit (.string s), .ad 56 l], .int left] [] K)=(
 letI z1:=Pg.toProgram (Env.P (Mn κ))
 aD (decide ((↑(ByteArray.size s):Int)>(1000:Int))) (K (AV.int (-1)) []) (af z1 93 4=af z1 93 4/\∃(e0:S1),sp 29 [(1,AV.int left),(2,AV.ptr 0 0 []
 0),(5,AV.int 0)] [Obj.box 63 (AV.agg [AV.str s,AV.ad 56 l])]=sp 29 [(1,AV.int e0.left),(2,AV.ptr 0 0 [] 0),(5,AV.int e0.i)] [Obj.box 63 (AV.agg
 [AV.str e0.s,AV.ad 56 e0.l])]/\((-1:Int)<=e0.left/\e0.i+e0.left<=(100000:Int)/\(0:Int)<=e0.i/\e0.i<=(↑(e0.l.length):Int))/\K (AV.int (iM (aa
 (List.drop e0.i.toNat e0.l)) e0.left)) [])):=by kernel_rfl
def WJ:List AV->Option (Bool×AV)
 |[.agg [.lit (.string s), .ad 56 l], .lit (.int .i64 left)]=>some (decide (-1<=left)&&decide (left<=100000), .int (dr ⟨s,aa l⟩ left))
 |_=>none
theorem p53(κ:Kp):c9 (KG κ) 12 93 WJ:=by
 intro args x hh
 unfold WJ at hh
 split at hh
 ·rename_i s l left
  simp only[aa4,ab0,aa2,aa1] at hh
  obtain⟨⟨h1,h2⟩,rfl⟩:=hh
  refine⟨_,rfl,rfl,?_⟩
  refine Eq.mpr (ZJ κ s l left _) ?_
  rw[ah,aa1,aa3]
  refine⟨fun e=>?_,fun e=>?_⟩
  ·unfold dr;rw[aa7 (show(1000:Int)<s.size from e)];rfl
  ·refine⟨rfl,⟨s,l,left,0⟩,rfl,⟨h1,by simp only;omega,by simp only;omega,by simp only;omega⟩,?_⟩
   unfold dr;rw[aa5 (show ¬ (1000:Int)<s.size from e)];rfl
 ·cases hh
noncomputable def Ni(κ:Kp):Env:=(KG κ).aH 93 WJ
theorem Zr(κ:Kp):aB (Ni κ):=(Wa κ).aH (Tt κ) (p53 κ)
theorem XZ(κ:Kp):aj (Ni κ):=(Tt κ).aH
structure Ra where
 a:cg
 left:Int
 i:Int
abbrev Cf(a:Ra):S:=sp 52 [(1, .int a.left),(2, .ptr 0 0 [] 0),(5, .int a.i)] [.box 66 (aq a.a)]
theorem x38(κ:Kp)(a:Ra)(I:Nat->S->Prop)(n:Nat)(K:Exit->S->Prop):(vc (Ni κ) 12 55 none 0 (af (Pr κ).toProgram 55 3) (Cf a) (bH (Ni κ) 55 3 0 I n K))=(
 letI z1:=nth a.a.bl a.i.toNat
 letI z3:=Tm.mk (toInt (ae (ae z1 2) 0)) (toStr (ae (ae z1 2) 1)) (toInt (ae (ae z1 2) 2)) (aa (ai (ae (ae z1 2) 3)))
 letI z4:=AV.agg [AV.agg [AV.str a.a.rel,AV.ad 56 a.a.hl],AV.ad 72 a.a.bl,AV.int a.a.line]
 letI z6:=ai (ae (ae z1 1) 1)
 letI z7:=ae (ae z1 1) 0
 letI z9:=IntKind.wrap IntKind.i64 (a.i+(1:Int))
 letI z10:=Tm.mk (toInt (ae (ae z1 3) 0)) (toStr (ae (ae z1 3) 1)) (toInt (ae (ae z1 3) 2)) (aa (ai (ae (ae z1 3) 3)))
 letI z13:=K (Exit.exit 0) (sp 52 [(1,AV.int a.left)] [])
 letI z14:=a.i<(↑(List.length a.a.bl):Int)
 letI z5:=decide ((0:Int)<=a.i)&&decide z14
 letI z15:=a.left - (1:Int)
 letI z2:=IntKind.wrap IntKind.i64 z15
 letI z11:=dr {rel:=toStr z7,l:=aa z6} z2
 letI z12:=dr {rel:=toStr z7,l:=aa z6} z2
 letI z16:=(100000:Int)
 letI z8:=decide ((0:Int)<=dr {rel:=toStr z7,l:=aa z6} z2)&&decide (dr {rel:=toStr z7,l:=aa z6} z2<=z16)
 aD (decide z14) (aD (decide (a.left>=(0:Int))) (a7 z5 (a7 (decide ((-1:Int)<=IntKind.wrap IntKind.i64 z15)&&decide (IntKind.wrap IntKind.i64 z15<=z16)) (aD (decide (dr {rel:=toStr z7,l:=aa z6} z2>=(0:Int))) (a7 z5 (a7 z8 (aD (decide (Tm.size z3 z11>=(0:Int))) (a7 z5 (a7 (decide ((0:Int)<=Tm.size z3 z12)&&decide (Tm.size z3 z11<=z16)) (∃(e0:Nat),e0<n/\I e0 (sp 52 [(1,AV.lit (Value.int IntKind.i64 (Tm.size z10 (Tm.size z3 z11)))),(2,AV.ptr 0 0 [] 0),(5,AV.int z9)] [Obj.box 66 z4])))) (∃(e0:Nat),e0<n/\I e0 (sp 52 [(1,AV.lit (Value.int IntKind.i64 (Tm.size z3 z12))),(2,AV.ptr 0 0 [] 0),(5,AV.int z9)] [Obj.box 66 z4]))))) (aD (decide (dr {rel:=toStr z7,l:=aa z6} z2>=(0:Int))) (a7 z5 (a7 z8 (∃(e0:Nat),e0<n/\I e0 (sp 52 [(1,AV.lit (Value.int IntKind.i64 (Tm.size z10 z12))),(2,AV.ptr 0 0 [] 0),(5,AV.int z9)] [Obj.box 66 z4])))) (∃(e0:Nat),e0<n/\I e0 (sp 52 [(1,AV.lit (Value.int IntKind.i64 z11)),(2,AV.ptr 0 0 [] 0),(5,AV.int z9)] [Obj.box 66 z4])))))) z13) z13):=by kernel_rfl
def x7(a:Ra):Prop:= -1<=a.left/\a.i+a.left<=100000/\0<=a.i/\a.i<=a.a.bl.length
def vL(a:Ra):Out (Exit×S):= .one (.exit 0,sp 52 [(1, .int (lp (c6 (a.a.bl.drop a.i.toNat)) a.left))] [])
theorem l38(κ:Kp):bh (Ni κ) 12 55 3 (aP 0 Cf x7 vL):=by
 refine aL (fun a=>a.a.bl.length - a.i.toNat) ?_
 rintro⟨a,left,i⟩ K ⟨h1,h2,h3,h4⟩ ho
 simp only at h1 h2 h3 h4
 rw[show(Ni κ).P=Pr κ from rfl]
 refine Eq.mpr (x38 κ ⟨a,left,i⟩ _ _ K) ?_
 simp only[vL,Out.run] at ho
 by_cases hi:i<a.bl.length
 ·by_cases hl:left>=0
  ·have hk:i.toNat<a.bl.length:=by omega
   rw[na a.bl i.toNat hk,lp,aa7 hl,aa8] at ho
   have hA:(⟨toStr (ae (ae (nth a.bl i.toNat) 1) 0),aa (ai (ae (ae (nth a.bl i.toNat) 1) 1))⟩:At)=(cE (nth a.bl i.toNat)).a:=rfl
   have hX:cM (ae (nth a.bl i.toNat) 2)=(cE (nth a.bl i.toNat)).x:=rfl
   have hY:cM (ae (nth a.bl i.toNat) 3)=(cE (nth a.bl i.toNat)).y:=rfl
   have hz:=rR (cE (nth a.bl i.toNat)) left hl
   have hz1:=lI (cE (nth a.bl i.toNat)).a (left - 1) (by omega)
   have hz2:=Tm.size_le (cE (nth a.bl i.toNat)).x (dr (cE (nth a.bl i.toNat)).a (left - 1))
   have go: ∀z,sizeLt (cE (nth a.bl i.toNat)) left=z->∃m,m<a.bl.length - i.toNat/\fe Cf x7 vL (fun a=>a.a.bl.length - a.i.toNat) K m (Cf ⟨a,z,i+1⟩):=by
    rintro z rfl
    refine⟨_,?_,⟨a,sizeLt (cE (nth a.bl i.toNat)) left,i+1⟩,rfl,⟨by simp only;omega,by simp only;omega,by simp only;omega,by simp only;omega⟩,rfl,?_⟩
    ·simp only;omega
    ·simp only[vL,Out.run,show(i+1).toNat=i.toNat+1 by omega]
     exact ho
   simp only[aW (n:=i+1) (by omega) (by omega),aW (n:=left - 1) (by omega) (by omega),hA,←da,hX,hY]
   simp only[ah,an,aa1,aa3,aa2]
   refine⟨fun _=>⟨fun _=>⟨⟨h3,hi⟩,⟨by omega,by omega⟩,fun e1=>⟨⟨h3,hi⟩,⟨e1,by omega⟩,fun e2=>⟨⟨h3,hi⟩,⟨e2,by have:=hz2 e1;omega⟩,go _ ?_⟩,fun e2=>go _ ?_⟩,fun e1=>⟨fun e=>absurd e e1,fun _=>go _ ?_⟩⟩,fun e=>absurd hl e⟩,fun e=>absurd hi e⟩
   ·unfold sizeLt;rw[aa7 (show 0<=dr (cE (nth a.bl i.toNat)).a (left - 1) from e1),aa8,aa7 (show 0<=(cE (nth a.bl i.toNat)).x.size _ from e2),aa8]
   ·unfold sizeLt;rw[aa7 (show 0<=dr (cE (nth a.bl i.toNat)).a (left - 1) from e1),aa8,aa5 (show ¬ 0<=(cE (nth a.bl i.toNat)).x.size _ from e2),aa6]
   ·unfold sizeLt;rw[aa5 (show ¬ 0<=dr (cE (nth a.bl i.toNat)).a (left - 1) from e1),aa6];rfl
  ·rw[na a.bl i.toNat (by omega),lp,aa5 (show ¬ 0<=left from hl),aa6] at ho
   rw[aa7 (show i<(a.bl.length:Int) from hi),aa5 hl]
   exact ho
 ·rw[aa9 (by omega)] at ho
  rw[aa5 (show ¬ i<(a.bl.length:Int) from hi)]
  exact ho
noncomputable def JP(κ:Kp):Env:=(Ni κ).ak 55 3 (aP 0 Cf x7 vL)
theorem VH(κ:Kp):aB (JP κ):=(Zr κ).ak (XZ κ) (l38 κ)
theorem Ru(κ:Kp):aj (JP κ):=(XZ κ).ak aF
theorem y38(κ:Kp)(a:cg)(left:Int)(K:AV->List Dn.Obj->Prop):(a9 (JP κ) 12 55 [aq a, .int left] [] K)=(
 letI z1:=left - (1:Int)
 letI z2:=Pg.toProgram (Env.P (Ni κ))
 a7 (decide ((-1:Int)<=IntKind.wrap IntKind.i64 z1)&&decide (IntKind.wrap IntKind.i64 z1<=(100000:Int))) (af z2 55 3=af z2 55 3/\∃(e0:Ra),sp 52 [(1,AV.lit (Value.int IntKind.i64 (dr {rel:=a.rel,l:=aa a.hl} (IntKind.wrap IntKind.i64 z1)))),(2,AV.ptr 0 0 [] 0),(5,AV.int 0)] [Obj.box 66 (AV.agg [AV.agg [AV.str a.rel,AV.ad 56 a.hl],AV.ad 72 a.bl,AV.int a.line])]=sp 52 [(1,AV.int e0.left),(2,AV.ptr 0 0 [] 0),(5,AV.int e0.i)] [Obj.box 66 (AV.agg [AV.agg [AV.str e0.a.rel,AV.ad 56 e0.a.hl],AV.ad 72 e0.a.bl,AV.int e0.a.line])]/\((-1:Int)<=e0.left/\e0.i+e0.left<=(100000:Int)/\(0:Int)<=e0.i/\e0.i<=(↑(List.length e0.a.bl):Int))/\K (AV.lit (Value.int IntKind.i64 (lp (c6 (List.drop e0.i.toNat e0.a.bl)) e0.left))) [])):=by kernel_rfl
def WI:List AV->Option (Bool×AV)
 |[.agg [.agg [.lit (.string rel), .ad 56 hl], .ad 72 bl, .lit (.int .i64 _)], .lit (.int .i64 left)]=>some (decide (0<=left)&&decide (left<=100000), .int (lU ⟨⟨rel,aa hl⟩,c6 bl⟩ left))
 |_=>none
theorem p38(κ:Kp):c9 (JP κ) 12 55 WI:=by
 intro args x hh
 unfold WI at hh
 split at hh
 ·rename_i rel hl bl line left
  simp only[aa4,ab0,aa2,aa1] at hh
  obtain⟨⟨h1,h2⟩,rfl⟩:=hh
  refine⟨_,rfl,rfl,?_⟩
  refine Eq.mpr (y38 κ ⟨[],[],rel,hl,bl,line,0⟩ left _) ?_
  have hz1:=lI ⟨rel,aa hl⟩ (left - 1) (by omega)
  simp only[aW (n:=left - 1) (by omega) (by omega)]
  rw[an,aa2,aa1,aa1]
  exact⟨⟨by omega,by omega⟩,trivial,⟨⟨[],[],rel,hl,bl,line,0⟩,dr ⟨rel,aa hl⟩ (left - 1),0⟩,rfl,⟨by simp only;omega,by simp only;omega,by simp only;omega,by simp only;omega⟩,rfl⟩
 ·cases hh
noncomputable def Mk(κ:Kp):Env:=(JP κ).aH 55 WI
theorem e38(κ:Kp):aB (Mk κ):=(VH κ).aH (Ru κ) (p38 κ)
theorem Yo(κ:Kp):aj (Mk κ):=(Ru κ).aH
abbrev Ke(a:List AV×Int):S:=sp 16 [(0, .ad 9 a.1),(3, .int a.2)] []
theorem x37(κ:Kp)(l:List AV)(i:Int)(I:Nat->S->Prop)(n:Nat)(K:Exit->S->Prop):(vc (Mk κ) 12 54 none 0 (af (Pr κ).toProgram 54 2) (Ke (l,i)) (bH (Mk κ) 54 2 0 I n K))=(
 letI z1:=i<(↑(l.length):Int)
 aD (decide z1) (a7 (decide ((0:Int)<=i)&&decide z1) (aD (decide ((↑(ByteArray.size (toStr (nth l i.toNat))):Int)>(1000:Int))) (K Exit.ret (sp 16 [(2,
 AV.bool true)] [])) (∃(e0:Nat),e0<n/\I e0 (sp 16 [(0,AV.ad 9 l),(3,AV.int (IntKind.wrap IntKind.i64 (i+(1:Int))))] [])))) (K (Exit.exit 0) (sp 16
 [] []))):=by kernel_rfl
def E4(a:List AV×Int):Prop:=a.1.length<=aR/\0<=a.2/\a.2<=a.1.length
def za(a:List AV×Int):Out (Exit×S):= .aD (sw (a.1.drop a.2.toNat)) (.one (.ret,sp 16 [(2, .bool true)] [])) (.one (.exit 0,sp 16 [] []))
theorem l37(κ:Kp):bh (Mk κ) 12 54 2 (aP 0 Ke E4 za):=by
 refine aL (fun a=>a.1.length - a.2.toNat) ?_
 rintro⟨l,i⟩ K ⟨h1,h2,h3⟩ ho
 simp only at h1 h2 h3
 rw[show(Mk κ).P=Pr κ from rfl]
 refine Eq.mpr (x37 κ l i _ _ K) ?_
 simp only[aR] at h1
 simp only[za,Out.run,ah] at ho
 simp only[ah,an,aa1,aa3,aa2]
 refine⟨fun hi=>⟨⟨h2,hi⟩,?_⟩,fun hi=>?_⟩
 ·rw[ab2 (show i.toNat<l.length by omega),←bg l i.toNat (by omega)] at ho
  simp only[sw,List.any_cons] at ho
  refine⟨fun e=>ho.1 (by rw[aa7 (show(1000:Int)<_ from e)];rfl),fun e=>?_⟩
  rw[aa5 (show ¬ (1000:Int)<_ from e),Bool.false_or] at ho
  rw[aW (n:=i+1) (by omega) (by omega)]
  refine⟨_,?_,(l,i+1),rfl,⟨by simpa[aR] using h1,by simp only;omega,by simp only;omega⟩,rfl,?_⟩
  ·simp only;omega
  ·simp only[za,Out.run,ah,show(i+1).toNat=i.toNat+1 by omega]
   exact ho
 ·rw[aa9 (by omega)] at ho
  exact ho.2 rfl
noncomputable def Ln(κ:Kp):Env:=(Mk κ).ak 54 2 (aP 0 Ke E4 za)
theorem VL(κ:Kp):aB (Ln κ):=(e38 κ).ak (Yo κ) (l37 κ)
theorem TQ(κ:Kp):aj (Ln κ):=(Yo κ).ak aF
theorem y37(κ:Kp)(l:List AV)(K:AV->List Dn.Obj->Prop):(a9 (Ln κ) 12 54 [.ad 9 l] [] K)=(
 letI z1:=Pg.toProgram (Env.P (Mk κ))
 af z1 54 2=af z1 54 2/\∃(e0:List AV×Int),sp 16 [(0,AV.ad 9 l),(3,AV.int 0)] []=sp 16 [(0,AV.ad 9 e0.1),(3,AV.int e0.2)] []/\(e0.1.length<=
 9223372036854775807/\(0:Int)<=e0.2/\e0.2<=(↑(e0.1.length):Int))/\aD (sw (List.drop e0.2.toNat e0.1)) (K (AV.bool true) []) (K (AV.bool false) [])):=by kernel_rfl
def US:List AV->Option (Bool×AV)
 |[.ad 9 l]=>some (decide (l.length<=aR), .bool (sw l))
 |_=>none
theorem YB(κ:Kp):c9 (Ln κ) 12 54 US:=by
 intro args x hh
 unfold US at hh
 split at hh
 ·rename_i l
  simp only[aa4,ab0,aa1] at hh
  obtain⟨h1,rfl⟩:=hh
  refine⟨_,rfl,rfl,?_⟩
  refine Eq.mpr (y37 κ l _) ?_
  refine⟨rfl,(l,0),rfl,⟨h1,by simp only;omega,by simp only;omega⟩,?_⟩
  rw[ah]
  exact⟨fun e=>by rw[show sw l=true from e],fun e=>by rw[show sw l=false from e]⟩
 ·cases hh
noncomputable def LV(κ:Kp):Env:=(Ln κ).aH 54 US
theorem e37(κ:Kp):aB (LV κ):=(VL κ).aH (TQ κ) (YB κ)
theorem Yv(κ:Kp):aj (LV κ):=(TQ κ).aH
structure Ik where
 ds:List AV
 rs:List AV
 left:Int
 i:Int
abbrev GZ(a:Ik):AV:= .agg [.ad 61 a.ds, .ad 66 a.rs]
abbrev FG(a:Ik):S:=sp 62 [(1, .ptr 0 0 [] 0),(3, .int a.left),(4, .int a.i)] [.box 25 (GZ a)]
theorem V0(κ:Kp)(a:Ik)(I:Nat->S->Prop)(n:Nat)(K:Exit->S->Prop):(vc (LV κ) 12 26 none 0 (af (Pr κ).toProgram 26 3) (FG a) (bH (LV κ) 26 3 0 I n K))=(
 letI z2:=K Exit.ret (sp 62 [(2,AV.int 0)] [])
 letI z3:=AV.agg [AV.ad 61 a.ds,AV.ad 66 a.rs]
 letI z4:=nth a.ds a.i.toNat
 letI z5:=a.i<(↑(a.ds.length):Int)
 letI z1:=decide ((0:Int)<=a.i)&&decide z5
 aD (decide z5) (a7 z1 (aD (decide ((↑(ByteArray.size (toStr (ae z4 0))):Int)>(1000:Int))) z2 (a7 z1 (a7 (decide (List.length (ai (ae z4 1))<=
 9223372036854775807)) (aD (sw (ai (ae z4 1))) z2 (∃(e0:Nat),e0<n/\I e0 (sp 62 [(1,AV.ptr 0 0 [] 0),(3,AV.int a.left),(4,AV.int (IntKind.wrap
 IntKind.i64 (a.i+(1:Int))))] [Obj.box 25 z3]))))))) (K (Exit.exit 0) (sp 62 [(1,AV.ptr 0 0 [] 0),(3,AV.int a.left)] [Obj.box 25 z3]))):=by kernel_rfl
def zM(a:Ik):Prop:=a.ds.length<=aR/\(∀d,d∈a.ds->(ai (ae d 1)).length<=aR)/\0<=a.i/\a.i<=a.ds.length
def we(a:Ik):Out (Exit×S):= .aD ((a.ds.drop a.i.toNat).any GX) (.one (.ret,sp 62 [(2, .int 0)] [])) (.one (.exit 0,sp 62 [(1, .ptr 0 0 [] 0),(3, .int a.left)] [.box 25 (GZ a)]))
theorem UF(κ:Kp):bh (LV κ) 12 26 3 (aP 0 FG zM we):=by
 refine aL (fun a=>a.ds.length - a.i.toNat) ?_
 rintro⟨ds,rs,left,i⟩ K ⟨h1,h1',h2,h3⟩ ho
 simp only at h1 h1' h2 h3
 rw[show(LV κ).P=Pr κ from rfl]
 refine Eq.mpr (V0 κ ⟨ds,rs,left,i⟩ _ _ K) ?_
 simp only[aR] at h1
 simp only[we,Out.run,ah] at ho
 simp only[ah,an,aa2,aa1,aa3]
 refine⟨fun hi=>⟨⟨h2,hi⟩,?_⟩,fun hi=>?_⟩
 ·have hi':i.toNat<ds.length:=by omega
  have hm:nth ds i.toNat∈ds:=by rw[bg ds _ hi'];exact List.getElem_mem _
  rw[ab2 hi',←bg ds i.toNat hi'] at ho
  simp only[List.any_cons,GX] at ho
  have go:(∀h:((ds.drop (i.toNat+1)).any GX=true->K .ret (sp 62 [(2, .int 0)] []))/\((ds.drop (i.toNat+1)).any GX=false->K (.exit 0) (sp 62 [(1, .ptr 0 0 [] 0),(3, .int left)] [.box 25 (GZ ⟨ds,rs,left,i⟩)])),∃m,m<ds.length - i.toNat/\fe FG zM we (fun a=>a.ds.length - a.i.toNat) K m (sp 62 [(1, .ptr 0 0 [] 0),(3, .int left),(4, .int (IntKind.wrap .i64 (i+1)))] [.box 25 (GZ ⟨ds,rs,left,i⟩)])):=by
   intro h
   rw[aW (n:=i+1) (by omega) (by omega)]
   refine⟨_,?_,⟨ds,rs,left,i+1⟩,rfl,⟨by simpa[aR] using h1,h1',by simp only;omega,by simp only;omega⟩,rfl,?_⟩
   ·simp only;omega
   ·simp only[we,Out.run,ah,show(i+1).toNat=i.toNat+1 by omega]
    exact h
  refine⟨fun e1=>ho.1 (by rw[aa7 (show(1000:Int)<_ from e1)];rfl),fun e1=>⟨⟨h2,hi⟩,h1' _ hm,fun e2=>ho.1 (by rw[e2];simp),fun e2=>go ?_⟩⟩
  rw[aa5 (show ¬ (1000:Int)<_ from e1),e2] at ho
  exact ho
 ·rw[aa9 (by omega)] at ho
  exact ho.2 rfl
noncomputable def zb(κ:Kp):Env:=(LV κ).ak 26 3 (aP 0 FG zM we)
theorem Vu(κ:Kp):aB (zb κ):=(e37 κ).ak (Yv κ) (UF κ)
theorem SI(κ:Kp):aj (zb κ):=(Yv κ).ak aF
abbrev Ix(a:Ik):S:=sp 62 [(1, .ptr 0 0 [] 0),(3, .int a.left),(5, .int a.i)] [.box 25 (GZ a)]
theorem Vq(κ:Kp)(a:Ik)(I:Nat->S->Prop)(n:Nat)(K:Exit->S->Prop):(vc (zb κ) 12 26 none 0 (af (Pr κ).toProgram 26 8) (Ix a) (bH (zb κ) 26 8 0 I n K))=(
 letI z2:=AV.agg [AV.ad 61 a.ds,AV.ad 66 a.rs]
 letI z1:=K (Exit.exit 2) (sp 62 [(1,AV.ptr 0 0 [] 0),(3,AV.int a.left)] [Obj.box 25 z2])
 letI z3:=nth a.rs a.i.toNat
 letI z4:=a.i<(↑(a.rs.length):Int)
 aD (decide z4) (aD (decide (a.left>=(0:Int))) (a7 (decide ((0:Int)<=a.i)&&decide z4) (a7 (decide ((0:Int)<=a.left)&&decide (a.left<=(100000:Int))) (∃(e0:Nat),e0<n/\I e0 (sp 62 [(1,AV.ptr 0 0 [] 0),(3,AV.lit (Value.int IntKind.i64 (lU {head:={rel:=toStr (ae (ae z3 0) 0),l:=aa (ai (ae (ae z3 0) 1))},body:=c6 (ai (ae z3 1))} a.left))),(5,AV.int (IntKind.wrap IntKind.i64 (a.i+(1:Int))))] [Obj.box 25 z2])))) z1) z1):=by kernel_rfl
def Es(a:Ik):Prop:= -1<=a.left/\a.i+a.left<=100000/\0<=a.i/\a.i<=a.rs.length
def x6(a:Ik):Out (Exit×S):= .one (.exit 2,sp 62 [(1, .ptr 0 0 [] 0),(3, .int (lJ ((a.rs.drop a.i.toNat).map sH) a.left))] [.box 25 (GZ a)])
theorem U7(κ:Kp):bh (zb κ) 12 26 8 (aP 0 Ix Es x6):=by
 refine aL (fun a=>a.rs.length - a.i.toNat) ?_
 rintro⟨ds,rs,left,i⟩ K ⟨h1,h2,h3,h4⟩ ho
 simp only at h1 h2 h3 h4
 rw[show(zb κ).P=Pr κ from rfl]
 refine Eq.mpr (Vq κ ⟨ds,rs,left,i⟩ _ _ K) ?_
 simp only[x6,Out.run] at ho
 by_cases hi:i<rs.length
 ·have hi':i.toNat<rs.length:=by omega
  rw[ab2 hi',←bg rs i.toNat hi',ac1,lJ] at ho
  by_cases hl:left>=0
  ·have hz:=uf (sH (nth rs i.toNat)) left hl
   rw[aa7 (show 0<=left from hl),aa8] at ho
   rw[aa7 (show i<(rs.length:Int) from hi),aa7 hl,aW (n:=i+1) (by omega) (by omega)]
   simp only[aD,an,aa2,aa1]
   refine⟨⟨h3,trivial⟩,⟨trivial,by omega⟩,_,?_,⟨ds,rs,lU (sH (nth rs i.toNat)) left,i+1⟩,rfl,⟨by simp only;omega,by simp only;omega,by simp only;omega,by simp only;omega⟩,rfl,?_⟩
   ·simp only;omega
   ·simp only[x6,Out.run,show(i+1).toNat=i.toNat+1 by omega]
    exact ho
  ·rw[aa5 (show ¬ 0<=left from hl),aa6] at ho
   rw[aa7 (show i<(rs.length:Int) from hi),aa5 hl]
   exact ho
 ·rw[aa9 (by omega)] at ho
  rw[aa5 (show ¬ i<(rs.length:Int) from hi)]
  exact ho
noncomputable def Im(κ:Kp):Env:=(zb κ).ak 26 8 (aP 0 Ix Es x6)
theorem Wl(κ:Kp):aB (Im κ):=(Vu κ).ak (SI κ) (U7 κ)
theorem RP(κ:Kp):aj (Im κ):=(SI κ).ak aF
theorem y22(κ:Kp)(ds rs:List AV)(K:AV->List Dn.Obj->Prop):(a9 (Im κ) 12 26 [.agg [.ad 61 ds, .ad 66 rs]] [] K)=(
 letI z1:=K (AV.int 0) []
 letI z2:=Pg.toProgram (Env.P (LV κ))
 letI z3:=Pg.toProgram (Env.P (zb κ))
 af z2 26 3=af z2 26 3/\∃(e1:Ik),sp 62 [(1,AV.ptr 0 0 [] 0),(3,AV.int 2000),(4,AV.int 0)] [Obj.box 25 (AV.agg [AV.ad 61 ds,AV.ad 66 rs])]=sp 62
 [(1,AV.ptr 0 0 [] 0),(3,AV.int e1.left),(4,AV.int e1.i)] [Obj.box 25 (AV.agg [AV.ad 61 e1.ds,AV.ad 66 e1.rs])]/\(e1.ds.length<=9223372036854775807/\(∀
 (e0:AV),List.Mem e0 e1.ds->List.length (ai (ae e0 1))<=9223372036854775807)/\(0:Int)<=e1.i/\e1.i<=(↑(e1.ds.length):Int))/\aD (List.any (List.drop
 e1.i.toNat e1.ds) GX) z1 (af z3 26 8=af z3 26 8/\∃(e0:Ik),sp 62 [(1,AV.ptr 0 0 [] 0),(3,AV.int e1.left),(5,AV.int 0)] [Obj.box 25 (AV.agg [AV.ad 61
 e1.ds,AV.ad 66 e1.rs])]=sp 62 [(1,AV.ptr 0 0 [] 0),(3,AV.int e0.left),(5,AV.int e0.i)] [Obj.box 25 (AV.agg [AV.ad 61 e0.ds,AV.ad 66 e0.rs])]/\((-1:
 Int)<=e0.left/\e0.i+e0.left<=(100000:Int)/\(0:Int)<=e0.i/\e0.i<=(↑(e0.rs.length):Int))/\aD (decide (lJ (List.map sH (List.drop e0.i.toNat
 e0.rs)) e0.left<(0:Int))) z1 (aD (decide ((↑(e0.ds.length):Int)>(100:Int))) z1 (aD (decide ((↑(e0.rs.length):Int)>(300:Int))) z1 (K (AV.int 1)
 []))))):=by kernel_rfl
def VB:List AV->Option (Bool×AV)
 |[.agg [.ad 61 ds, .ad 66 rs]]=>some (decide (ds.length<=aR)&&ds.all (fun d=>decide ((ai (ae d 1)).length<=aR)), .int (bif jK ds rs then 1 else 0))
 |_=>none
theorem p22(κ:Kp):c9 (Im κ) 12 26 VB:=by
 intro args x hh
 unfold VB at hh
 split at hh
 ·rename_i ds rs
  simp only[aa4,ab0,aa2,aa1,List.all_eq_true] at hh
  obtain⟨⟨h1,h2⟩,rfl⟩:=hh
  refine⟨_,rfl,rfl,?_⟩
  refine Eq.mpr (y22 κ ds rs _) ?_
  refine⟨rfl,⟨ds,rs,2000,0⟩,rfl,⟨h1,h2,by simp only;omega,by simp only;omega⟩,?_⟩
  simp only[ab8,ab1,ah]
  refine⟨fun e=>?_,fun e=>⟨trivial,⟨ds,rs,2000,0⟩,rfl,⟨by simp only;omega,by simp only;omega,by simp only;omega,by simp only;omega⟩,?_⟩⟩
  ·unfold jK;rw[e];rfl
  ·simp only[ab8,ab1,aa1,aa3]
   refine⟨fun e1=>?_,fun e1=>⟨fun e2=>?_,fun e2=>⟨fun e3=>?_,fun e3=>?_⟩⟩⟩
   ·unfold jK;rw[e,aa5 (show ¬ 0<=lJ (rs.map sH) 2000 by omega)];rfl
   ·unfold jK;rw[aa5 (show ¬ ds.length<=100 by omega)];simp
   ·unfold jK;rw[aa5 (show ¬ rs.length<=300 by omega)];simp
   ·unfold jK;rw[e,aa7 (show 0<=lJ (rs.map sH) 2000 by omega),aa7 (show ds.length<=100 by omega),aa7 (show rs.length<=300 by omega)];rfl
 ·cases hh
noncomputable def Vc(κ:Kp):Env:=(Im κ).aH 26 VB
theorem e22(κ:Kp):aB (Vc κ):=(Wl κ).aH (RP κ) (p22 κ)
theorem YF(κ:Kp):aj (Vc κ):=(RP κ).aH
noncomputable abbrev E9(κ:Kp):Env:=Vc κ
theorem e9(κ:Kp):aB (E9 κ):=e22 κ
theorem m9(κ:Kp):aj (E9 κ):=YF κ
abbrev WM(s:ByteArray):AV:= .agg [.int 1, .lit (.string s), .int 0, .ad 56 []]
theorem y13(κ:Kp)(s:ByteArray)(K:AV->List Dn.Obj->Prop):(a9 (E9 κ) 12 92 [.lit (.string s)] [] K)=(
 K (AV.agg [AV.int 1,AV.str s,AV.int 0,AV.ad 56 []]) []):=by kernel_rfl
def Ws:List AV->Option (Bool×AV)
 |[.lit (.string s)]=>some (true,WM s)
 |_=>none
theorem c13(κ:Kp):pY (E9 κ) 12 92 Ws:=by
 intro args x hh
 unfold Ws at hh
 split at hh
 ·rename_i s
  simp only[aa4,ab0,true_and] at hh
  subst hh
  exact⟨rfl,Eq.mpr (y13 κ s _) rfl⟩
 ·cases hh
noncomputable def RE(κ:Kp):Env:=(E9 κ).eW 92 Ws
theorem e13(κ:Kp):aB (RE κ):=(e9 κ).eW (m9 κ) (c13 κ)
theorem Yi(κ:Kp):aj (RE κ):=(m9 κ).eW
theorem Zi(κ:Kp)(r s t:ByteArray)(K:AV->List Dn.Obj->Prop):(a9 (RE κ) 12 53 [.lit (.string r), .lit (.string s), .lit (.string t)] [] K)=(
 K (AV.agg [AV.str r,AV.ad 56 [AV.agg [AV.int 1,AV.str s,AV.int 0,AV.ad 56 []],AV.agg [AV.int 1,AV.str t,AV.int 0,AV.ad 56 []]]]) []):=by kernel_rfl
def Vg:List AV->Option (Bool×AV)
 |[.lit (.string r), .lit (.string s), .lit (.string t)]=>some (true, .agg [.lit (.string r), .ad 56 [WM s,WM t]])
 |_=>none
theorem c14(κ:Kp):pY (RE κ) 12 53 Vg:=by
 intro args x hh
 unfold Vg at hh
 split at hh
 ·rename_i r s t
  simp only[aa4,ab0,true_and] at hh
  subst hh
  exact⟨rfl,Eq.mpr (Zi κ r s t _) rfl⟩
 ·cases hh
noncomputable def L1(κ:Kp):Env:=(RE κ).eW 53 Vg
theorem e14(κ:Kp):aB (L1 κ):=(e13 κ).eW (Yi κ) (c14 κ)
theorem Xt(κ:Kp):aj (L1 κ):=(Yi κ).eW
theorem x15(κ:Kp)(l m:List AV)(i:Int)(I:Nat->S->Prop)(n:Nat)(K:Exit->S->Prop):(vc (L1 κ) 12 16 none 0 (af (Pr κ).toProgram 16 4) (sp 26 [(0, .ad 3 l),(1, .ad 3 m),(5, .int i)] []) (bH (L1 κ) 16 4 0 I n K))=(
 letI z1:=i<(↑(l.length):Int)
 aD (decide z1) (a7 (decide ((0:Int)<=i)&&decide z1) (a7 (decide ((0:Int)<=i)&&decide (i<(↑(m.length):Int))) (aD (toInt (nth l i.toNat) != toInt
 (nth m i.toNat)) (K Exit.ret (sp 26 [(4,AV.bool false)] [])) (∃(e0:Nat),e0<n/\I e0 (sp 26 [(0,AV.ad 3 l),(1,AV.ad 3 m),(5,AV.int (IntKind.wrap
 IntKind.i64 (i+(1:Int))))] []))))) (K (Exit.exit 0) (sp 26 [] []))):=by kernel_rfl
def o9(l m:List AV):Bool:=decide (l.map toInt=m.map toInt)
abbrev Ov(a:List AV×List AV×Int):S:=sp 26 [(0, .ad 3 a.1),(1, .ad 3 a.2.1),(5, .int a.2.2)] []
def Gg(a:List AV×List AV×Int):Prop:=a.1.length=a.2.1.length/\a.1.length<=aR/\0<=a.2.2/\a.2.2<=a.1.length
def yM(a:List AV×List AV×Int):Out (Exit×S):= .aD (o9 (a.1.drop a.2.2.toNat) (a.2.1.drop a.2.2.toNat)) (.one (.exit 0,sp 26 [] [])) (.one (.ret,sp 26 [(4, .bool false)] []))
theorem l15(κ:Kp):bh (L1 κ) 12 16 4 (aP 0 Ov Gg yM):=by
 refine aL (fun a=>a.1.length - a.2.2.toNat) ?_
 rintro⟨l,m,i⟩ K ⟨h1,h2,h3,h4⟩ ho
 simp only at h1 h2 h3 h4
 rw[show(L1 κ).P=Pr κ from rfl]
 refine Eq.mpr (x15 κ l m i _ _ K) ?_
 simp only[aR] at h2
 simp only[yM,Out.run,ah] at ho
 simp only[ah,an,aa1,aa3,aa2,bne_iff_ne,bne_eq_false_iff_eq]
 refine⟨fun hi=>⟨⟨h3,hi⟩,⟨h3,by omega⟩,?_⟩,fun hi=>?_⟩
 ·rw[ab2 (show i.toNat<l.length by omega),←bg l i.toNat (by omega),ab2 (show i.toNat<m.length by omega),←bg m i.toNat (by omega)] at ho
  simp only[o9,ac1,List.cons.injEq] at ho
  refine⟨fun e=>ho.2 (by simp[e]),fun e=>?_⟩
  rw[aW (n:=i+1) (by omega) (by omega)]
  refine⟨_,?_,(l,m,i+1),rfl,⟨h1,by simpa[aR] using h2,by simp only;omega,by simp only;omega⟩,rfl,?_⟩
  ·simp only;omega
  ·simp only[yM,Out.run,ah,show(i+1).toNat=i.toNat+1 by omega,o9]
   simpa[e] using ho
 ·rw[aa9 (by omega),aa9 (by omega)] at ho
  exact ho.1 rfl
noncomputable def KY(κ:Kp):Env:=(L1 κ).ak 16 4 (aP 0 Ov Gg yM)
theorem Wc(κ:Kp):aB (KY κ):=(e14 κ).ak (Xt κ) (l15 κ)
theorem RV(κ:Kp):aj (KY κ):=(Xt κ).ak aF
theorem Zj(κ:Kp)(l m:List AV)(K:AV->List Dn.Obj->Prop):(a9 (KY κ) 12 16 [.ad 3 l, .ad 3 m] [] K)=(
 letI z1:=Pg.toProgram (Env.P (L1 κ))
 aD ((↑(l.length):Int) != (↑(m.length):Int)) (K (AV.bool false) []) (af z1 16 4=af z1 16 4/\∃(e0:List AV×List AV×Int),sp 26 [(0,AV.ad 3 l),(1,
 AV.ad 3 m),(5,AV.int 0)] []=sp 26 [(0,AV.ad 3 e0.1),(1,AV.ad 3 e0.2.1),(5,AV.int e0.2.2)] []/\(e0.1.length=e0.2.1.length/\e0.1.length<=
 9223372036854775807/\(0:Int)<=e0.2.2/\e0.2.2<=(↑(e0.1.length):Int))/\aD (o9 (List.drop (Int.toNat e0.2.2) e0.1) (List.drop (Int.toNat e0.2.2) e0.2.1))
 (K (AV.bool true) []) (K (AV.bool false) []))):=by kernel_rfl
def V8:List AV->Option (Bool×AV)
 |[.ad 3 l, .ad 3 m]=>some (decide (l.length<=aR), .bool (o9 l m))
 |_=>none
theorem p15(κ:Kp):c9 (KY κ) 12 16 V8:=by
 intro args x hh
 unfold V8 at hh
 split at hh
 ·rename_i l m
  simp only[aa4,ab0,aa1] at hh
  obtain⟨h1,rfl⟩:=hh
  refine⟨_,rfl,rfl,?_⟩
  refine Eq.mpr (Zj κ l m _) ?_
  simp only[ah,bne_iff_ne,bne_eq_false_iff_eq]
  refine⟨fun e=>?_,fun e=>⟨trivial,(l,m,0),rfl,⟨by simp only;omega,h1,by simp only;omega,by simp only;omega⟩,?_⟩⟩
  ·have:o9 l m=false:=by
    unfold o9
    rw[aa5]
    intro h
    have:=congrArg List.length h
    simp at this;omega
   rw[this]
  ·simp only[ab8,ab1]
   exact⟨fun e=>by rw[e],fun e=>by rw[e]⟩
 ·cases hh
noncomputable def Ve(κ:Kp):Env:=(KY κ).aH 16 V8
theorem Y6(κ:Kp):aB (Ve κ):=(Wc κ).aH (RV κ) (p15 κ)
theorem m15(κ:Kp):aj (Ve κ):=(RV κ).aH
end Go.Proofs.YthaiinlfnommnaaGreatDoor
namespace Go.Proofs.YthaiinlfnommnaaGreatDoor
open Go Go.Dn Go.Rl Go.Proofs
theorem nN{b c:Bool}(h:b=c):AV.bool b= .lit (.bool c):=by rw[h]
theorem NQ(a b:Int):(a==b)=decide (a=b):=by by_cases h:a=b<;>simp[h]
theorem KS(a b:Int):(a != b)= !decide (a=b):=by by_cases h:a=b<;>simp[h]
structure AT where
 op:Int
 s:ByteArray
 n:Int
 l:List AV
def AT.tm(a:AT):Tm:= .mk a.op a.s a.n (aa a.l)
def wv(x:AV):AT:=⟨toInt (ae x 0),toStr (ae x 1),toInt (ae x 2),ai (ae x 3)⟩
theorem nQ(x:AV):(wv x).tm=cM x:=by rw[da];rfl
abbrev cv(a:AT):AV:= .agg [.int a.op, .lit (.string a.s), .int a.n, .ad 56 a.l]
theorem x1{a:cg}(h:cV a):(cP (aG a)).length<=100000:=by
 have h6:=cr (aa (bc 56 a.hl a.bl))
 rw[ig 56 a.rel a.hl a.bl] at h6
 have h7:=kt (fc (aG a)) []
 unfold cP
 cases aK (aG a)
 ·exact Nat.zero_le _
 ·rw[aa8];exact Nat.le_trans h7 (Nat.le_trans h6 h.1)
end Go.Proofs.YthaiinlfnommnaaGreatDoor
