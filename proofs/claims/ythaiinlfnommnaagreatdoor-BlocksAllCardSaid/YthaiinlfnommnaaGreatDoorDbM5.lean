import Derived.Test.YthaiinlfnommnaaGreatDoorDbM4
import Derived.Test.YthaiinlfnommnaaGreatDoorDbM1
namespace Go.Proofs.YthaiinlfnommnaaGreatDoor
open Go Go.Dn Go.Rl Go.Proofs
attribute [local irreducible] bf vc
set_option maxRecDepth 20000
noncomputable abbrev lp8(a:cq)(ws:List AV)(κ:Kp)(st:LoopState)(p:Option Code):Dn.Obj:=
 .loop (gj (Pr κ).toProgram 74 5 st p (fU (bJ 63) [(0,aq a),(1, .ptr 0 0 [] 0),(2, .ptr 1 0 [] 0),(3, .ptr 2 0 [] 0),(4, .ar 3 0 ws.length),(5, .int 0),(10, .bp [.ar 3 0 ws.length, .int 0]),(11,aq a),(12, .bp [.ar 3 0 ws.length, .int 0]),(13, .ar 3 0 ws.length),(14, .int 0),(15, .int 0),(16, .bool false),(18,aq a),(19, .bQ 186 [.ptr 4 0 [] 0])]))
noncomputable abbrev Ea(κ:Kp)(a:cq)(ws:List AV)(b:Bool)(st:LoopState)(p:Option Code):List Dn.Obj:=[.box 66 (aq a), .box 4 (.bool b), .box 29 (.int 0), .row 3 ws, .box 66 (aq a),lp8 a ws κ st p]
theorem x8(κ:Kp)(a:cq)(ws:List AV)(es:List (Value×AV))(done:List AV)(i:Int)(I:Nat->S->Prop)(n:Nat)(K:Exit->S->Prop):(vc (Oh κ) 12 186 none 6 (ah (Pr κ).toProgram 186 3) (sp 38 [(0, .cK 5),(1, .ptr 4 0 [] 0),(3, .mp 6),(4, .ar 7 0 done.length),(13, .int a.bl.length),(14, .int i)] (Ea κ a ws false .ready none++[.map 9 4 es, .row 4 done])) (bL (Oh κ) 186 3 6 I n K))=(
 letI z1:=fU (bJ 63) [(0,aq a),(1,AV.ptr 0 0 [] 0),(2,AV.ptr 1 0 [] 0),(3,AV.ptr 2 0 [] 0),(4,AV.ar 3 0 ws.length),(5,AV.int 0),(10,AV.bp [AV.ar 3
  0 ws.length,AV.int 0]),(11,aq a),(12,AV.bp [AV.ar 3 0 ws.length,AV.int 0]),(13,AV.ar 3 0 ws.length),(14,AV.int 0),(15,AV.int 0),(16,AV.bool
  false),(18,aq a),(19,AV.bQ 186 [AV.ptr 4 0 [] 0])]
 letI z3:=gj Tryz.prog 74 5 LoopState.ready none z1
 letI z4:=IntKind.wrap IntKind.i64 (i+(1:Int))
 letI z6:=a.bl.length
 letI z7:=AV.bool false
 letI z5:=sp 38 [] [Obj.box 66 (aq a),Obj.box 4 z7,Obj.box 29 (AV.int 0),Obj.row 3 ws,Obj.box 66 (aq a),Dn.Obj.loop z3]
 letI z8:=AV.bool true
 letI z2:=K Exit.ret (sp 38 [] [Obj.box 66 (aq a),Obj.box 4 z8,Obj.box 29 (AV.int 0),Obj.row 3 ws,Obj.box 66 (aq a),Dn.Obj.loop (gj Tryz.prog 74 5
  LoopState.done (some Code.ret) z1)])
 letI z9:=done.length
 letI z10:=Value×AV
 aC (decide (i<(↑z6:Int))) (∃(e5:Jn),([aq a,AV.ar 0 0 done.length,AV.mp 1],[Obj.row 4 done,Dn.Obj.map 9 4 es])=([aq e5.a,AV.ar 0 0 (List.length
 (cj e5.done)),AV.mp 1],[Obj.row 4 (cj e5.done),Dn.Obj.map 9 4 (b7 e5.b)])/\(aQ (aH e5.a)=true/\(aO (aa (bn 56 e5.a.hl e5.a.bl))<=100000/\List.length
 e5.a.bl<=100000)/\e5.done.length=List.length e5.a.bl)/\aC (decide (aF (aH e5.a) e5.done e5.b<(0:Int))) (K Exit.ret z5) (ba (decide ((0:Int)<=aF (aH
 e5.a) e5.done e5.b)&&decide (aF (aH e5.a) e5.done e5.b<(↑z6:Int))) (aC (toInt (ae (nth a.bl (Int.toNat (aF (aH e5.a) e5.done e5.b))) 0)==(3:Int)) (∃
 (e4:TA),([AV.mp 0,AV.agg [AV.int (toInt (ae (ae (nth a.bl (Int.toNat (aF (aH e5.a) e5.done e5.b))) 2) 0)),AV.str (toStr (ae (ae (nth a.bl (Int.toNat (aF
 (aH e5.a) e5.done e5.b))) 2) 1)),AV.int (toInt (ae (ae (nth a.bl (Int.toNat (aF (aH e5.a) e5.done e5.b))) 2) 2)),AV.ad 56 (ai (ae (ae (nth a.bl (Int.toNat (aF
 (aH e5.a) e5.done e5.b))) 2) 3))],AV.agg [AV.int (toInt (ae (ae (nth a.bl (Int.toNat (aF (aH e5.a) e5.done e5.b))) 3) 0)),AV.str (toStr (ae (ae (nth a.bl
 (Int.toNat (aF (aH e5.a) e5.done e5.b))) 3) 1)),AV.int (toInt (ae (ae (nth a.bl (Int.toNat (aF (aH e5.a) e5.done e5.b))) 3) 2)),AV.ad 56 (ai (ae (ae (nth a.bl
 (Int.toNat (aF (aH e5.a) e5.done e5.b))) 3) 3))]],[Dn.Obj.map 9 4 (b7 e5.b)])=([AV.mp 0,AV.agg [AV.int e4.o1,AV.str e4.s1,AV.int e4.n1,AV.ad 56 e4.l1],
 AV.agg [AV.int e4.o2,AV.str e4.s2,AV.int e4.n2,AV.ad 56 e4.l2]],[Dn.Obj.map 9 4 e4.es])/\je e4/\aC (lU e4.es (TA.x e4) (TA.y e4)) (aC (decide (toInt (ae
 (ae (nth a.bl (Int.toNat (aF (aH e5.a) e5.done e5.b))) 3) 0)>=(5:Int))) z2 (∃(e3:TA),([AV.mp 0,AV.agg [AV.int (toInt (ae (ae (nth a.bl (Int.toNat (aF
 (aH e5.a) e5.done e5.b))) 3) 0)),AV.str (toStr (ae (ae (nth a.bl (Int.toNat (aF (aH e5.a) e5.done e5.b))) 3) 1)),AV.int (toInt (ae (ae (nth a.bl (Int.toNat
 (aF (aH e5.a) e5.done e5.b))) 3) 2)),AV.ad 56 (ai (ae (ae (nth a.bl (Int.toNat (aF (aH e5.a) e5.done e5.b))) 3) 3))],AV.agg [AV.int (toInt (ae (ae (nth a.bl
 (Int.toNat (aF (aH e5.a) e5.done e5.b))) 2) 0)),AV.str (toStr (ae (ae (nth a.bl (Int.toNat (aF (aH e5.a) e5.done e5.b))) 2) 1)),AV.int (toInt (ae (ae (nth
 a.bl (Int.toNat (aF (aH e5.a) e5.done e5.b))) 2) 2)),AV.ad 56 (ai (ae (ae (nth a.bl (Int.toNat (aF (aH e5.a) e5.done e5.b))) 2) 3))]],[Dn.Obj.map 9 4 e4.es])
 =([AV.mp 0,AV.agg [AV.int e3.o1,AV.str e3.s1,AV.int e3.n1,AV.ad 56 e3.l1],AV.agg [AV.int e3.o2,AV.str e3.s2,AV.int e3.n2,AV.ad 56 e3.l2]],[Dn.Obj.map
 9 4 e3.es])/\je e3/\aC (lU e3.es (TA.x e3) (TA.y e3)) (aC (decide (toInt (ae (ae (nth a.bl (Int.toNat (aF (aH e5.a) e5.done e5.b))) 2) 0)>=(5:Int))) z2 (aC
 (decide ((7:Int)<=toInt (ae (nth a.bl (Int.toNat (aF (aH e5.a) e5.done e5.b))) 0))) z2 (ba (decide ((0:Int)<=aF (aH e5.a) e5.done e5.b)&&decide (aF (aH
 e5.a) e5.done e5.b<(↑z9:Int))) (∃(e2:cq×Int),([aq a,AV.int (aF (aH e5.a) e5.done e5.b)],aJ)=([aq e2.1,AV.int e2.2],aJ)/\(aQ (aH e2.1)=true/\
 (aO (aa (bn 56 e2.1.hl e2.1.bl))<=100000/\e2.1.bl.length<=100000)/\(0:Int)<=e2.2/\e2.2<(↑(e2.1.bl.length):Int))/\∃(e1:List AV×List z10),
 ([AV.mp 0,AV.ad 9 (strs (db (aH e2.1) e2.2.toNat))],[Dn.Obj.map 9 4 e3.es])=([AV.mp 0,AV.ad 9 e1.1],[Dn.Obj.map 9 4 e1.2])/\br e1/\∃(e0:Nat),e0<n
 /\I e0 (sp 38 [(0,AV.cK 5),(1,AV.ptr 4 0 [] 0),(3,AV.mp 6),(4,AV.ar 7 0 done.length),(13,AV.int (↑z6:Int)),(14,AV.int z4)] [Obj.box 66 (aq a),
 Obj.box 4 z7,Obj.box 29 (AV.int 0),Obj.row 3 ws,Obj.box 66 (aq a),Dn.Obj.loop z3,Dn.Obj.map 9 4 (fA e1.2 e1.1),Obj.row 4 (cm (cj e5.done) (0+Int.toNat
 (aF (aH e5.a) e5.done e5.b)) z8)]))))) (aC (decide ((7:Int)<=toInt (ae (nth a.bl (Int.toNat (aF (aH e5.a) e5.done e5.b))) 0))) z2 (ba (decide ((0:Int)<=aF
 (aH e5.a) e5.done e5.b)&&decide (aF (aH e5.a) e5.done e5.b<(↑z9:Int))) (∃(e2:cq×Int),([aq a,AV.int (aF (aH e5.a) e5.done e5.b)],aJ)=([aq e2.1,
 AV.int e2.2],aJ)/\(aQ (aH e2.1)=true/\(aO (aa (bn 56 e2.1.hl e2.1.bl))<=100000/\e2.1.bl.length<=100000)/\(0:Int)<=e2.2/\e2.2<(↑(e2.1.bl.length):
 Int))/\∃(e1:List AV×List z10),([AV.mp 0,AV.ad 9 (strs (db (aH e2.1) e2.2.toNat))],[Dn.Obj.map 9 4 e3.es])=([AV.mp 0,AV.ad 9 e1.1],[Dn.Obj.map 9 4
 e1.2])/\br e1/\∃(e0:Nat),e0<n/\I e0 (sp 38 [(0,AV.cK 5),(1,AV.ptr 4 0 [] 0),(3,AV.mp 6),(4,AV.ar 7 0 done.length),(13,AV.int (↑z6:Int)),
 (14,AV.int z4)] [Obj.box 66 (aq a),Obj.box 4 z7,Obj.box 29 (AV.int 0),Obj.row 3 ws,Obj.box 66 (aq a),Dn.Obj.loop z3,Dn.Obj.map 9 4 (fA e1.2 e1.1),
 Obj.row 4 (cm (cj e5.done) (0+Int.toNat (aF (aH e5.a) e5.done e5.b)) z8)])))))) (∃(e3:TA),([AV.mp 0,AV.agg [AV.int (toInt (ae (ae (nth a.bl (Int.toNat
 (aF (aH e5.a) e5.done e5.b))) 3) 0)),AV.str (toStr (ae (ae (nth a.bl (Int.toNat (aF (aH e5.a) e5.done e5.b))) 3) 1)),AV.int (toInt (ae (ae (nth a.bl
 (Int.toNat (aF (aH e5.a) e5.done e5.b))) 3) 2)),AV.ad 56 (ai (ae (ae (nth a.bl (Int.toNat (aF (aH e5.a) e5.done e5.b))) 3) 3))],AV.agg [AV.int (toInt (ae (ae
 (nth a.bl (Int.toNat (aF (aH e5.a) e5.done e5.b))) 2) 0)),AV.str (toStr (ae (ae (nth a.bl (Int.toNat (aF (aH e5.a) e5.done e5.b))) 2) 1)),AV.int (toInt (ae
 (ae (nth a.bl (Int.toNat (aF (aH e5.a) e5.done e5.b))) 2) 2)),AV.ad 56 (ai (ae (ae (nth a.bl (Int.toNat (aF (aH e5.a) e5.done e5.b))) 2) 3))]],[Dn.Obj.map 9 4
 e4.es])=([AV.mp 0,AV.agg [AV.int e3.o1,AV.str e3.s1,AV.int e3.n1,AV.ad 56 e3.l1],AV.agg [AV.int e3.o2,AV.str e3.s2,AV.int e3.n2,AV.ad 56 e3.l2]],
 [Dn.Obj.map 9 4 e3.es])/\je e3/\aC (lU e3.es (TA.x e3) (TA.y e3)) (aC (decide (toInt (ae (ae (nth a.bl (Int.toNat (aF (aH e5.a) e5.done e5.b))) 2) 0)>=(5:
 Int))) z2 (aC (decide ((7:Int)<=toInt (ae (nth a.bl (Int.toNat (aF (aH e5.a) e5.done e5.b))) 0))) z2 (ba (decide ((0:Int)<=aF (aH e5.a) e5.done e5.b)&&
 decide (aF (aH e5.a) e5.done e5.b<(↑z9:Int))) (∃(e2:cq×Int),([aq a,AV.int (aF (aH e5.a) e5.done e5.b)],aJ)=([aq e2.1,AV.int e2.2],aJ)/\(aQ (aH
 e2.1)=true/\(aO (aa (bn 56 e2.1.hl e2.1.bl))<=100000/\e2.1.bl.length<=100000)/\(0:Int)<=e2.2/\e2.2<(↑(e2.1.bl.length):Int))/\∃(e1:List AV×
 List z10),([AV.mp 0,AV.ad 9 (strs (db (aH e2.1) e2.2.toNat))],[Dn.Obj.map 9 4 e3.es])=([AV.mp 0,AV.ad 9 e1.1],[Dn.Obj.map 9 4 e1.2])/\br e1/\∃(e0:
 Nat),e0<n/\I e0 (sp 38 [(0,AV.cK 5),(1,AV.ptr 4 0 [] 0),(3,AV.mp 6),(4,AV.ar 7 0 done.length),(13,AV.int (↑z6:Int)),(14,AV.int z4)] [Obj.box 66
 (aq a),Obj.box 4 z7,Obj.box 29 (AV.int 0),Obj.row 3 ws,Obj.box 66 (aq a),Dn.Obj.loop z3,Dn.Obj.map 9 4 (fA e1.2 e1.1),Obj.row 4 (cm (cj e5.done) (0+
 Int.toNat (aF (aH e5.a) e5.done e5.b)) z8)]))))) (aC (decide ((7:Int)<=toInt (ae (nth a.bl (Int.toNat (aF (aH e5.a) e5.done e5.b))) 0))) z2 (ba (decide ((0:
 Int)<=aF (aH e5.a) e5.done e5.b)&&decide (aF (aH e5.a) e5.done e5.b<(↑z9:Int))) (∃(e2:cq×Int),([aq a,AV.int (aF (aH e5.a) e5.done e5.b)],aJ)=
 ([aq e2.1,AV.int e2.2],aJ)/\(aQ (aH e2.1)=true/\(aO (aa (bn 56 e2.1.hl e2.1.bl))<=100000/\e2.1.bl.length<=100000)/\(0:Int)<=e2.2/\e2.2<
 (↑(e2.1.bl.length):Int))/\∃(e1:List AV×List z10),([AV.mp 0,AV.ad 9 (strs (db (aH e2.1) e2.2.toNat))],[Dn.Obj.map 9 4 e3.es])=([AV.mp 0,AV.ad 9
 e1.1],[Dn.Obj.map 9 4 e1.2])/\br e1/\∃(e0:Nat),e0<n/\I e0 (sp 38 [(0,AV.cK 5),(1,AV.ptr 4 0 [] 0),(3,AV.mp 6),(4,AV.ar 7 0 done.length),(13,
 AV.int (↑z6:Int)),(14,AV.int z4)] [Obj.box 66 (aq a),Obj.box 4 z7,Obj.box 29 (AV.int 0),Obj.row 3 ws,Obj.box 66 (aq a),Dn.Obj.loop z3,Dn.Obj.map 9 4
 (fA e1.2 e1.1),Obj.row 4 (cm (cj e5.done) (0+Int.toNat (aF (aH e5.a) e5.done e5.b)) z8)])))))) (aC (decide ((7:Int)<=toInt (ae (nth a.bl (Int.toNat (aF
 (aH e5.a) e5.done e5.b))) 0))) z2 (ba (decide ((0:Int)<=aF (aH e5.a) e5.done e5.b)&&decide (aF (aH e5.a) e5.done e5.b<(↑z9:Int))) (∃(e2:cq×Int),
 ([aq a,AV.int (aF (aH e5.a) e5.done e5.b)],aJ)=([aq e2.1,AV.int e2.2],aJ)/\(aQ (aH e2.1)=true/\(aO (aa (bn 56 e2.1.hl e2.1.bl))<=100000/\
 e2.1.bl.length<=100000)/\(0:Int)<=e2.2/\e2.2<(↑(e2.1.bl.length):Int))/\∃(e1:List AV×List z10),([AV.mp 0,AV.ad 9 (strs (db (aH e2.1)
 e2.2.toNat))],[Dn.Obj.map 9 4 (b7 e5.b)])=([AV.mp 0,AV.ad 9 e1.1],[Dn.Obj.map 9 4 e1.2])/\br e1/\∃(e0:Nat),e0<n/\I e0 (sp 38 [(0,AV.cK 5),(1,
 AV.ptr 4 0 [] 0),(3,AV.mp 6),(4,AV.ar 7 0 done.length),(13,AV.int (↑z6:Int)),(14,AV.int z4)] [Obj.box 66 (aq a),Obj.box 4 z7,Obj.box 29 (AV.int 0),
 Obj.row 3 ws,Obj.box 66 (aq a),Dn.Obj.loop z3,Dn.Obj.map 9 4 (fA e1.2 e1.1),Obj.row 4 (cm (cj e5.done) (0+Int.toNat (aF (aH e5.a) e5.done e5.b))
 z8)]))))))) (K (Exit.exit 0) z5)):=by kernel_rfl
structure A8 where
 a:cq
 ws:List AV
 done:List Bool
 b:List ByteArray
 i:Int
noncomputable abbrev Pe(κ:Kp)(a:A8):S:=sp 38 [(0, .cK 5),(1, .ptr 4 0 [] 0),(3, .mp 6),(4, .ar 7 0 (cj a.done).length),(13, .int a.a.bl.length),(14, .int a.i)] (Ea κ a.a a.ws false .ready none++[.map 9 4 (b7 a.b), .row 4 (cj a.done)])
def Fs(a:A8):Prop:=aQ (aH a.a)=true/\df a.a/\0<=a.i/\a.i<=a.a.bl.length/\a.done.length=a.a.bl.length
noncomputable def IV(a:A8):Bool:=J3 (aH a.a) (a.a.bl.length - a.i.toNat) a.done a.b
noncomputable def BF(κ:Kp)(a:A8):Out (Exit×S):= .aC (IV a) (.one (.ret,sp 38 [] (Ea κ a.a a.ws true .done (some .ret)))) (.all (fun _:Bool=>True) fun e=> .aC e (.one (.ret,sp 38 [] (Ea κ a.a a.ws false .ready none))) (.one (.exit 0,sp 38 [] (Ea κ a.a a.ws false .ready none))))
theorem IG(r:Rl)(n:Nat)(done:List Bool)(b:List ByteArray):J3 r (n+1) done b=
  bif decide (aF r done b<0) then false else IJ r b (aF r done b).toNat||J3 r n (done.set (aF r done b).toNat true) (b++db r (aF r done b).toNat):=rfl
theorem l8(κ:Kp):bk (Oh κ) 12 186 3 (aP 6 (Pe κ) Fs (BF κ)):=by
 refine aL (fun a=>a.a.bl.length - a.i.toNat) ?_
 rintro⟨a,ws,done,b,i⟩ K ⟨h1,h2,h3,h4,h5⟩ ho
 simp only at h1 h2 h3 h4 h5
 rw[show(Oh κ).P=Pr κ from rfl]
 refine Eq.mpr (x8 κ a ws (b7 b) (cj done) i _ _ K) ?_
 simp only[BF,Out.run,af,IV] at ho
 simp only[and_self]
 have hbl:=jA done
 have hl:=h2.2
 rw[af,aa2,aa4]
 refine⟨fun hi=>⟨⟨a,done,b,0,0⟩,rfl,⟨h1,h2,h5⟩,?_⟩,fun hi=>?_⟩
 ·have hw:=IG (aH a) (a.bl.length - (i.toNat+1)) done b
  rw[show a.bl.length - (i.toNat+1)+1=a.bl.length - i.toNat by omega] at hw
  rw[af,aa2,aa4]
  refine⟨fun e=>?_,fun e=>?_⟩
  ·rw[hw,aa8 e] at ho
   exact(ho.2 rfl true trivial).1 rfl
  ·rw[hw,aa6 e,aa7] at ho
   rcases pU (aH a) done b with e0|⟨e1,e2,e3,_⟩
   ·rw[e0] at e;omega
   have e2':=e2
   rw[fB] at e2'
   have hg:=sn h2 e2'
   have hlit:=kO h2 e2'
   have e2i:aF (aH a) done b<a.bl.length:=by omega
   have hsd:br (strs (db (aH a) (aF (aH a) done b).toNat),b7 b):=by simp only[br,aX,aM];omega
   have hbnd:(decide (0<=aF (aH a) done b)&&decide (aF (aH a) done b<(a.bl.length:Int)))=true:=by simp[e1,e2i]
   have hbnd2:(decide (0<=aF (aH a) done b)&&decide (aF (aH a) done b<((cj done).length:Int)))=true:=by rw[hbl,h5];exact hbnd
   have hlc:iS (cU (nth a.bl (aF (aH a) done b).toNat))=aO [cx (ae (nth a.bl (aF (aH a) done b).toNat) 2),cx (ae (nth a.bl (aF (aH a) done b).toNat) 3)]+aO (aa (ai (ae (ae (nth a.bl (aF (aH a) done b).toNat) 1) 1))):=rfl
   have hcx:aO [cx (ae (nth a.bl (aF (aH a) done b).toNat) 2)]<=100000/\aO [cx (ae (nth a.bl (aF (aH a) done b).toNat) 3)]<=100000:=by
    simp only[aO] at hlc⊢;omega
   have hx1:je (lO (ae (nth a.bl (aF (aH a) done b).toNat) 2) (ae (nth a.bl (aF (aH a) done b).toNat) 3) (b7 b)):=by unfold je lO;rw[oA];exact hcx.2
   have hx2:je (lO (ae (nth a.bl (aF (aH a) done b).toNat) 3) (ae (nth a.bl (aF (aH a) done b).toNat) 2) (b7 b)):=by unfold je lO;rw[oA];exact hcx.1
   have ta1:lU (lO (ae (nth a.bl (aF (aH a) done b).toNat) 2) (ae (nth a.bl (aF (aH a) done b).toNat) 3) (b7 b)).es (lO (ae (nth a.bl (aF (aH a) done b).toNat) 2) (ae (nth a.bl (aF (aH a) done b).toNat) 3) (b7 b)).x (lO (ae (nth a.bl (aF (aH a) done b).toNat) 2) (ae (nth a.bl (aF (aH a) done b).toNat) 3) (b7 b)).y=lQ b (cx (ae (nth a.bl (aF (aH a) done b).toNat) 2)) (cx (ae (nth a.bl (aF (aH a) done b).toNat) 3)):=by
    unfold lO;rw[zf,oA,oS]
   have ta2:lU (lO (ae (nth a.bl (aF (aH a) done b).toNat) 3) (ae (nth a.bl (aF (aH a) done b).toNat) 2) (b7 b)).es (lO (ae (nth a.bl (aF (aH a) done b).toNat) 3) (ae (nth a.bl (aF (aH a) done b).toNat) 2) (b7 b)).x (lO (ae (nth a.bl (aF (aH a) done b).toNat) 3) (ae (nth a.bl (aF (aH a) done b).toNat) 2) (b7 b)).y=lQ b (cx (ae (nth a.bl (aF (aH a) done b).toNat) 3)) (cx (ae (nth a.bl (aF (aH a) done b).toNat) 2)):=by
    unfold lO;rw[zf,oA,oS]
   have hinv:IJ (aH a) b (aF (aH a) done b).toNat=((decide (toInt (ae (nth a.bl (aF (aH a) done b).toNat) 0)=3)&&(lQ b (cx (ae (nth a.bl (aF (aH a) done b).toNat) 2)) (cx (ae (nth a.bl (aF (aH a) done b).toNat) 3))&&decide (toInt (ae (ae (nth a.bl (aF (aH a) done b).toNat) 3) 0)>=5)||lQ b (cx (ae (nth a.bl (aF (aH a) done b).toNat) 3)) (cx (ae (nth a.bl (aF (aH a) done b).toNat) 2))&&decide (toInt (ae (ae (nth a.bl (aF (aH a) done b).toNat) 2) 0)>=5)))||decide (7<=toInt (ae (nth a.bl (aF (aH a) done b).toNat) 0))):=by
    have o1:(cx (ae (nth a.bl (aF (aH a) done b).toNat) 2)).op=toInt (ae (ae (nth a.bl (aF (aH a) done b).toNat) 2) 0):=by rw[cz];rfl
    have o2:(cx (ae (nth a.bl (aF (aH a) done b).toNat) 3)).op=toInt (ae (ae (nth a.bl (aF (aH a) done b).toNat) 3) 0):=by rw[cz];rfl
    unfold IJ
    rw[show(aH a).body=di a.bl from rfl,kC _ e2',show(cU (nth a.bl (aF (aH a) done b).toNat)).op=toInt (ae (nth a.bl (aF (aH a) done b).toNat) 0) from rfl,show(cU (nth a.bl (aF (aH a) done b).toNat)).x=cx (ae (nth a.bl (aF (aH a) done b).toNat) 2) from rfl,show(cU (nth a.bl (aF (aH a) done b).toNat)).y=cx (ae (nth a.bl (aF (aH a) done b).toNat) 3) from rfl,o1,o2]
   have h3t:(toInt (ae (nth a.bl (aF (aH a) done b).toNat) 0)==3)=true->decide (toInt (ae (nth a.bl (aF (aH a) done b).toNat) 0)=3)=true:=fun e=>by simpa using e
   have h3f:(toInt (ae (nth a.bl (aF (aH a) done b).toNat) 0)==3)=false->decide (toInt (ae (nth a.bl (aF (aH a) done b).toNat) 0)=3)=false:=fun e=>by simpa using e
   have ho1:IJ (aH a) b (aF (aH a) done b).toNat=true->K .ret (sp 38 [] (Ea κ a ws true .done (some .ret))):=fun e=>ho.1 (by rw[e];rfl)
   have nx:IJ (aH a) b (aF (aH a) done b).toNat=false->∃m,m<a.bl.length - i.toNat/\eY (Pe κ) Fs (BF κ) (fun a=>a.a.bl.length - a.i.toNat) K m (sp 38 [(0, .cK 5),(1, .ptr 4 0 [] 0),(3, .mp 6),(4, .ar 7 0 (cj done).length),(13, .int a.bl.length),(14, .int (IntKind.wrap .i64 (i+1)))] (Ea κ a ws false .ready none++[.map 9 4 (fA (b7 b) (strs (db (aH a) (aF (aH a) done b).toNat))), .row 4 (cm (cj done) (0+(aF (aH a) done b).toNat) (.lit (.bool true)))])):=by
    intro e
    rw[e,Bool.false_or] at ho
    rw[aW (n:=i+1) (by omega) (by omega)]
    refine⟨_,?_,⟨a,ws,done.set (aF (aH a) done b).toNat true,b++db (aH a) (aF (aH a) done b).toNat,i+1⟩,?_,⟨h1,h2,by simp only;omega,by simp only;omega,by simpa using h5⟩,rfl,?_⟩
    ·simp only;omega
    ·simp only[Pe,Nat.zero_add,qa,l6,jA,List.length_set]
    ·simp only[BF,Out.run,af,IV,show(i+1).toNat=i.toNat+1 by omega]
     exact ho
   rw[an]
   refine⟨hbnd,?_⟩
   rw[af]
   exact⟨fun f3=>⟨lO (ae (nth a.bl (aF (aH a) done b).toNat) 2) (ae (nth a.bl (aF (aH a) done b).toNat) 3) (b7 b),rfl,hx1,by
   rw[ta1]
   exact af.2 ⟨fun g1=>af.2 ⟨fun g4=>ho1 (by rw[hinv,h3t f3,g1,g4];simp),fun g4=>⟨lO (ae (nth a.bl (aF (aH a) done b).toNat) 3) (ae (nth a.bl (aF (aH a) done b).toNat) 2) (b7 b),rfl,hx2,by
   rw[ta2]
   exact af.2 ⟨fun g2=>af.2 ⟨fun g3=>ho1 (by rw[hinv,h3t f3,g1,g4,g2,g3];simp),fun g3=>af.2 ⟨fun f7=>ho1 (by rw[hinv,h3t f3,g1,g4,g2,g3,f7];simp),fun f7=>an.2 ⟨hbnd2,(a,(aF (aH a) done b)),rfl,⟨h1,h2,e1,e2i⟩,(strs (db (aH a) (aF (aH a) done b).toNat),b7 b),rfl,hsd,nx (by rw[hinv,h3t f3,g1,g4,g2,g3,f7];simp)⟩⟩⟩,fun g2=>af.2 ⟨fun f7=>ho1 (by rw[hinv,h3t f3,g1,g4,g2,f7];simp),fun f7=>an.2 ⟨hbnd2,(a,(aF (aH a) done b)),rfl,⟨h1,h2,e1,e2i⟩,(strs (db (aH a) (aF (aH a) done b).toNat),b7 b),rfl,hsd,nx (by rw[hinv,h3t f3,g1,g4,g2,f7];simp)⟩⟩⟩⟩⟩,fun g1=>⟨lO (ae (nth a.bl (aF (aH a) done b).toNat) 3) (ae (nth a.bl (aF (aH a) done b).toNat) 2) (b7 b),rfl,hx2,by
   rw[ta2]
   exact af.2 ⟨fun g2=>af.2 ⟨fun g3=>ho1 (by rw[hinv,h3t f3,g1,g2,g3];simp),fun g3=>af.2 ⟨fun f7=>ho1 (by rw[hinv,h3t f3,g1,g2,g3,f7];simp),fun f7=>an.2 ⟨hbnd2,(a,(aF (aH a) done b)),rfl,⟨h1,h2,e1,e2i⟩,(strs (db (aH a) (aF (aH a) done b).toNat),b7 b),rfl,hsd,nx (by rw[hinv,h3t f3,g1,g2,g3,f7];simp)⟩⟩⟩,fun g2=>af.2 ⟨fun f7=>ho1 (by rw[hinv,h3t f3,g1,g2,f7];simp),fun f7=>an.2 ⟨hbnd2,(a,(aF (aH a) done b)),rfl,⟨h1,h2,e1,e2i⟩,(strs (db (aH a) (aF (aH a) done b).toNat),b7 b),rfl,hsd,nx (by rw[hinv,h3t f3,g1,g2,f7];simp)⟩⟩⟩⟩⟩⟩,fun f3=>af.2 ⟨fun f7=>ho1 (by rw[hinv,h3f f3,f7];simp),fun f7=>an.2 ⟨hbnd2,(a,(aF (aH a) done b)),rfl,⟨h1,h2,e1,e2i⟩,(strs (db (aH a) (aF (aH a) done b).toNat),b7 b),rfl,hsd,nx (by rw[hinv,h3f f3,f7];simp)⟩⟩⟩
 ·rw[show a.bl.length - i.toNat=0 by omega] at ho
  exact(ho.2 rfl false trivial).2 rfl
noncomputable def TI(κ:Kp):Env:=(Oh κ).ak 186 3 (aP 6 (Pe κ) Fs (BF κ))
theorem e8l(κ:Kp):aD (TI κ):=(e10 κ).ak (Zs κ) (l8 κ)
theorem m8l(κ:Kp):aj (TI κ):=(Zs κ).ak aI
theorem y8(κ:Kp)(a:cq)(K:AV->List Dn.Obj->Prop):(bf (TI κ) 12 74 [aq a] [] K)=(
 letI z1:=a.bl.length
 letI z2:=K (AV.bp [AV.bool false,AV.int 0]) []
 letI z3:=Pg.toProgram (Env.P (Oh κ))
 letI z4:=AV.bool false
 letI z5:=Int.toNat (↑z1:Int)
 ∃(e2:cq),([aq a],aJ)=([aq e2],aJ)/\(aO (aa (bn 56 e2.hl e2.bl))<=100000/\e2.bl.length<=100000)/\aC (aQ (aH e2)) (aC (iP (aH e2)) (ba (true&&
 decide ((↑z1:Int)<=(↑z1:Int))&&decide ((Int.toNat (↑z1:Int)+1)*2<=70368744177664)&&true) (ah z3 186 3=ah z3 186 3/\∃(e1:A8),sp 38 [(0,
 AV.cK 5),(1,AV.ptr 4 0 [] 0),(3,AV.mp 6),(4,AV.ar 7 0 z5),(13,AV.int (↑z1:Int)),(14,AV.int 0)] [Obj.box 66 (aq a),Obj.box 4 z4,Obj.box 29 (AV.int
 0),Obj.row 3 (ints (bU (aH e2))),Obj.box 66 (aq a),Dn.Obj.loop (gj Tryz.prog 74 5 LoopState.ready none (fU (bJ 63) [(0,aq a),(1,AV.ptr 0 0 [] 0),(2,
 AV.ptr 1 0 [] 0),(3,AV.ptr 2 0 [] 0),(4,AV.ar 3 0 (List.length (bU (aH e2)))),(5,AV.int 0),(10,AV.bp [AV.ar 3 0 (List.length (bU (aH e2))),AV.int 0]),
 (11,aq a),(12,AV.bp [AV.ar 3 0 (List.length (bU (aH e2))),AV.int 0]),(13,AV.ar 3 0 (List.length (bU (aH e2)))),(14,AV.int 0),(15,AV.int 0),(16,
 AV.bool false),(18,aq a),(19,AV.bQ 186 [AV.ptr 4 0 [] 0])])),Dn.Obj.map 9 4 [],Obj.row 4 (fO z4 z5)]=sp 38 [(0,AV.cK 5),(1,AV.ptr 4 0 [] 0),(3,
 AV.mp 6),(4,AV.ar 7 0 (List.length (cj e1.done))),(13,AV.int (↑(List.length e1.a.bl):Int)),(14,AV.int e1.i)] [Obj.box 66 (aq e1.a),Obj.box 4 z4,
 Obj.box 29 (AV.int 0),Obj.row 3 e1.ws,Obj.box 66 (aq e1.a),Dn.Obj.loop (gj Tryz.prog 74 5 LoopState.ready none (fU (bJ 63) [(0,aq e1.a),(1,AV.ptr 0 0 []
 0),(2,AV.ptr 1 0 [] 0),(3,AV.ptr 2 0 [] 0),(4,AV.ar 3 0 e1.ws.length),(5,AV.int 0),(10,AV.bp [AV.ar 3 0 e1.ws.length,AV.int 0]),(11,aq e1.a),(12,
 AV.bp [AV.ar 3 0 e1.ws.length,AV.int 0]),(13,AV.ar 3 0 e1.ws.length),(14,AV.int 0),(15,AV.int 0),(16,AV.bool false),(18,aq e1.a),(19,AV.bQ 186
 [AV.ptr 4 0 [] 0])])),Dn.Obj.map 9 4 (b7 e1.b),Obj.row 4 (cj e1.done)]/\(aQ (aH e1.a)=true/\(aO (aa (bn 56 e1.a.hl e1.a.bl))<=100000/\List.length
 e1.a.bl<=100000)/\(0:Int)<=e1.i/\e1.i<=(↑(List.length e1.a.bl):Int)/\e1.done.length=List.length e1.a.bl)/\aC (IV e1) (K (AV.bp [AV.bool true,
 AV.int 0]) []) (∀(e0:Bool),True->aC e0 z2 z2))) (K (AV.bp [AV.bool false,AV.int 60]) [])) (K (AV.bp [AV.bool false,AV.int 30]) [])):=by kernel_rfl
def QM(a:cq):Out (AV×List Dn.Obj):= .aC (aQ (aH a)) (.aC (iP (aH a)) (.one (.bp [.bool (KE (aH a)), .int 0],[])) (.one (.bp [.bool false, .int 60],[]))) (.one (.bp [.bool false, .int 30],[]))
theorem c8(κ:Kp):bz (TI κ) 12 74 (aR CS df QM):=by
 refine bg ?_
 rintro a K h2 ho
 refine Eq.mpr (y8 κ a K) ?_
 simp only[QM,Out.run,af] at ho
 have hl:=h2.2
 refine⟨a,rfl,h2,?_⟩
 rw[af]
 refine⟨fun e1=>?_,fun e1=>ho.2 e1⟩
 rw[af]
 refine⟨fun e2=>?_,fun e2=>(ho.1 e1).2 e2⟩
 have hw:=kt e2
 have ho1:=(ho.1 e1).1 e2
 simp only[an,aa3,aa2,Int.toNat_natCast]
 have hi:IV ⟨a,ints (bU (aH a)),List.replicate a.bl.length false,[],0⟩=KE (aH a):=by
  unfold IV KE
  rw[fB];rfl
 refine⟨⟨⟨⟨trivial,by omega⟩,by omega⟩,trivial⟩,trivial,⟨a,ints (bU (aH a)),List.replicate a.bl.length false,[],0⟩,?_,⟨e1,h2,by simp only;omega,by simp only;omega,by simp⟩,?_⟩
 ·simp only[s6,jA,oj,List.length_replicate];rfl
 ·rw[hi,af]
  refine⟨fun e=>by rw[e] at ho1;exact ho1,fun e y _=>?_⟩
  rw[e] at ho1
  cases y
  ·exact ho1
  ·exact ho1
noncomputable def E8(κ:Kp):Env:=(TI κ).ay 74 (aR CS df QM)
theorem e8(κ:Kp):aD (E8 κ):=(e8l κ).ay (m8l κ) (c8 κ)
theorem m8(κ:Kp):aj (E8 κ):=(m8l κ).ay aK
def Rp:List AV->Option (Bool×AV)
 |[.agg [.lit (.int .i64 op), .lit (.string s), .lit (.int .i64 n), .ad 56 l], .lit (.int .i64 left)]=>some (decide (0<=left)&&decide (left<=100000), .int ((Tm.mk op s n (aa l)).size left))
 |_=>none
def Fe:List AV->Nat
 |[.agg [_,_,_, .ad _ l],_]=>aO (aa l)
 |_=>0
noncomputable def zi(κ:Kp)(n:Nat):Env:=(E8 κ).aG 94 (below Rp Fe n)
structure UM where
 op:Int
 s:ByteArray
 n:Int
 l:List AV
 left:Int
 i:Int
abbrev Mv(a:UM):S:=sp 31 [(1, .int a.left),(2, .ptr 0 0 [] 0),(5, .int a.i)] [.box 56 (.agg [.int a.op, .lit (.string a.s), .int a.n, .ad 56 a.l])]
theorem x54(κ:Kp)(r:Nat)(a:UM)(I:Nat->S->Prop)(n:Nat)(K:Exit->S->Prop):(vc (zi κ r) 12 94 none 0 (ah (Pr κ).toProgram 94 5) (Mv a) (bL (zi κ r) 94 5 0 I n K))=(
 letI z1:=nth a.l a.i.toNat
 letI z2:=K (Exit.exit 0) (sp 31 [(1,AV.int a.left)] [])
 letI z3:=a.i<(↑(a.l.length):Int)
 aC (decide z3) (aC (decide (a.left>=(0:Int))) (ba (decide ((0:Int)<=a.i)&&decide z3) (ba (decide ((0:Int)<=a.left)&&decide (a.left<=(100000:
 Int))&&Nat.blt (Fe [AV.agg [AV.int (toInt (ae z1 0)),AV.str (toStr (ae z1 1)),AV.int (toInt (ae z1 2)),AV.ad 56 (ai (ae z1 3))],AV.int a.left]) r) (∃(e0
 :Nat),e0<n/\I e0 (sp 31 [(1,AV.int (Tm.size (Tm.mk (toInt (ae z1 0)) (toStr (ae z1 1)) (toInt (ae z1 2)) (aa (ai (ae z1 3)))) a.left)),(2,AV.ptr 0 0 []
 0),(5,AV.int (IntKind.wrap IntKind.i64 (a.i+(1:Int))))] [Obj.box 56 (AV.agg [AV.int a.op,AV.str a.s,AV.int a.n,AV.ad 56 a.l])])))) z2) z2):=by kernel_rfl
def Hv(r:Nat)(a:UM):Prop:= -1<=a.left/\a.i+a.left<=100000/\0<=a.i/\a.i<=a.l.length/\aO (aa (a.l.drop a.i.toNat))<=r
def zA(a:UM):Out (Exit×S):= .one (.exit 0,sp 31 [(1, .int (jf (aa (a.l.drop a.i.toNat)) a.left))] [])
theorem l54(κ:Kp)(r:Nat):bk (zi κ r) 12 94 5 (aP 0 Mv (Hv r) zA):=by
 refine aL (fun a=>a.l.length - a.i.toNat) ?_
 rintro⟨op,s,n,l,left,i⟩ K ⟨h1,h2,h3,h4,h5⟩ ho
 simp only at h1 h2 h3 h4 h5
 rw[show(zi κ r).P=Pr κ from rfl]
 refine Eq.mpr (x54 κ r ⟨op,s,n,l,left,i⟩ _ _ K) ?_
 simp only[zA,Out.run] at ho
 simp only[af,an,aa2,aa4,aa3,Nat.blt_eq,←cz]
 refine⟨fun hi=>⟨fun hl=>⟨⟨h3,hi⟩,?_⟩,fun hl=>?_⟩,fun hi=>?_⟩
 ·have hc:=wb l i.toNat (by omega)
  have hz:=Tm.size_le (cx (nth l i.toNat)) left hl
  have hp:(cx (nth l i.toNat)).gu=1+aO (aa (ai (ae (nth l i.toNat) 3))):=by rw[cz,Tm.gu]
  rw[dL l i.toNat (by omega),jf,aa8 hl,aa9] at ho
  rw[aW (n:=i+1) (by omega) (by omega)]
  refine⟨⟨⟨hl,by omega⟩,by simp only[Fe];omega⟩,_,?_,⟨op,s,n,l,(cx (nth l i.toNat)).size left,i+1⟩,rfl,⟨by simp only;omega,by simp only;omega,by simp only;omega,by simp only;omega,?_⟩,rfl,?_⟩
  ·simp only;omega
  ·simp only[show(i+1).toNat=i.toNat+1 by omega];omega
  ·simp only[zA,Out.run,show(i+1).toNat=i.toNat+1 by omega]
   exact ho
 ·rw[dL l i.toNat (by omega),jf,aa6 (show ¬ 0<=left from hl),aa7] at ho
  exact ho
 ·rw[ab0 (by omega)] at ho
  exact ho
noncomputable def Ie(κ:Kp)(r:Nat):Env:=(zi κ r).ak 94 5 (aP 0 Mv (Hv r) zA)
theorem y54(κ:Kp)(r:Nat)(op:Int)(s:ByteArray)(n:Int)(l:List AV)(left:Int)(K:AV->List Dn.Obj->Prop):(bf (Ie κ r) 12 94 [.agg [.int op, .lit (.string s), .int n, .ad 56 l], .int left] [] K)=(
 aC (decide ((↑(ByteArray.size s):Int)>(1000:Int))) (K (AV.int (-1)) []) (ah (Pg.toProgram (Env.P (zi κ r))) 94 5=ah (Pg.toProgram (Env.P
 (zi κ r))) 94 5/\∃(a:UM),sp 31 [(1,AV.int (IntKind.wrap IntKind.i64 (left - (1:Int)))),(2,AV.ptr 0 0 [] 0),(5,AV.int 0)] [Obj.box 56 (AV.agg
 [AV.int op,AV.str s,AV.int n,AV.ad 56 l])]=sp 31 [(1,AV.int a.left),(2,AV.ptr 0 0 [] 0),(5,AV.int a.i)] [Obj.box 56 (AV.agg [AV.int a.op,AV.str
 a.s,AV.int a.n,AV.ad 56 a.l])]/\((-1:Int)<=a.left/\a.i+a.left<=(100000:Int)/\(0:Int)<=a.i/\a.i<=(↑(a.l.length):Int)/\aO (aa
 (List.drop a.i.toNat a.l))<=r)/\K (AV.int (jf (aa (List.drop a.i.toNat a.l)) a.left)) [])):=by kernel_rfl
theorem YP(κ:Kp)(r:Nat)(hp:gm (Pr κ) 94 (below Rp Fe r)):aD (Ie κ r)/\aj (Ie κ r)/\(Ie κ r).P=Pr κ:=
 have h:aD (zi κ r):=(e8 κ).eo hp
 have hm:aj (zi κ r):=(m8 κ).aG
 ⟨h.ak hm (l54 κ r),hm.ak aI,rfl⟩
theorem p54(κ:Kp)(r:Nat):cy (Ie κ r) 12 94 (fun xs=>bif Nat.beq (Fe xs) r then Rp xs else none):=by
 intro args x hh
 cases hb:Nat.beq (Fe args) r with
 |false=>simp only[hb] at hh;cases hh
 | true=>
  simp only[hb,aa9] at hh
  unfold Rp at hh
  split at hh
  ·rename_i op s n l left
   simp only[aa5,ab1,aa3,aa2] at hh
   obtain⟨⟨h1,h2⟩,rfl⟩:=hh
   have hr:aO (aa l)=r:=Nat.eq_of_beq_eq_true hb
   refine⟨_,rfl,rfl,?_⟩
   refine Eq.mpr (y54 κ r op s n l left _) ?_
   rw[af,aa2,aa4]
   refine⟨fun e=>?_,fun e=>?_⟩
   ·unfold Tm.size;rw[aa8 (show(1000:Int)<s.size from e)];rfl
   ·rw[aW (n:=left - 1) (by omega) (by omega)]
    refine⟨rfl,⟨op,s,n,l,left - 1,0⟩,rfl,⟨by simp only;omega,by simp only;omega,by simp only;omega,by simp only;omega,?_⟩,?_⟩
    ·simp only[ab9,ab2];omega
    ·unfold Tm.size;rw[aa6 (show ¬ (1000:Int)<s.size from e)];rfl
  ·cases hh
theorem q54(κ:Kp):gm (Pr κ) 94 Rp:=aD.pZ Rp Fe (Ie κ) (YP κ) (p54 κ)
noncomputable def OL(κ:Kp):Env:=(E8 κ).aG 94 Rp
theorem e54(κ:Kp):aD (OL κ):=(e8 κ).eo (q54 κ)
theorem ZW(κ:Kp):aj (OL κ):=(m8 κ).aG
structure Uj where
 s:ByteArray
 l:List AV
 left:Int
 i:Int
abbrev J5(a:Uj):S:=sp 29 [(1, .int a.left),(2, .ptr 0 0 [] 0),(5, .int a.i)] [.box 63 (.agg [.lit (.string a.s), .ad 56 a.l])]
theorem x53(κ:Kp)(a:Uj)(I:Nat->S->Prop)(n:Nat)(K:Exit->S->Prop):(vc (OL κ) 12 93 none 0 (ah (Pr κ).toProgram 93 4) (J5 a) (bL (OL κ) 93 4 0 I n K))=(
 letI z1:=nth a.l a.i.toNat
 letI z2:=K (Exit.exit 0) (sp 29 [(1,AV.int a.left)] [])
 letI z3:=a.i<(↑(a.l.length):Int)
 aC (decide z3) (aC (decide (a.left>=(0:Int))) (ba (decide ((0:Int)<=a.i)&&decide z3) (ba (decide ((0:Int)<=a.left)&&decide (a.left<=(100000:
 Int))) (∃(e0:Nat),e0<n/\I e0 (sp 29 [(1,AV.int (Tm.size (Tm.mk (toInt (ae z1 0)) (toStr (ae z1 1)) (toInt (ae z1 2)) (aa (ai (ae z1 3)))) a.left)),(2,
 AV.ptr 0 0 [] 0),(5,AV.int (IntKind.wrap IntKind.i64 (a.i+(1:Int))))] [Obj.box 63 (AV.agg [AV.str a.s,AV.ad 56 a.l])])))) z2) z2):=by kernel_rfl
def Hz(a:Uj):Prop:= -1<=a.left/\a.i+a.left<=100000/\0<=a.i/\a.i<=a.l.length
def zB(a:Uj):Out (Exit×S):= .one (.exit 0,sp 29 [(1, .int (jf (aa (a.l.drop a.i.toNat)) a.left))] [])
theorem l53(κ:Kp):bk (OL κ) 12 93 4 (aP 0 J5 Hz zB):=by
 refine aL (fun a=>a.l.length - a.i.toNat) ?_
 rintro⟨s,l,left,i⟩ K ⟨h1,h2,h3,h4⟩ ho
 simp only at h1 h2 h3 h4
 rw[show(OL κ).P=Pr κ from rfl]
 refine Eq.mpr (x53 κ ⟨s,l,left,i⟩ _ _ K) ?_
 simp only[zB,Out.run] at ho
 simp only[af,an,aa2,aa4,aa3,←cz]
 refine⟨fun hi=>⟨fun hl=>⟨⟨h3,hi⟩,?_⟩,fun hl=>?_⟩,fun hi=>?_⟩
 ·have hz:=Tm.size_le (cx (nth l i.toNat)) left hl
  rw[dL l i.toNat (by omega),jf,aa8 hl,aa9] at ho
  rw[aW (n:=i+1) (by omega) (by omega)]
  refine⟨⟨hl,by omega⟩,_,?_,⟨s,l,(cx (nth l i.toNat)).size left,i+1⟩,rfl,⟨by simp only;omega,by simp only;omega,by simp only;omega,by simp only;omega⟩,rfl,?_⟩
  ·simp only;omega
  ·simp only[zB,Out.run,show(i+1).toNat=i.toNat+1 by omega]
   exact ho
 ·rw[dL l i.toNat (by omega),jf,aa6 (show ¬ 0<=left from hl),aa7] at ho
  exact ho
 ·rw[ab0 (by omega)] at ho
  exact ho
noncomputable def LF(κ:Kp):Env:=(OL κ).ak 93 4 (aP 0 J5 Hz zB)
theorem YR(κ:Kp):aD (LF κ):=(e54 κ).ak (ZW κ) (l53 κ)
theorem U6(κ:Kp):aj (LF κ):=(ZW κ).ak aI
theorem y53(κ:Kp)(s:ByteArray)(l:List AV)(left:Int)(K:AV->List Dn.Obj->Prop):(bf (LF κ) 12 93 [.agg [.lit (.string s), .ad 56 l], .int left] [] K)=(
 letI z1:=Pg.toProgram (Env.P (OL κ))
 aC (decide ((↑(ByteArray.size s):Int)>(1000:Int))) (K (AV.int (-1)) []) (ah z1 93 4=ah z1 93 4/\∃(e0:Uj),sp 29 [(1,AV.int left),(2,AV.ptr 0 0 []
 0),(5,AV.int 0)] [Obj.box 63 (AV.agg [AV.str s,AV.ad 56 l])]=sp 29 [(1,AV.int e0.left),(2,AV.ptr 0 0 [] 0),(5,AV.int e0.i)] [Obj.box 63 (AV.agg
 [AV.str e0.s,AV.ad 56 e0.l])]/\((-1:Int)<=e0.left/\e0.i+e0.left<=(100000:Int)/\(0:Int)<=e0.i/\e0.i<=(↑(e0.l.length):Int))/\K (AV.int (jf (aa
 (List.drop e0.i.toNat e0.l)) e0.left)) [])):=by kernel_rfl
def YZ:List AV->Option (Bool×AV)
 |[.agg [.lit (.string s), .ad 56 l], .lit (.int .i64 left)]=>some (decide (-1<=left)&&decide (left<=100000), .int (dB ⟨s,aa l⟩ left))
 |_=>none
theorem p53(κ:Kp):cy (LF κ) 12 93 YZ:=by
 intro args x hh
 unfold YZ at hh
 split at hh
 ·rename_i s l left
  simp only[aa5,ab1,aa3,aa2] at hh
  obtain⟨⟨h1,h2⟩,rfl⟩:=hh
  refine⟨_,rfl,rfl,?_⟩
  refine Eq.mpr (y53 κ s l left _) ?_
  rw[af,aa2,aa4]
  refine⟨fun e=>?_,fun e=>?_⟩
  ·unfold dB;rw[aa8 (show(1000:Int)<s.size from e)];rfl
  ·refine⟨rfl,⟨s,l,left,0⟩,rfl,⟨h1,by simp only;omega,by simp only;omega,by simp only;omega⟩,?_⟩
   unfold dB;rw[aa6 (show ¬ (1000:Int)<s.size from e)];rfl
 ·cases hh
noncomputable def Oa(κ:Kp):Env:=(LF κ).aG 93 YZ
theorem e53(κ:Kp):aD (Oa κ):=(YR κ).aG (U6 κ) (p53 κ)
theorem Zq(κ:Kp):aj (Oa κ):=(U6 κ).aG
structure V2 where
 a:cq
 left:Int
 i:Int
abbrev BE(a:V2):S:=sp 52 [(1, .int a.left),(2, .ptr 0 0 [] 0),(5, .int a.i)] [.box 66 (aq a.a)]
theorem x38(κ:Kp)(a:V2)(I:Nat->S->Prop)(n:Nat)(K:Exit->S->Prop):(vc (Oa κ) 12 55 none 0 (ah (Pr κ).toProgram 55 3) (BE a) (bL (Oa κ) 55 3 0 I n K))=(
 letI z1:=nth a.a.bl a.i.toNat
 letI z3:=Tm.mk (toInt (ae (ae z1 2) 0)) (toStr (ae (ae z1 2) 1)) (toInt (ae (ae z1 2) 2)) (aa (ai (ae (ae z1 2) 3)))
 letI z4:=AV.agg [AV.agg [AV.str a.a.rel,AV.ad 56 a.a.hl],AV.ad 72 a.a.bl,AV.int a.a.line]
 letI z6:=ai (ae (ae z1 1) 1)
 letI z7:=ae (ae z1 1) 0
 letI z9:=IntKind.wrap IntKind.i64 (a.i+(1:Int))
 letI z10:=Tm.mk (toInt (ae (ae z1 3) 0)) (toStr (ae (ae z1 3) 1)) (toInt (ae (ae z1 3) 2)) (aa (ai (ae (ae z1 3) 3)))
 letI z13:=K (Exit.exit 0) (sp 52 [(1,AV.int a.left)] [])
 letI z14:=a.i<(↑(List.length a.a.bl):Int)
 letI z5:=decide ((0:Int)<=a.i)&&decide z14
 letI z15:=a.left - (1:Int)
 letI z2:=IntKind.wrap IntKind.i64 z15
 letI z11:=dB {rel:=toStr z7,l:=aa z6} z2
 letI z12:=dB {rel:=toStr z7,l:=aa z6} z2
 letI z16:=(100000:Int)
 letI z8:=decide ((0:Int)<=dB {rel:=toStr z7,l:=aa z6} z2)&&decide (dB {rel:=toStr z7,l:=aa z6} z2<=z16)
 aC (decide z14) (aC (decide (a.left>=(0:Int))) (ba z5 (ba (decide ((-1:Int)<=IntKind.wrap IntKind.i64 z15)&&decide (IntKind.wrap IntKind.i64 z15<=z16)) (aC (decide (dB {rel:=toStr z7,l:=aa z6} z2>=(0:Int))) (ba z5 (ba z8 (aC (decide (Tm.size z3 z11>=(0:Int))) (ba z5 (ba (decide ((0:Int)<=Tm.size z3 z12)&&decide (Tm.size z3 z11<=z16)) (∃(e0:Nat),e0<n/\I e0 (sp 52 [(1,AV.lit (Value.int IntKind.i64 (Tm.size z10 (Tm.size z3 z11)))),(2,AV.ptr 0 0 [] 0),(5,AV.int z9)] [Obj.box 66 z4])))) (∃(e0:Nat),e0<n/\I e0 (sp 52 [(1,AV.lit (Value.int IntKind.i64 (Tm.size z3 z12))),(2,AV.ptr 0 0 [] 0),(5,AV.int z9)] [Obj.box 66 z4]))))) (aC (decide (dB {rel:=toStr z7,l:=aa z6} z2>=(0:Int))) (ba z5 (ba z8 (∃(e0:Nat),e0<n/\I e0 (sp 52 [(1,AV.lit (Value.int IntKind.i64 (Tm.size z10 z12))),(2,AV.ptr 0 0 [] 0),(5,AV.int z9)] [Obj.box 66 z4])))) (∃(e0:Nat),e0<n/\I e0 (sp 52 [(1,AV.lit (Value.int IntKind.i64 z11)),(2,AV.ptr 0 0 [] 0),(5,AV.int z9)] [Obj.box 66 z4])))))) z13) z13):=by kernel_rfl
def y6(a:V2):Prop:= -1<=a.left/\a.i+a.left<=100000/\0<=a.i/\a.i<=a.a.bl.length
def uJ(a:V2):Out (Exit×S):= .one (.exit 0,sp 52 [(1, .int (lH (di (a.a.bl.drop a.i.toNat)) a.left))] [])
theorem l38(κ:Kp):bk (Oa κ) 12 55 3 (aP 0 BE y6 uJ):=by
 refine aL (fun a=>a.a.bl.length - a.i.toNat) ?_
 rintro⟨a,left,i⟩ K ⟨h1,h2,h3,h4⟩ ho
 simp only at h1 h2 h3 h4
 rw[show(Oa κ).P=Pr κ from rfl]
 refine Eq.mpr (x38 κ ⟨a,left,i⟩ _ _ K) ?_
 simp only[uJ,Out.run] at ho
 by_cases hi:i<a.bl.length
 ·by_cases hl:left>=0
  ·have hk:i.toNat<a.bl.length:=by omega
   rw[ov a.bl i.toNat hk,lH,aa8 hl,aa9] at ho
   have hA:(⟨toStr (ae (ae (nth a.bl i.toNat) 1) 0),aa (ai (ae (ae (nth a.bl i.toNat) 1) 1))⟩:At)=(cU (nth a.bl i.toNat)).a:=rfl
   have hX:cx (ae (nth a.bl i.toNat) 2)=(cU (nth a.bl i.toNat)).x:=rfl
   have hY:cx (ae (nth a.bl i.toNat) 3)=(cU (nth a.bl i.toNat)).y:=rfl
   have hz:=sD (cU (nth a.bl i.toNat)) left hl
   have hz1:=l7 (cU (nth a.bl i.toNat)).a (left - 1) (by omega)
   have hz2:=Tm.size_le (cU (nth a.bl i.toNat)).x (dB (cU (nth a.bl i.toNat)).a (left - 1))
   have go: ∀z,sizeLt (cU (nth a.bl i.toNat)) left=z->∃m,m<a.bl.length - i.toNat/\eY BE y6 uJ (fun a=>a.a.bl.length - a.i.toNat) K m (BE ⟨a,z,i+1⟩):=by
    rintro z rfl
    refine⟨_,?_,⟨a,sizeLt (cU (nth a.bl i.toNat)) left,i+1⟩,rfl,⟨by simp only;omega,by simp only;omega,by simp only;omega,by simp only;omega⟩,rfl,?_⟩
    ·simp only;omega
    ·simp only[uJ,Out.run,show(i+1).toNat=i.toNat+1 by omega]
     exact ho
   simp only[aW (n:=i+1) (by omega) (by omega),aW (n:=left - 1) (by omega) (by omega),hA,←cz,hX,hY]
   simp only[af,an,aa2,aa4,aa3]
   refine⟨fun _=>⟨fun _=>⟨⟨h3,hi⟩,⟨by omega,by omega⟩,fun e1=>⟨⟨h3,hi⟩,⟨e1,by omega⟩,fun e2=>⟨⟨h3,hi⟩,⟨e2,by have:=hz2 e1;omega⟩,go _ ?_⟩,fun e2=>go _ ?_⟩,fun e1=>⟨fun e=>absurd e e1,fun _=>go _ ?_⟩⟩,fun e=>absurd hl e⟩,fun e=>absurd hi e⟩
   ·unfold sizeLt;rw[aa8 (show 0<=dB (cU (nth a.bl i.toNat)).a (left - 1) from e1),aa9,aa8 (show 0<=(cU (nth a.bl i.toNat)).x.size _ from e2),aa9]
   ·unfold sizeLt;rw[aa8 (show 0<=dB (cU (nth a.bl i.toNat)).a (left - 1) from e1),aa9,aa6 (show ¬ 0<=(cU (nth a.bl i.toNat)).x.size _ from e2),aa7]
   ·unfold sizeLt;rw[aa6 (show ¬ 0<=dB (cU (nth a.bl i.toNat)).a (left - 1) from e1),aa7];rfl
  ·rw[ov a.bl i.toNat (by omega),lH,aa6 (show ¬ 0<=left from hl),aa7] at ho
   rw[aa8 (show i<(a.bl.length:Int) from hi),aa6 hl]
   exact ho
 ·rw[ab0 (by omega)] at ho
  rw[aa6 (show ¬ i<(a.bl.length:Int) from hi)]
  exact ho
noncomputable def LR(κ:Kp):Env:=(Oa κ).ak 55 3 (aP 0 BE y6 uJ)
theorem W4(κ:Kp):aD (LR κ):=(e53 κ).ak (Zq κ) (l38 κ)
theorem TK(κ:Kp):aj (LR κ):=(Zq κ).ak aI
theorem y38(κ:Kp)(a:cq)(left:Int)(K:AV->List Dn.Obj->Prop):(bf (LR κ) 12 55 [aq a, .int left] [] K)=(
 letI z1:=left - (1:Int)
 letI z2:=Pg.toProgram (Env.P (Oa κ))
 ba (decide ((-1:Int)<=IntKind.wrap IntKind.i64 z1)&&decide (IntKind.wrap IntKind.i64 z1<=(100000:Int))) (ah z2 55 3=ah z2 55 3/\∃(e0:V2),sp 52 [(1,AV.lit (Value.int IntKind.i64 (dB {rel:=a.rel,l:=aa a.hl} (IntKind.wrap IntKind.i64 z1)))),(2,AV.ptr 0 0 [] 0),(5,AV.int 0)] [Obj.box 66 (AV.agg [AV.agg [AV.str a.rel,AV.ad 56 a.hl],AV.ad 72 a.bl,AV.int a.line])]=sp 52 [(1,AV.int e0.left),(2,AV.ptr 0 0 [] 0),(5,AV.int e0.i)] [Obj.box 66 (AV.agg [AV.agg [AV.str e0.a.rel,AV.ad 56 e0.a.hl],AV.ad 72 e0.a.bl,AV.int e0.a.line])]/\((-1:Int)<=e0.left/\e0.i+e0.left<=(100000:Int)/\(0:Int)<=e0.i/\e0.i<=(↑(List.length e0.a.bl):Int))/\K (AV.lit (Value.int IntKind.i64 (lH (di (List.drop e0.i.toNat e0.a.bl)) e0.left))) [])):=by kernel_rfl
def Xk:List AV->Option (Bool×AV)
 |[.agg [.agg [.lit (.string rel), .ad 56 hl], .ad 72 bl, .lit (.int .i64 _)], .lit (.int .i64 left)]=>some (decide (0<=left)&&decide (left<=100000), .int (mm ⟨⟨rel,aa hl⟩,di bl⟩ left))
 |_=>none
theorem p38(κ:Kp):cy (LR κ) 12 55 Xk:=by
 intro args x hh
 unfold Xk at hh
 split at hh
 ·rename_i rel hl bl line left
  simp only[aa5,ab1,aa3,aa2] at hh
  obtain⟨⟨h1,h2⟩,rfl⟩:=hh
  refine⟨_,rfl,rfl,?_⟩
  refine Eq.mpr (y38 κ ⟨[],[],rel,hl,bl,line,0⟩ left _) ?_
  have hz1:=l7 ⟨rel,aa hl⟩ (left - 1) (by omega)
  simp only[aW (n:=left - 1) (by omega) (by omega)]
  rw[an,aa3,aa2,aa2]
  exact⟨⟨by omega,by omega⟩,trivial,⟨⟨[],[],rel,hl,bl,line,0⟩,dB ⟨rel,aa hl⟩ (left - 1),0⟩,rfl,⟨by simp only;omega,by simp only;omega,by simp only;omega,by simp only;omega⟩,rfl⟩
 ·cases hh
noncomputable def NK(κ:Kp):Env:=(LR κ).aG 55 Xk
theorem e38(κ:Kp):aD (NK κ):=(W4 κ).aG (TK κ) (p38 κ)
theorem m38(κ:Kp):aj (NK κ):=(TK κ).aG
abbrev LJ(a:List AV×Int):S:=sp 16 [(0, .ad 9 a.1),(3, .int a.2)] []
theorem x37(κ:Kp)(l:List AV)(i:Int)(I:Nat->S->Prop)(n:Nat)(K:Exit->S->Prop):(vc (NK κ) 12 54 none 0 (ah (Pr κ).toProgram 54 2) (LJ (l,i)) (bL (NK κ) 54 2 0 I n K))=(
 letI z1:=i<(↑(l.length):Int)
 aC (decide z1) (ba (decide ((0:Int)<=i)&&decide z1) (aC (decide ((↑(ByteArray.size (toStr (nth l i.toNat))):Int)>(1000:Int))) (K Exit.ret (sp 16 [(2,
 AV.bool true)] [])) (∃(e0:Nat),e0<n/\I e0 (sp 16 [(0,AV.ad 9 l),(3,AV.int (IntKind.wrap IntKind.i64 (i+(1:Int))))] [])))) (K (Exit.exit 0) (sp 16
 [] []))):=by kernel_rfl
def FJ(a:List AV×Int):Prop:=a.1.length<=aM/\0<=a.2/\a.2<=a.1.length
def y4(a:List AV×Int):Out (Exit×S):= .aC (sV (a.1.drop a.2.toNat)) (.one (.ret,sp 16 [(2, .bool true)] [])) (.one (.exit 0,sp 16 [] []))
theorem l37(κ:Kp):bk (NK κ) 12 54 2 (aP 0 LJ FJ y4):=by
 refine aL (fun a=>a.1.length - a.2.toNat) ?_
 rintro⟨l,i⟩ K ⟨h1,h2,h3⟩ ho
 simp only at h1 h2 h3
 rw[show(NK κ).P=Pr κ from rfl]
 refine Eq.mpr (x37 κ l i _ _ K) ?_
 simp only[aM] at h1
 simp only[y4,Out.run,af] at ho
 simp only[af,an,aa2,aa4,aa3]
 refine⟨fun hi=>⟨⟨h2,hi⟩,?_⟩,fun hi=>?_⟩
 ·rw[ab3 (show i.toNat<l.length by omega),←aZ l i.toNat (by omega)] at ho
  simp only[sV,List.any_cons] at ho
  refine⟨fun e=>ho.1 (by rw[aa8 (show(1000:Int)<_ from e)];rfl),fun e=>?_⟩
  rw[aa6 (show ¬ (1000:Int)<_ from e),Bool.false_or] at ho
  rw[aW (n:=i+1) (by omega) (by omega)]
  refine⟨_,?_,(l,i+1),rfl,⟨by simpa[aM] using h1,by simp only;omega,by simp only;omega⟩,rfl,?_⟩
  ·simp only;omega
  ·simp only[y4,Out.run,af,show(i+1).toNat=i.toNat+1 by omega]
   exact ho
 ·rw[ab0 (by omega)] at ho
  exact ho.2 rfl
noncomputable def M1(κ:Kp):Env:=(NK κ).ak 54 2 (aP 0 LJ FJ y4)
theorem XA(κ:Kp):aD (M1 κ):=(e38 κ).ak (m38 κ) (l37 κ)
theorem VY(κ:Kp):aj (M1 κ):=(m38 κ).ak aI
theorem y37(κ:Kp)(l:List AV)(K:AV->List Dn.Obj->Prop):(bf (M1 κ) 12 54 [.ad 9 l] [] K)=(
 letI z1:=Pg.toProgram (Env.P (NK κ))
 ah z1 54 2=ah z1 54 2/\∃(e0:List AV×Int),sp 16 [(0,AV.ad 9 l),(3,AV.int 0)] []=sp 16 [(0,AV.ad 9 e0.1),(3,AV.int e0.2)] []/\(e0.1.length<=
 9223372036854775807/\(0:Int)<=e0.2/\e0.2<=(↑(e0.1.length):Int))/\aC (sV (List.drop e0.2.toNat e0.1)) (K (AV.bool true) []) (K (AV.bool false) [])):=by kernel_rfl
def W9:List AV->Option (Bool×AV)
 |[.ad 9 l]=>some (decide (l.length<=aM), .bool (sV l))
 |_=>none
theorem p37(κ:Kp):cy (M1 κ) 12 54 W9:=by
 intro args x hh
 unfold W9 at hh
 split at hh
 ·rename_i l
  simp only[aa5,ab1,aa2] at hh
  obtain⟨h1,rfl⟩:=hh
  refine⟨_,rfl,rfl,?_⟩
  refine Eq.mpr (y37 κ l _) ?_
  refine⟨rfl,(l,0),rfl,⟨h1,by simp only;omega,by simp only;omega⟩,?_⟩
  rw[af]
  exact⟨fun e=>by rw[show sV l=true from e],fun e=>by rw[show sV l=false from e]⟩
 ·cases hh
noncomputable def Ph(κ:Kp):Env:=(M1 κ).aG 54 W9
theorem e37(κ:Kp):aD (Ph κ):=(XA κ).aG (VY κ) (p37 κ)
theorem m37(κ:Kp):aj (Ph κ):=(VY κ).aG
structure KV where
 ds:List AV
 rs:List AV
 left:Int
 i:Int
abbrev HK(a:KV):AV:= .agg [.ad 61 a.ds, .ad 66 a.rs]
abbrev FM(a:KV):S:=sp 62 [(1, .ptr 0 0 [] 0),(3, .int a.left),(4, .int a.i)] [.box 25 (HK a)]
theorem Xn(κ:Kp)(a:KV)(I:Nat->S->Prop)(n:Nat)(K:Exit->S->Prop):(vc (Ph κ) 12 26 none 0 (ah (Pr κ).toProgram 26 3) (FM a) (bL (Ph κ) 26 3 0 I n K))=(
 letI z2:=K Exit.ret (sp 62 [(2,AV.int 0)] [])
 letI z3:=AV.agg [AV.ad 61 a.ds,AV.ad 66 a.rs]
 letI z4:=nth a.ds a.i.toNat
 letI z5:=a.i<(↑(a.ds.length):Int)
 letI z1:=decide ((0:Int)<=a.i)&&decide z5
 aC (decide z5) (ba z1 (aC (decide ((↑(ByteArray.size (toStr (ae z4 0))):Int)>(1000:Int))) z2 (ba z1 (ba (decide (List.length (ai (ae z4 1))<=
 9223372036854775807)) (aC (sV (ai (ae z4 1))) z2 (∃(e0:Nat),e0<n/\I e0 (sp 62 [(1,AV.ptr 0 0 [] 0),(3,AV.int a.left),(4,AV.int (IntKind.wrap
 IntKind.i64 (a.i+(1:Int))))] [Obj.box 25 z3]))))))) (K (Exit.exit 0) (sp 62 [(1,AV.ptr 0 0 [] 0),(3,AV.int a.left)] [Obj.box 25 z3]))):=by kernel_rfl
def Aq(a:KV):Prop:=a.ds.length<=aM/\(∀d,d∈a.ds->(ai (ae d 1)).length<=aM)/\0<=a.i/\a.i<=a.ds.length
def wx(a:KV):Out (Exit×S):= .aC ((a.ds.drop a.i.toNat).any Iw) (.one (.ret,sp 62 [(2, .int 0)] [])) (.one (.exit 0,sp 62 [(1, .ptr 0 0 [] 0),(3, .int a.left)] [.box 25 (HK a)]))
theorem XC(κ:Kp):bk (Ph κ) 12 26 3 (aP 0 FM Aq wx):=by
 refine aL (fun a=>a.ds.length - a.i.toNat) ?_
 rintro⟨ds,rs,left,i⟩ K ⟨h1,h1',h2,h3⟩ ho
 simp only at h1 h1' h2 h3
 rw[show(Ph κ).P=Pr κ from rfl]
 refine Eq.mpr (Xn κ ⟨ds,rs,left,i⟩ _ _ K) ?_
 simp only[aM] at h1
 simp only[wx,Out.run,af] at ho
 simp only[af,an,aa3,aa2,aa4]
 refine⟨fun hi=>⟨⟨h2,hi⟩,?_⟩,fun hi=>?_⟩
 ·have hi':i.toNat<ds.length:=by omega
  have hm:nth ds i.toNat∈ds:=by rw[aZ ds _ hi'];exact List.getElem_mem _
  rw[ab3 hi',←aZ ds i.toNat hi'] at ho
  simp only[List.any_cons,Iw] at ho
  have go:(∀h:((ds.drop (i.toNat+1)).any Iw=true->K .ret (sp 62 [(2, .int 0)] []))/\((ds.drop (i.toNat+1)).any Iw=false->K (.exit 0) (sp 62 [(1, .ptr 0 0 [] 0),(3, .int left)] [.box 25 (HK ⟨ds,rs,left,i⟩)])),∃m,m<ds.length - i.toNat/\eY FM Aq wx (fun a=>a.ds.length - a.i.toNat) K m (sp 62 [(1, .ptr 0 0 [] 0),(3, .int left),(4, .int (IntKind.wrap .i64 (i+1)))] [.box 25 (HK ⟨ds,rs,left,i⟩)])):=by
   intro h
   rw[aW (n:=i+1) (by omega) (by omega)]
   refine⟨_,?_,⟨ds,rs,left,i+1⟩,rfl,⟨by simpa[aM] using h1,h1',by simp only;omega,by simp only;omega⟩,rfl,?_⟩
   ·simp only;omega
   ·simp only[wx,Out.run,af,show(i+1).toNat=i.toNat+1 by omega]
    exact h
  refine⟨fun e1=>ho.1 (by rw[aa8 (show(1000:Int)<_ from e1)];rfl),fun e1=>⟨⟨h2,hi⟩,h1' _ hm,fun e2=>ho.1 (by rw[e2];simp),fun e2=>go ?_⟩⟩
  rw[aa6 (show ¬ (1000:Int)<_ from e1),e2] at ho
  exact ho
 ·rw[ab0 (by omega)] at ho
  exact ho.2 rfl
noncomputable def zz(κ:Kp):Env:=(Ph κ).ak 26 3 (aP 0 FM Aq wx)
theorem Yf(κ:Kp):aD (zz κ):=(e37 κ).ak (m37 κ) (XC κ)
theorem Ue(κ:Kp):aj (zz κ):=(m37 κ).ak aI
abbrev Ke(a:KV):S:=sp 62 [(1, .ptr 0 0 [] 0),(3, .int a.left),(5, .int a.i)] [.box 25 (HK a)]
theorem Yl(κ:Kp)(a:KV)(I:Nat->S->Prop)(n:Nat)(K:Exit->S->Prop):(vc (zz κ) 12 26 none 0 (ah (Pr κ).toProgram 26 8) (Ke a) (bL (zz κ) 26 8 0 I n K))=(
 letI z2:=AV.agg [AV.ad 61 a.ds,AV.ad 66 a.rs]
 letI z1:=K (Exit.exit 2) (sp 62 [(1,AV.ptr 0 0 [] 0),(3,AV.int a.left)] [Obj.box 25 z2])
 letI z3:=nth a.rs a.i.toNat
 letI z4:=a.i<(↑(a.rs.length):Int)
 aC (decide z4) (aC (decide (a.left>=(0:Int))) (ba (decide ((0:Int)<=a.i)&&decide z4) (ba (decide ((0:Int)<=a.left)&&decide (a.left<=(100000:Int))) (∃(e0:Nat),e0<n/\I e0 (sp 62 [(1,AV.ptr 0 0 [] 0),(3,AV.lit (Value.int IntKind.i64 (mm {head:={rel:=toStr (ae (ae z3 0) 0),l:=aa (ai (ae (ae z3 0) 1))},body:=di (ai (ae z3 1))} a.left))),(5,AV.int (IntKind.wrap IntKind.i64 (a.i+(1:Int))))] [Obj.box 25 z2])))) z1) z1):=by kernel_rfl
def FK(a:KV):Prop:= -1<=a.left/\a.i+a.left<=100000/\0<=a.i/\a.i<=a.rs.length
def zC(a:KV):Out (Exit×S):= .one (.exit 2,sp 62 [(1, .ptr 0 0 [] 0),(3, .int (lY ((a.rs.drop a.i.toNat).map tI) a.left))] [.box 25 (HK a)])
theorem XI(κ:Kp):bk (zz κ) 12 26 8 (aP 0 Ke FK zC):=by
 refine aL (fun a=>a.rs.length - a.i.toNat) ?_
 rintro⟨ds,rs,left,i⟩ K ⟨h1,h2,h3,h4⟩ ho
 simp only at h1 h2 h3 h4
 rw[show(zz κ).P=Pr κ from rfl]
 refine Eq.mpr (Yl κ ⟨ds,rs,left,i⟩ _ _ K) ?_
 simp only[zC,Out.run] at ho
 by_cases hi:i<rs.length
 ·have hi':i.toNat<rs.length:=by omega
  rw[ab3 hi',←aZ rs i.toNat hi',ac2,lY] at ho
  by_cases hl:left>=0
  ·have hz:=uP (tI (nth rs i.toNat)) left hl
   rw[aa8 (show 0<=left from hl),aa9] at ho
   rw[aa8 (show i<(rs.length:Int) from hi),aa8 hl,aW (n:=i+1) (by omega) (by omega)]
   simp only[aC,an,aa3,aa2]
   refine⟨⟨h3,trivial⟩,⟨trivial,by omega⟩,_,?_,⟨ds,rs,mm (tI (nth rs i.toNat)) left,i+1⟩,rfl,⟨by simp only;omega,by simp only;omega,by simp only;omega,by simp only;omega⟩,rfl,?_⟩
   ·simp only;omega
   ·simp only[zC,Out.run,show(i+1).toNat=i.toNat+1 by omega]
    exact ho
  ·rw[aa6 (show ¬ 0<=left from hl),aa7] at ho
   rw[aa8 (show i<(rs.length:Int) from hi),aa6 hl]
   exact ho
 ·rw[ab0 (by omega)] at ho
  rw[aa6 (show ¬ i<(rs.length:Int) from hi)]
  exact ho
noncomputable def JW(κ:Kp):Env:=(zz κ).ak 26 8 (aP 0 Ke FK zC)
theorem W6(κ:Kp):aD (JW κ):=(Yf κ).ak (Ue κ) (XI κ)
theorem Vj(κ:Kp):aj (JW κ):=(Ue κ).ak aI
theorem y22(κ:Kp)(ds rs:List AV)(K:AV->List Dn.Obj->Prop):(bf (JW κ) 12 26 [.agg [.ad 61 ds, .ad 66 rs]] [] K)=(
 letI z1:=K (AV.int 0) []
 letI z2:=Pg.toProgram (Env.P (Ph κ))
 letI z3:=Pg.toProgram (Env.P (zz κ))
 ah z2 26 3=ah z2 26 3/\∃(e1:KV),sp 62 [(1,AV.ptr 0 0 [] 0),(3,AV.int 2000),(4,AV.int 0)] [Obj.box 25 (AV.agg [AV.ad 61 ds,AV.ad 66 rs])]=sp 62
 [(1,AV.ptr 0 0 [] 0),(3,AV.int e1.left),(4,AV.int e1.i)] [Obj.box 25 (AV.agg [AV.ad 61 e1.ds,AV.ad 66 e1.rs])]/\(e1.ds.length<=9223372036854775807/\(∀
 (e0:AV),List.Mem e0 e1.ds->List.length (ai (ae e0 1))<=9223372036854775807)/\(0:Int)<=e1.i/\e1.i<=(↑(e1.ds.length):Int))/\aC (List.any (List.drop
 e1.i.toNat e1.ds) Iw) z1 (ah z3 26 8=ah z3 26 8/\∃(e0:KV),sp 62 [(1,AV.ptr 0 0 [] 0),(3,AV.int e1.left),(5,AV.int 0)] [Obj.box 25 (AV.agg [AV.ad 61
 e1.ds,AV.ad 66 e1.rs])]=sp 62 [(1,AV.ptr 0 0 [] 0),(3,AV.int e0.left),(5,AV.int e0.i)] [Obj.box 25 (AV.agg [AV.ad 61 e0.ds,AV.ad 66 e0.rs])]/\((-1:
 Int)<=e0.left/\e0.i+e0.left<=(100000:Int)/\(0:Int)<=e0.i/\e0.i<=(↑(e0.rs.length):Int))/\aC (decide (lY (List.map tI (List.drop e0.i.toNat
 e0.rs)) e0.left<(0:Int))) z1 (aC (decide ((↑(e0.ds.length):Int)>(100:Int))) z1 (aC (decide ((↑(e0.rs.length):Int)>(300:Int))) z1 (K (AV.int 1)
 []))))):=by kernel_rfl
def Yt:List AV->Option (Bool×AV)
 |[.agg [.ad 61 ds, .ad 66 rs]]=>some (decide (ds.length<=aM)&&ds.all (fun d=>decide ((ai (ae d 1)).length<=aM)), .int (bif jV ds rs then 1 else 0))
 |_=>none
theorem p22(κ:Kp):cy (JW κ) 12 26 Yt:=by
 intro args x hh
 unfold Yt at hh
 split at hh
 ·rename_i ds rs
  simp only[aa5,ab1,aa3,aa2,List.all_eq_true] at hh
  obtain⟨⟨h1,h2⟩,rfl⟩:=hh
  refine⟨_,rfl,rfl,?_⟩
  refine Eq.mpr (y22 κ ds rs _) ?_
  refine⟨rfl,⟨ds,rs,2000,0⟩,rfl,⟨h1,h2,by simp only;omega,by simp only;omega⟩,?_⟩
  simp only[ab9,ab2,af]
  refine⟨fun e=>?_,fun e=>⟨trivial,⟨ds,rs,2000,0⟩,rfl,⟨by simp only;omega,by simp only;omega,by simp only;omega,by simp only;omega⟩,?_⟩⟩
  ·unfold jV;rw[e];rfl
  ·simp only[ab9,ab2,aa2,aa4]
   refine⟨fun e1=>?_,fun e1=>⟨fun e2=>?_,fun e2=>⟨fun e3=>?_,fun e3=>?_⟩⟩⟩
   ·unfold jV;rw[e,aa6 (show ¬ 0<=lY (rs.map tI) 2000 by omega)];rfl
   ·unfold jV;rw[aa6 (show ¬ ds.length<=100 by omega)];simp
   ·unfold jV;rw[aa6 (show ¬ rs.length<=300 by omega)];simp
   ·unfold jV;rw[e,aa8 (show 0<=lY (rs.map tI) 2000 by omega),aa8 (show ds.length<=100 by omega),aa8 (show rs.length<=300 by omega)];rfl
 ·cases hh
noncomputable def W3(κ:Kp):Env:=(JW κ).aG 26 Yt
theorem e22(κ:Kp):aD (W3 κ):=(W6 κ).aG (Vj κ) (p22 κ)
theorem m22(κ:Kp):aj (W3 κ):=(Vj κ).aG
noncomputable abbrev E9(κ:Kp):Env:=W3 κ
theorem e9(κ:Kp):aD (E9 κ):=e22 κ
theorem m9(κ:Kp):aj (E9 κ):=m22 κ
abbrev Xi(s:ByteArray):AV:= .agg [.int 1, .lit (.string s), .int 0, .ad 56 []]
theorem y13(κ:Kp)(s:ByteArray)(K:AV->List Dn.Obj->Prop):(bf (E9 κ) 12 92 [.lit (.string s)] [] K)=(
 K (AV.agg [AV.int 1,AV.str s,AV.int 0,AV.ad 56 []]) []):=by kernel_rfl
def XV:List AV->Option (Bool×AV)
 |[.lit (.string s)]=>some (true,Xi s)
 |_=>none
theorem c13(κ:Kp):qq (E9 κ) 12 92 XV:=by
 intro args x hh
 unfold XV at hh
 split at hh
 ·rename_i s
  simp only[aa5,ab1,true_and] at hh
  subst hh
  exact⟨rfl,Eq.mpr (y13 κ s _) rfl⟩
 ·cases hh
noncomputable def Ug(κ:Kp):Env:=(E9 κ).fp 92 XV
theorem e13(κ:Kp):aD (Ug κ):=(e9 κ).fp (m9 κ) (c13 κ)
theorem Zt(κ:Kp):aj (Ug κ):=(m9 κ).fp
theorem y14(κ:Kp)(r s t:ByteArray)(K:AV->List Dn.Obj->Prop):(bf (Ug κ) 12 53 [.lit (.string r), .lit (.string s), .lit (.string t)] [] K)=(
 K (AV.agg [AV.str r,AV.ad 56 [AV.agg [AV.int 1,AV.str s,AV.int 0,AV.ad 56 []],AV.agg [AV.int 1,AV.str t,AV.int 0,AV.ad 56 []]]]) []):=by kernel_rfl
def Xj:List AV->Option (Bool×AV)
 |[.lit (.string r), .lit (.string s), .lit (.string t)]=>some (true, .agg [.lit (.string r), .ad 56 [Xi s,Xi t]])
 |_=>none
theorem c14(κ:Kp):qq (Ug κ) 12 53 Xj:=by
 intro args x hh
 unfold Xj at hh
 split at hh
 ·rename_i r s t
  simp only[aa5,ab1,true_and] at hh
  subst hh
  exact⟨rfl,Eq.mpr (y14 κ r s t _) rfl⟩
 ·cases hh
noncomputable def NB(κ:Kp):Env:=(Ug κ).fp 53 Xj
theorem e14(κ:Kp):aD (NB κ):=(e13 κ).fp (Zt κ) (c14 κ)
theorem ZJ(κ:Kp):aj (NB κ):=(Zt κ).fp
theorem x15(κ:Kp)(l m:List AV)(i:Int)(I:Nat->S->Prop)(n:Nat)(K:Exit->S->Prop):(vc (NB κ) 12 16 none 0 (ah (Pr κ).toProgram 16 4) (sp 26 [(0, .ad 3 l),(1, .ad 3 m),(5, .int i)] []) (bL (NB κ) 16 4 0 I n K))=(
 letI z1:=i<(↑(l.length):Int)
 aC (decide z1) (ba (decide ((0:Int)<=i)&&decide z1) (ba (decide ((0:Int)<=i)&&decide (i<(↑(m.length):Int))) (aC (toInt (nth l i.toNat) != toInt
 (nth m i.toNat)) (K Exit.ret (sp 26 [(4,AV.bool false)] [])) (∃(e0:Nat),e0<n/\I e0 (sp 26 [(0,AV.ad 3 l),(1,AV.ad 3 m),(5,AV.int (IntKind.wrap
 IntKind.i64 (i+(1:Int))))] []))))) (K (Exit.exit 0) (sp 26 [] []))):=by kernel_rfl
def iw(l m:List AV):Bool:=decide (l.map toInt=m.map toInt)
abbrev PR(a:List AV×List AV×Int):S:=sp 26 [(0, .ad 3 a.1),(1, .ad 3 a.2.1),(5, .int a.2.2)] []
def uk(a:List AV×List AV×Int):Prop:=a.1.length=a.2.1.length/\a.1.length<=aM/\0<=a.2.2/\a.2.2<=a.1.length
def AY(a:List AV×List AV×Int):Out (Exit×S):= .aC (iw (a.1.drop a.2.2.toNat) (a.2.1.drop a.2.2.toNat)) (.one (.exit 0,sp 26 [] [])) (.one (.ret,sp 26 [(4, .bool false)] []))
theorem l15(κ:Kp):bk (NB κ) 12 16 4 (aP 0 PR uk AY):=by
 refine aL (fun a=>a.1.length - a.2.2.toNat) ?_
 rintro⟨l,m,i⟩ K ⟨h1,h2,h3,h4⟩ ho
 simp only at h1 h2 h3 h4
 rw[show(NB κ).P=Pr κ from rfl]
 refine Eq.mpr (x15 κ l m i _ _ K) ?_
 simp only[aM] at h2
 simp only[AY,Out.run,af] at ho
 simp only[af,an,aa2,aa4,aa3,bne_iff_ne,bne_eq_false_iff_eq]
 refine⟨fun hi=>⟨⟨h3,hi⟩,⟨h3,by omega⟩,?_⟩,fun hi=>?_⟩
 ·rw[ab3 (show i.toNat<l.length by omega),←aZ l i.toNat (by omega),ab3 (show i.toNat<m.length by omega),←aZ m i.toNat (by omega)] at ho
  simp only[iw,ac2,List.cons.injEq] at ho
  refine⟨fun e=>ho.2 (by simp[e]),fun e=>?_⟩
  rw[aW (n:=i+1) (by omega) (by omega)]
  refine⟨_,?_,(l,m,i+1),rfl,⟨h1,by simpa[aM] using h2,by simp only;omega,by simp only;omega⟩,rfl,?_⟩
  ·simp only;omega
  ·simp only[AY,Out.run,af,show(i+1).toNat=i.toNat+1 by omega,iw]
   simpa[e] using ho
 ·rw[ab0 (by omega),ab0 (by omega)] at ho
  exact ho.1 rfl
noncomputable def LH(κ:Kp):Env:=(NB κ).ak 16 4 (aP 0 PR uk AY)
theorem XF(κ:Kp):aD (LH κ):=(e14 κ).ak (ZJ κ) (l15 κ)
theorem VZ(κ:Kp):aj (LH κ):=(ZJ κ).ak aI
theorem y15(κ:Kp)(l m:List AV)(K:AV->List Dn.Obj->Prop):(bf (LH κ) 12 16 [.ad 3 l, .ad 3 m] [] K)=(
 letI z1:=Pg.toProgram (Env.P (NB κ))
 aC ((↑(l.length):Int) != (↑(m.length):Int)) (K (AV.bool false) []) (ah z1 16 4=ah z1 16 4/\∃(e0:List AV×List AV×Int),sp 26 [(0,AV.ad 3 l),(1,
 AV.ad 3 m),(5,AV.int 0)] []=sp 26 [(0,AV.ad 3 e0.1),(1,AV.ad 3 e0.2.1),(5,AV.int e0.2.2)] []/\(e0.1.length=e0.2.1.length/\e0.1.length<=
 9223372036854775807/\(0:Int)<=e0.2.2/\e0.2.2<=(↑(e0.1.length):Int))/\aC (iw (List.drop (Int.toNat e0.2.2) e0.1) (List.drop (Int.toNat e0.2.2) e0.2.1))
 (K (AV.bool true) []) (K (AV.bool false) []))):=by kernel_rfl
def YA:List AV->Option (Bool×AV)
 |[.ad 3 l, .ad 3 m]=>some (decide (l.length<=aM), .bool (iw l m))
 |_=>none
theorem p15(κ:Kp):cy (LH κ) 12 16 YA:=by
 intro args x hh
 unfold YA at hh
 split at hh
 ·rename_i l m
  simp only[aa5,ab1,aa2] at hh
  obtain⟨h1,rfl⟩:=hh
  refine⟨_,rfl,rfl,?_⟩
  refine Eq.mpr (y15 κ l m _) ?_
  simp only[af,bne_iff_ne,bne_eq_false_iff_eq]
  refine⟨fun e=>?_,fun e=>⟨trivial,(l,m,0),rfl,⟨by simp only;omega,h1,by simp only;omega,by simp only;omega⟩,?_⟩⟩
  ·have:iw l m=false:=by
    unfold iw
    rw[aa6]
    intro h
    have:=congrArg List.length h
    simp at this;omega
   rw[this]
  ·simp only[ab9,ab2]
   exact⟨fun e=>by rw[e],fun e=>by rw[e]⟩
 ·cases hh
noncomputable def X1(κ:Kp):Env:=(LH κ).aG 16 YA
theorem e15(κ:Kp):aD (X1 κ):=(XF κ).aG (VZ κ) (p15 κ)
theorem m15(κ:Kp):aj (X1 κ):=(VZ κ).aG
end Go.Proofs.YthaiinlfnommnaaGreatDoor
namespace Go.Proofs.YthaiinlfnommnaaGreatDoor
open Go Go.Dn Go.Rl Go.Proofs
theorem oa{b c:Bool}(h:b=c):AV.bool b= .lit (.bool c):=by rw[h]
theorem Qd(a b:Int):(a==b)=decide (a=b):=by by_cases h:a=b<;>simp[h]
theorem JK(a b:Int):(a != b)= !decide (a=b):=by by_cases h:a=b<;>simp[h]
structure AT where
 op:Int
 s:ByteArray
 n:Int
 l:List AV
def AT.tm(a:AT):Tm:= .mk a.op a.s a.n (aa a.l)
def uv(x:AV):AT:=⟨toInt (ae x 0),toStr (ae x 1),toInt (ae x 2),ai (ae x 3)⟩
theorem lb(x:AV):(uv x).tm=cx x:=by rw[cz];rfl
abbrev cv(a:AT):AV:= .agg [.int a.op, .lit (.string a.s), .int a.n, .ad 56 a.l]
theorem xG{a:cq}(h:df a):(dc (aH a)).length<=100000:=by
 have h6:=cF (aa (bn 56 a.hl a.bl))
 rw[iJ 56 a.rel a.hl a.bl] at h6
 have h7:=lg (fw (aH a)) []
 unfold dc
 cases aQ (aH a)
 ·exact Nat.zero_le _
 ·rw[aa9];exact Nat.le_trans h7 (Nat.le_trans h6 h.1)
end Go.Proofs.YthaiinlfnommnaaGreatDoor
