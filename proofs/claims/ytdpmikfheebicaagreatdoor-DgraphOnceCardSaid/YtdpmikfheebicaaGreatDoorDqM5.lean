import Derived.Test.YtdpmikfheebicaaGreatDoorDqM4
import Derived.Test.YtdpmikfheebicaaGreatDoorDqM1
namespace Go.Proofs.YtdpmikfheebicaaGreatDoor
open Go Go.Dn Go.Rl Go.Proofs
attribute [local irreducible] bg vc
set_option maxRecDepth 20000
noncomputable abbrev lp8(a:ba)(ws:List AV)(κ:Kp)(st:LoopState)(p:Option Code):Dn.Obj:=
 .loop (il (Pr κ).toProgram 73 5 st p (ie (bK 63) [(0,an a),(1, .ptr 0 0 [] 0),(2, .ptr 1 0 [] 0),(3, .ptr 2 0 [] 0),(4, .az 3 0 ws.length),(5, .int 0),(10, .bp [.az 3 0 ws.length, .int 0]),(11,an a),(12, .bp [.az 3 0 ws.length, .int 0]),(13, .az 3 0 ws.length),(14, .int 0),(15, .int 0),(16, .bool false),(18,an a),(19, .bP 125 [.ptr 4 0 [] 0])]))
noncomputable abbrev Bs(κ:Kp)(a:ba)(ws:List AV)(b:Bool)(st:LoopState)(p:Option Code):List Dn.Obj:=[.box 41 (an a), .box 4 (.bool b), .box 28 (.int 0), .row 3 ws, .box 41 (an a),lp8 a ws κ st p]
theorem x8(κ:Kp)(a:ba)(ws:List AV)(es:List (Value×AV))(done:List AV)(i:Int)(I:Nat->S->Prop)(n:Nat)(K:Exit->S->Prop):(vc (Ln κ) 12 125 none 6 (ag (Pr κ).toProgram 125 3) (sp 38 [(0, .cx 5),(1, .ptr 4 0 [] 0),(3, .mp 6),(4, .az 7 0 done.length),(13, .int a.bl.length),(14, .int i)] (Bs κ a ws false .ready none++[.map 9 4 es, .row 4 done])) (bI (Ln κ) 125 3 6 I n K))=(
 letI z1:=ie (bK 63) [(0,an a),(1,AV.ptr 0 0 [] 0),(2,AV.ptr 1 0 [] 0),(3,AV.ptr 2 0 [] 0),(4,AV.az 3 0 ws.length),(5,AV.int 0),(10,AV.bp [AV.az 3
  0 ws.length,AV.int 0]),(11,an a),(12,AV.bp [AV.az 3 0 ws.length,AV.int 0]),(13,AV.az 3 0 ws.length),(14,AV.int 0),(15,AV.int 0),(16,AV.bool
  false),(18,an a),(19,AV.bP 125 [AV.ptr 4 0 [] 0])]
 letI z3:=il Tryz.prog 73 5 LoopState.ready none z1
 letI z4:=IntKind.wrap IntKind.i64 (i+(1:Int))
 letI z6:=a.bl.length
 letI z7:=AV.bool false
 letI z5:=sp 38 [] [Obj.box 41 (an a),Obj.box 4 z7,Obj.box 28 (AV.int 0),Obj.row 3 ws,Obj.box 41 (an a),Dn.Obj.loop z3]
 letI z8:=AV.bool true
 letI z2:=K Exit.ret (sp 38 [] [Obj.box 41 (an a),Obj.box 4 z8,Obj.box 28 (AV.int 0),Obj.row 3 ws,Obj.box 41 (an a),Dn.Obj.loop (il Tryz.prog 73 5
  LoopState.done (some Code.ret) z1)])
 letI z9:=done.length
 letI z10:=Value×AV
 ax (decide (i<(↑z6:Int))) (∃(e5:GB),([an a,AV.az 0 0 done.length,AV.mp 1],[Obj.row 4 done,Dn.Obj.map 9 4 es])=([an e5.a,AV.az 0 0 (List.length
 (a6 e5.done)),AV.mp 1],[Obj.row 4 (a6 e5.done),Dn.Obj.map 9 4 (bL e5.b)])/\(aU (aJ e5.a)=true/\(aM (aa (aH 52 e5.a.hl e5.a.bl))<=100000/\List.length
 e5.a.bl<=100000)/\e5.done.length=List.length e5.a.bl)/\ax (decide (aE (aJ e5.a) e5.done e5.b<(0:Int))) (K Exit.ret z5) (aO (decide ((0:Int)<=aE (aJ
 e5.a) e5.done e5.b)&&decide (aE (aJ e5.a) e5.done e5.b<(↑z6:Int))) (ax (toInt (ad (nth a.bl (Int.toNat (aE (aJ e5.a) e5.done e5.b))) 0)==(3:Int)) (∃
 (e4:TA),([AV.mp 0,AV.agg [AV.int (toInt (ad (ad (nth a.bl (Int.toNat (aE (aJ e5.a) e5.done e5.b))) 2) 0)),AV.str (toStr (ad (ad (nth a.bl (Int.toNat (aE
 (aJ e5.a) e5.done e5.b))) 2) 1)),AV.int (toInt (ad (ad (nth a.bl (Int.toNat (aE (aJ e5.a) e5.done e5.b))) 2) 2)),AV.ae 52 (ah (ad (ad (nth a.bl (Int.toNat (aE
 (aJ e5.a) e5.done e5.b))) 2) 3))],AV.agg [AV.int (toInt (ad (ad (nth a.bl (Int.toNat (aE (aJ e5.a) e5.done e5.b))) 3) 0)),AV.str (toStr (ad (ad (nth a.bl
 (Int.toNat (aE (aJ e5.a) e5.done e5.b))) 3) 1)),AV.int (toInt (ad (ad (nth a.bl (Int.toNat (aE (aJ e5.a) e5.done e5.b))) 3) 2)),AV.ae 52 (ah (ad (ad (nth a.bl
 (Int.toNat (aE (aJ e5.a) e5.done e5.b))) 3) 3))]],[Dn.Obj.map 9 4 (bL e5.b)])=([AV.mp 0,AV.agg [AV.int e4.o1,AV.str e4.s1,AV.int e4.n1,AV.ae 52 e4.l1],
 AV.agg [AV.int e4.o2,AV.str e4.s2,AV.int e4.n2,AV.ae 52 e4.l2]],[Dn.Obj.map 9 4 e4.es])/\gX e4/\ax (kF e4.es (TA.x e4) (TA.y e4)) (ax (decide (toInt (ad
 (ad (nth a.bl (Int.toNat (aE (aJ e5.a) e5.done e5.b))) 3) 0)>=(5:Int))) z2 (∃(e3:TA),([AV.mp 0,AV.agg [AV.int (toInt (ad (ad (nth a.bl (Int.toNat (aE
 (aJ e5.a) e5.done e5.b))) 3) 0)),AV.str (toStr (ad (ad (nth a.bl (Int.toNat (aE (aJ e5.a) e5.done e5.b))) 3) 1)),AV.int (toInt (ad (ad (nth a.bl (Int.toNat
 (aE (aJ e5.a) e5.done e5.b))) 3) 2)),AV.ae 52 (ah (ad (ad (nth a.bl (Int.toNat (aE (aJ e5.a) e5.done e5.b))) 3) 3))],AV.agg [AV.int (toInt (ad (ad (nth a.bl
 (Int.toNat (aE (aJ e5.a) e5.done e5.b))) 2) 0)),AV.str (toStr (ad (ad (nth a.bl (Int.toNat (aE (aJ e5.a) e5.done e5.b))) 2) 1)),AV.int (toInt (ad (ad (nth
 a.bl (Int.toNat (aE (aJ e5.a) e5.done e5.b))) 2) 2)),AV.ae 52 (ah (ad (ad (nth a.bl (Int.toNat (aE (aJ e5.a) e5.done e5.b))) 2) 3))]],[Dn.Obj.map 9 4 e4.es])
 =([AV.mp 0,AV.agg [AV.int e3.o1,AV.str e3.s1,AV.int e3.n1,AV.ae 52 e3.l1],AV.agg [AV.int e3.o2,AV.str e3.s2,AV.int e3.n2,AV.ae 52 e3.l2]],[Dn.Obj.map
 9 4 e3.es])/\gX e3/\ax (kF e3.es (TA.x e3) (TA.y e3)) (ax (decide (toInt (ad (ad (nth a.bl (Int.toNat (aE (aJ e5.a) e5.done e5.b))) 2) 0)>=(5:Int))) z2 (ax
 (decide ((7:Int)<=toInt (ad (nth a.bl (Int.toNat (aE (aJ e5.a) e5.done e5.b))) 0))) z2 (aO (decide ((0:Int)<=aE (aJ e5.a) e5.done e5.b)&&decide (aE (aJ
 e5.a) e5.done e5.b<(↑z9:Int))) (∃(e2:ba×Int),([an a,AV.int (aE (aJ e5.a) e5.done e5.b)],aB)=([an e2.1,AV.int e2.2],aB)/\(aU (aJ e2.1)=true/\
 (aM (aa (aH 52 e2.1.hl e2.1.bl))<=100000/\e2.1.bl.length<=100000)/\(0:Int)<=e2.2/\e2.2<(↑(e2.1.bl.length):Int))/\∃(e1:List AV×List z10),
 ([AV.mp 0,AV.ae 9 (strs (cK (aJ e2.1) e2.2.toNat))],[Dn.Obj.map 9 4 e3.es])=([AV.mp 0,AV.ae 9 e1.1],[Dn.Obj.map 9 4 e1.2])/\bd e1/\∃(e0:Nat),e0<n
 /\I e0 (sp 38 [(0,AV.cx 5),(1,AV.ptr 4 0 [] 0),(3,AV.mp 6),(4,AV.az 7 0 done.length),(13,AV.int (↑z6:Int)),(14,AV.int z4)] [Obj.box 41 (an a),
 Obj.box 4 z7,Obj.box 28 (AV.int 0),Obj.row 3 ws,Obj.box 41 (an a),Dn.Obj.loop z3,Dn.Obj.map 9 4 (fc e1.2 e1.1),Obj.row 4 (bQ (a6 e5.done) (0+Int.toNat
 (aE (aJ e5.a) e5.done e5.b)) z8)]))))) (ax (decide ((7:Int)<=toInt (ad (nth a.bl (Int.toNat (aE (aJ e5.a) e5.done e5.b))) 0))) z2 (aO (decide ((0:Int)<=aE
 (aJ e5.a) e5.done e5.b)&&decide (aE (aJ e5.a) e5.done e5.b<(↑z9:Int))) (∃(e2:ba×Int),([an a,AV.int (aE (aJ e5.a) e5.done e5.b)],aB)=([an e2.1,
 AV.int e2.2],aB)/\(aU (aJ e2.1)=true/\(aM (aa (aH 52 e2.1.hl e2.1.bl))<=100000/\e2.1.bl.length<=100000)/\(0:Int)<=e2.2/\e2.2<(↑(e2.1.bl.length):
 Int))/\∃(e1:List AV×List z10),([AV.mp 0,AV.ae 9 (strs (cK (aJ e2.1) e2.2.toNat))],[Dn.Obj.map 9 4 e3.es])=([AV.mp 0,AV.ae 9 e1.1],[Dn.Obj.map 9 4
 e1.2])/\bd e1/\∃(e0:Nat),e0<n/\I e0 (sp 38 [(0,AV.cx 5),(1,AV.ptr 4 0 [] 0),(3,AV.mp 6),(4,AV.az 7 0 done.length),(13,AV.int (↑z6:Int)),
 (14,AV.int z4)] [Obj.box 41 (an a),Obj.box 4 z7,Obj.box 28 (AV.int 0),Obj.row 3 ws,Obj.box 41 (an a),Dn.Obj.loop z3,Dn.Obj.map 9 4 (fc e1.2 e1.1),
 Obj.row 4 (bQ (a6 e5.done) (0+Int.toNat (aE (aJ e5.a) e5.done e5.b)) z8)])))))) (∃(e3:TA),([AV.mp 0,AV.agg [AV.int (toInt (ad (ad (nth a.bl (Int.toNat
 (aE (aJ e5.a) e5.done e5.b))) 3) 0)),AV.str (toStr (ad (ad (nth a.bl (Int.toNat (aE (aJ e5.a) e5.done e5.b))) 3) 1)),AV.int (toInt (ad (ad (nth a.bl
 (Int.toNat (aE (aJ e5.a) e5.done e5.b))) 3) 2)),AV.ae 52 (ah (ad (ad (nth a.bl (Int.toNat (aE (aJ e5.a) e5.done e5.b))) 3) 3))],AV.agg [AV.int (toInt (ad (ad
 (nth a.bl (Int.toNat (aE (aJ e5.a) e5.done e5.b))) 2) 0)),AV.str (toStr (ad (ad (nth a.bl (Int.toNat (aE (aJ e5.a) e5.done e5.b))) 2) 1)),AV.int (toInt (ad
 (ad (nth a.bl (Int.toNat (aE (aJ e5.a) e5.done e5.b))) 2) 2)),AV.ae 52 (ah (ad (ad (nth a.bl (Int.toNat (aE (aJ e5.a) e5.done e5.b))) 2) 3))]],[Dn.Obj.map 9 4
 e4.es])=([AV.mp 0,AV.agg [AV.int e3.o1,AV.str e3.s1,AV.int e3.n1,AV.ae 52 e3.l1],AV.agg [AV.int e3.o2,AV.str e3.s2,AV.int e3.n2,AV.ae 52 e3.l2]],
 [Dn.Obj.map 9 4 e3.es])/\gX e3/\ax (kF e3.es (TA.x e3) (TA.y e3)) (ax (decide (toInt (ad (ad (nth a.bl (Int.toNat (aE (aJ e5.a) e5.done e5.b))) 2) 0)>=(5:
 Int))) z2 (ax (decide ((7:Int)<=toInt (ad (nth a.bl (Int.toNat (aE (aJ e5.a) e5.done e5.b))) 0))) z2 (aO (decide ((0:Int)<=aE (aJ e5.a) e5.done e5.b)&&
 decide (aE (aJ e5.a) e5.done e5.b<(↑z9:Int))) (∃(e2:ba×Int),([an a,AV.int (aE (aJ e5.a) e5.done e5.b)],aB)=([an e2.1,AV.int e2.2],aB)/\(aU (aJ
 e2.1)=true/\(aM (aa (aH 52 e2.1.hl e2.1.bl))<=100000/\e2.1.bl.length<=100000)/\(0:Int)<=e2.2/\e2.2<(↑(e2.1.bl.length):Int))/\∃(e1:List AV×
 List z10),([AV.mp 0,AV.ae 9 (strs (cK (aJ e2.1) e2.2.toNat))],[Dn.Obj.map 9 4 e3.es])=([AV.mp 0,AV.ae 9 e1.1],[Dn.Obj.map 9 4 e1.2])/\bd e1/\∃(e0:
 Nat),e0<n/\I e0 (sp 38 [(0,AV.cx 5),(1,AV.ptr 4 0 [] 0),(3,AV.mp 6),(4,AV.az 7 0 done.length),(13,AV.int (↑z6:Int)),(14,AV.int z4)] [Obj.box 41
 (an a),Obj.box 4 z7,Obj.box 28 (AV.int 0),Obj.row 3 ws,Obj.box 41 (an a),Dn.Obj.loop z3,Dn.Obj.map 9 4 (fc e1.2 e1.1),Obj.row 4 (bQ (a6 e5.done) (0+
 Int.toNat (aE (aJ e5.a) e5.done e5.b)) z8)]))))) (ax (decide ((7:Int)<=toInt (ad (nth a.bl (Int.toNat (aE (aJ e5.a) e5.done e5.b))) 0))) z2 (aO (decide ((0:
 Int)<=aE (aJ e5.a) e5.done e5.b)&&decide (aE (aJ e5.a) e5.done e5.b<(↑z9:Int))) (∃(e2:ba×Int),([an a,AV.int (aE (aJ e5.a) e5.done e5.b)],aB)=
 ([an e2.1,AV.int e2.2],aB)/\(aU (aJ e2.1)=true/\(aM (aa (aH 52 e2.1.hl e2.1.bl))<=100000/\e2.1.bl.length<=100000)/\(0:Int)<=e2.2/\e2.2<
 (↑(e2.1.bl.length):Int))/\∃(e1:List AV×List z10),([AV.mp 0,AV.ae 9 (strs (cK (aJ e2.1) e2.2.toNat))],[Dn.Obj.map 9 4 e3.es])=([AV.mp 0,AV.ae 9
 e1.1],[Dn.Obj.map 9 4 e1.2])/\bd e1/\∃(e0:Nat),e0<n/\I e0 (sp 38 [(0,AV.cx 5),(1,AV.ptr 4 0 [] 0),(3,AV.mp 6),(4,AV.az 7 0 done.length),(13,
 AV.int (↑z6:Int)),(14,AV.int z4)] [Obj.box 41 (an a),Obj.box 4 z7,Obj.box 28 (AV.int 0),Obj.row 3 ws,Obj.box 41 (an a),Dn.Obj.loop z3,Dn.Obj.map 9 4
 (fc e1.2 e1.1),Obj.row 4 (bQ (a6 e5.done) (0+Int.toNat (aE (aJ e5.a) e5.done e5.b)) z8)])))))) (ax (decide ((7:Int)<=toInt (ad (nth a.bl (Int.toNat (aE
 (aJ e5.a) e5.done e5.b))) 0))) z2 (aO (decide ((0:Int)<=aE (aJ e5.a) e5.done e5.b)&&decide (aE (aJ e5.a) e5.done e5.b<(↑z9:Int))) (∃(e2:ba×Int),
 ([an a,AV.int (aE (aJ e5.a) e5.done e5.b)],aB)=([an e2.1,AV.int e2.2],aB)/\(aU (aJ e2.1)=true/\(aM (aa (aH 52 e2.1.hl e2.1.bl))<=100000/\
 e2.1.bl.length<=100000)/\(0:Int)<=e2.2/\e2.2<(↑(e2.1.bl.length):Int))/\∃(e1:List AV×List z10),([AV.mp 0,AV.ae 9 (strs (cK (aJ e2.1)
 e2.2.toNat))],[Dn.Obj.map 9 4 (bL e5.b)])=([AV.mp 0,AV.ae 9 e1.1],[Dn.Obj.map 9 4 e1.2])/\bd e1/\∃(e0:Nat),e0<n/\I e0 (sp 38 [(0,AV.cx 5),(1,
 AV.ptr 4 0 [] 0),(3,AV.mp 6),(4,AV.az 7 0 done.length),(13,AV.int (↑z6:Int)),(14,AV.int z4)] [Obj.box 41 (an a),Obj.box 4 z7,Obj.box 28 (AV.int 0),
 Obj.row 3 ws,Obj.box 41 (an a),Dn.Obj.loop z3,Dn.Obj.map 9 4 (fc e1.2 e1.1),Obj.row 4 (bQ (a6 e5.done) (0+Int.toNat (aE (aJ e5.a) e5.done e5.b))
 z8)]))))))) (K (Exit.exit 0) z5)):=by kernel_rfl
structure A8 where
 a:ba
 ws:List AV
 done:List Bool
 b:List ByteArray
 i:Int
noncomputable abbrev LJ(κ:Kp)(a:A8):S:=sp 38 [(0, .cx 5),(1, .ptr 4 0 [] 0),(3, .mp 6),(4, .az 7 0 (a6 a.done).length),(13, .int a.a.bl.length),(14, .int a.i)] (Bs κ a.a a.ws false .ready none++[.map 9 4 (bL a.b), .row 4 (a6 a.done)])
def Ct(a:A8):Prop:=aU (aJ a.a)=true/\dr a.a/\0<=a.i/\a.i<=a.a.bl.length/\a.done.length=a.a.bl.length
noncomputable def FC(a:A8):Bool:=H4 (aJ a.a) (a.a.bl.length - a.i.toNat) a.done a.b
noncomputable def Az(κ:Kp)(a:A8):Out (Exit×S):= .ax (FC a) (.one (.ret,sp 38 [] (Bs κ a.a a.ws true .done (some .ret)))) (.all (fun _:Bool=>True) fun e=> .ax e (.one (.ret,sp 38 [] (Bs κ a.a a.ws false .ready none))) (.one (.exit 0,sp 38 [] (Bs κ a.a a.ws false .ready none))))
theorem FN(r:Rl)(n:Nat)(done:List Bool)(b:List ByteArray):H4 r (n+1) done b=
  bif decide (aE r done b<0) then false else FL r b (aE r done b).toNat||H4 r n (done.set (aE r done b).toNat true) (b++cK r (aE r done b).toNat):=rfl
theorem l8(κ:Kp):bn (Ln κ) 12 125 3 (aQ 6 (LJ κ) Ct (Az κ)):=by
 refine aR (fun a=>a.a.bl.length - a.i.toNat) ?_
 rintro⟨a,ws,done,b,i⟩ K ⟨h1,h2,h3,h4,h5⟩ ho
 simp only at h1 h2 h3 h4 h5
 rw[show(Ln κ).P=Pr κ from rfl]
 refine Eq.mpr (x8 κ a ws (bL b) (a6 done) i _ _ K) ?_
 simp only[Az,Out.run,af,FC] at ho
 simp only[and_self]
 have hbl:=iD done
 have hl:=h2.2
 rw[af,aa0,aa2]
 refine⟨fun hi=>⟨⟨a,done,b,0,0⟩,rfl,⟨h1,h2,h5⟩,?_⟩,fun hi=>?_⟩
 ·have hw:=FN (aJ a) (a.bl.length - (i.toNat+1)) done b
  rw[show a.bl.length - (i.toNat+1)+1=a.bl.length - i.toNat by omega] at hw
  rw[af,aa0,aa2]
  refine⟨fun e=>?_,fun e=>?_⟩
  ·rw[hw,aa6 e] at ho
   exact(ho.2 rfl true trivial).1 rfl
  ·rw[hw,aa4 e,aa5] at ho
   rcases oU (aJ a) done b with e0|⟨e1,e2,e3,_⟩
   ·rw[e0] at e;omega
   have e2':=e2
   rw[hJ] at e2'
   have hg:=wC h2 e2'
   have hlit:=j8 h2 e2'
   have e2i:aE (aJ a) done b<a.bl.length:=by omega
   have hsd:bd (strs (cK (aJ a) (aE (aJ a) done b).toNat),bL b):=by simp only[bd,bf,aP];omega
   have hbnd:(decide (0<=aE (aJ a) done b)&&decide (aE (aJ a) done b<(a.bl.length:Int)))=true:=by simp[e1,e2i]
   have hbnd2:(decide (0<=aE (aJ a) done b)&&decide (aE (aJ a) done b<((a6 done).length:Int)))=true:=by rw[hbl,h5];exact hbnd
   have hlc:iR (cm (nth a.bl (aE (aJ a) done b).toNat))=aM [cG (ad (nth a.bl (aE (aJ a) done b).toNat) 2),cG (ad (nth a.bl (aE (aJ a) done b).toNat) 3)]+aM (aa (ah (ad (ad (nth a.bl (aE (aJ a) done b).toNat) 1) 1))):=rfl
   have hcx:aM [cG (ad (nth a.bl (aE (aJ a) done b).toNat) 2)]<=100000/\aM [cG (ad (nth a.bl (aE (aJ a) done b).toNat) 3)]<=100000:=by
    simp only[aM] at hlc⊢;omega
   have hx1:gX (kH (ad (nth a.bl (aE (aJ a) done b).toNat) 2) (ad (nth a.bl (aE (aJ a) done b).toNat) 3) (bL b)):=by unfold gX kH;rw[mB];exact hcx.2
   have hx2:gX (kH (ad (nth a.bl (aE (aJ a) done b).toNat) 3) (ad (nth a.bl (aE (aJ a) done b).toNat) 2) (bL b)):=by unfold gX kH;rw[mB];exact hcx.1
   have ta1:kF (kH (ad (nth a.bl (aE (aJ a) done b).toNat) 2) (ad (nth a.bl (aE (aJ a) done b).toNat) 3) (bL b)).es (kH (ad (nth a.bl (aE (aJ a) done b).toNat) 2) (ad (nth a.bl (aE (aJ a) done b).toNat) 3) (bL b)).x (kH (ad (nth a.bl (aE (aJ a) done b).toNat) 2) (ad (nth a.bl (aE (aJ a) done b).toNat) 3) (bL b)).y=kJ b (cG (ad (nth a.bl (aE (aJ a) done b).toNat) 2)) (cG (ad (nth a.bl (aE (aJ a) done b).toNat) 3)):=by
    unfold kH;rw[yz,mB,nJ]
   have ta2:kF (kH (ad (nth a.bl (aE (aJ a) done b).toNat) 3) (ad (nth a.bl (aE (aJ a) done b).toNat) 2) (bL b)).es (kH (ad (nth a.bl (aE (aJ a) done b).toNat) 3) (ad (nth a.bl (aE (aJ a) done b).toNat) 2) (bL b)).x (kH (ad (nth a.bl (aE (aJ a) done b).toNat) 3) (ad (nth a.bl (aE (aJ a) done b).toNat) 2) (bL b)).y=kJ b (cG (ad (nth a.bl (aE (aJ a) done b).toNat) 3)) (cG (ad (nth a.bl (aE (aJ a) done b).toNat) 2)):=by
    unfold kH;rw[yz,mB,nJ]
   have hinv:FL (aJ a) b (aE (aJ a) done b).toNat=((decide (toInt (ad (nth a.bl (aE (aJ a) done b).toNat) 0)=3)&&(kJ b (cG (ad (nth a.bl (aE (aJ a) done b).toNat) 2)) (cG (ad (nth a.bl (aE (aJ a) done b).toNat) 3))&&decide (toInt (ad (ad (nth a.bl (aE (aJ a) done b).toNat) 3) 0)>=5)||kJ b (cG (ad (nth a.bl (aE (aJ a) done b).toNat) 3)) (cG (ad (nth a.bl (aE (aJ a) done b).toNat) 2))&&decide (toInt (ad (ad (nth a.bl (aE (aJ a) done b).toNat) 2) 0)>=5)))||decide (7<=toInt (ad (nth a.bl (aE (aJ a) done b).toNat) 0))):=by
    have o1:(cG (ad (nth a.bl (aE (aJ a) done b).toNat) 2)).op=toInt (ad (ad (nth a.bl (aE (aJ a) done b).toNat) 2) 0):=by rw[cE];rfl
    have o2:(cG (ad (nth a.bl (aE (aJ a) done b).toNat) 3)).op=toInt (ad (ad (nth a.bl (aE (aJ a) done b).toNat) 3) 0):=by rw[cE];rfl
    unfold FL
    rw[show(aJ a).body=cC a.bl from rfl,jL _ e2',show(cm (nth a.bl (aE (aJ a) done b).toNat)).op=toInt (ad (nth a.bl (aE (aJ a) done b).toNat) 0) from rfl,show(cm (nth a.bl (aE (aJ a) done b).toNat)).x=cG (ad (nth a.bl (aE (aJ a) done b).toNat) 2) from rfl,show(cm (nth a.bl (aE (aJ a) done b).toNat)).y=cG (ad (nth a.bl (aE (aJ a) done b).toNat) 3) from rfl,o1,o2]
   have h3t:(toInt (ad (nth a.bl (aE (aJ a) done b).toNat) 0)==3)=true->decide (toInt (ad (nth a.bl (aE (aJ a) done b).toNat) 0)=3)=true:=fun e=>by simpa using e
   have h3f:(toInt (ad (nth a.bl (aE (aJ a) done b).toNat) 0)==3)=false->decide (toInt (ad (nth a.bl (aE (aJ a) done b).toNat) 0)=3)=false:=fun e=>by simpa using e
   have ho1:FL (aJ a) b (aE (aJ a) done b).toNat=true->K .ret (sp 38 [] (Bs κ a ws true .done (some .ret))):=fun e=>ho.1 (by rw[e];rfl)
   have nx:FL (aJ a) b (aE (aJ a) done b).toNat=false->∃m,m<a.bl.length - i.toNat/\fw (LJ κ) Ct (Az κ) (fun a=>a.a.bl.length - a.i.toNat) K m (sp 38 [(0, .cx 5),(1, .ptr 4 0 [] 0),(3, .mp 6),(4, .az 7 0 (a6 done).length),(13, .int a.bl.length),(14, .int (IntKind.wrap .i64 (i+1)))] (Bs κ a ws false .ready none++[.map 9 4 (fc (bL b) (strs (cK (aJ a) (aE (aJ a) done b).toNat))), .row 4 (bQ (a6 done) (0+(aE (aJ a) done b).toNat) (.lit (.bool true)))])):=by
    intro e
    rw[e,Bool.false_or] at ho
    rw[a5 (n:=i+1) (by omega) (by omega)]
    refine⟨_,?_,⟨a,ws,done.set (aE (aJ a) done b).toNat true,b++cK (aJ a) (aE (aJ a) done b).toNat,i+1⟩,?_,⟨h1,h2,by simp only;omega,by simp only;omega,by simpa using h5⟩,rfl,?_⟩
    ·simp only;omega
    ·simp only[LJ,Nat.zero_add,lR,mE,iD,List.length_set]
    ·simp only[Az,Out.run,af,FC,show(i+1).toNat=i.toNat+1 by omega]
     exact ho
   rw[au]
   refine⟨hbnd,?_⟩
   rw[af]
   exact⟨fun f3=>⟨kH (ad (nth a.bl (aE (aJ a) done b).toNat) 2) (ad (nth a.bl (aE (aJ a) done b).toNat) 3) (bL b),rfl,hx1,by
   rw[ta1]
   exact af.2 ⟨fun g1=>af.2 ⟨fun g4=>ho1 (by rw[hinv,h3t f3,g1,g4];simp),fun g4=>⟨kH (ad (nth a.bl (aE (aJ a) done b).toNat) 3) (ad (nth a.bl (aE (aJ a) done b).toNat) 2) (bL b),rfl,hx2,by
   rw[ta2]
   exact af.2 ⟨fun g2=>af.2 ⟨fun g3=>ho1 (by rw[hinv,h3t f3,g1,g4,g2,g3];simp),fun g3=>af.2 ⟨fun f7=>ho1 (by rw[hinv,h3t f3,g1,g4,g2,g3,f7];simp),fun f7=>au.2 ⟨hbnd2,(a,(aE (aJ a) done b)),rfl,⟨h1,h2,e1,e2i⟩,(strs (cK (aJ a) (aE (aJ a) done b).toNat),bL b),rfl,hsd,nx (by rw[hinv,h3t f3,g1,g4,g2,g3,f7];simp)⟩⟩⟩,fun g2=>af.2 ⟨fun f7=>ho1 (by rw[hinv,h3t f3,g1,g4,g2,f7];simp),fun f7=>au.2 ⟨hbnd2,(a,(aE (aJ a) done b)),rfl,⟨h1,h2,e1,e2i⟩,(strs (cK (aJ a) (aE (aJ a) done b).toNat),bL b),rfl,hsd,nx (by rw[hinv,h3t f3,g1,g4,g2,f7];simp)⟩⟩⟩⟩⟩,fun g1=>⟨kH (ad (nth a.bl (aE (aJ a) done b).toNat) 3) (ad (nth a.bl (aE (aJ a) done b).toNat) 2) (bL b),rfl,hx2,by
   rw[ta2]
   exact af.2 ⟨fun g2=>af.2 ⟨fun g3=>ho1 (by rw[hinv,h3t f3,g1,g2,g3];simp),fun g3=>af.2 ⟨fun f7=>ho1 (by rw[hinv,h3t f3,g1,g2,g3,f7];simp),fun f7=>au.2 ⟨hbnd2,(a,(aE (aJ a) done b)),rfl,⟨h1,h2,e1,e2i⟩,(strs (cK (aJ a) (aE (aJ a) done b).toNat),bL b),rfl,hsd,nx (by rw[hinv,h3t f3,g1,g2,g3,f7];simp)⟩⟩⟩,fun g2=>af.2 ⟨fun f7=>ho1 (by rw[hinv,h3t f3,g1,g2,f7];simp),fun f7=>au.2 ⟨hbnd2,(a,(aE (aJ a) done b)),rfl,⟨h1,h2,e1,e2i⟩,(strs (cK (aJ a) (aE (aJ a) done b).toNat),bL b),rfl,hsd,nx (by rw[hinv,h3t f3,g1,g2,f7];simp)⟩⟩⟩⟩⟩⟩,fun f3=>af.2 ⟨fun f7=>ho1 (by rw[hinv,h3f f3,f7];simp),fun f7=>au.2 ⟨hbnd2,(a,(aE (aJ a) done b)),rfl,⟨h1,h2,e1,e2i⟩,(strs (cK (aJ a) (aE (aJ a) done b).toNat),bL b),rfl,hsd,nx (by rw[hinv,h3f f3,f7];simp)⟩⟩⟩
 ·rw[show a.bl.length - i.toNat=0 by omega] at ho
  exact(ho.2 rfl false trivial).2 rfl
noncomputable def Qq(κ:Kp):Env:=(Ln κ).aj 125 3 (aQ 6 (LJ κ) Ct (Az κ))
theorem e8l(κ:Kp):aC (Qq κ):=(Vo κ).aj (Tc κ) (l8 κ)
theorem U1(κ:Kp):ai (Qq κ):=(Tc κ).aj aG
theorem y8(κ:Kp)(a:ba)(K:AV->List Dn.Obj->Prop):(bg (Qq κ) 12 73 [an a] [] K)=(
 letI z1:=a.bl.length
 letI z2:=K (AV.bp [AV.bool false,AV.int 0]) []
 letI z3:=Pg.toProgram (Env.P (Ln κ))
 letI z4:=AV.bool false
 letI z5:=Int.toNat (↑z1:Int)
 ∃(e2:ba),([an a],aB)=([an e2],aB)/\(aM (aa (aH 52 e2.hl e2.bl))<=100000/\e2.bl.length<=100000)/\ax (aU (aJ e2)) (ax (kc (aJ e2)) (aO (true&&
 decide ((↑z1:Int)<=(↑z1:Int))&&decide ((Int.toNat (↑z1:Int)+1)*2<=70368744177664)&&true) (ag z3 125 3=ag z3 125 3/\∃(e1:A8),sp 38 [(0,
 AV.cx 5),(1,AV.ptr 4 0 [] 0),(3,AV.mp 6),(4,AV.az 7 0 z5),(13,AV.int (↑z1:Int)),(14,AV.int 0)] [Obj.box 41 (an a),Obj.box 4 z4,Obj.box 28 (AV.int
 0),Obj.row 3 (ints (fk (aJ e2))),Obj.box 41 (an a),Dn.Obj.loop (il Tryz.prog 73 5 LoopState.ready none (ie (bK 63) [(0,an a),(1,AV.ptr 0 0 [] 0),(2,
 AV.ptr 1 0 [] 0),(3,AV.ptr 2 0 [] 0),(4,AV.az 3 0 (List.length (fk (aJ e2)))),(5,AV.int 0),(10,AV.bp [AV.az 3 0 (List.length (fk (aJ e2))),AV.int 0]),
 (11,an a),(12,AV.bp [AV.az 3 0 (List.length (fk (aJ e2))),AV.int 0]),(13,AV.az 3 0 (List.length (fk (aJ e2)))),(14,AV.int 0),(15,AV.int 0),(16,
 AV.bool false),(18,an a),(19,AV.bP 125 [AV.ptr 4 0 [] 0])])),Dn.Obj.map 9 4 [],Obj.row 4 (ee z4 z5)]=sp 38 [(0,AV.cx 5),(1,AV.ptr 4 0 [] 0),(3,
 AV.mp 6),(4,AV.az 7 0 (List.length (a6 e1.done))),(13,AV.int (↑(List.length e1.a.bl):Int)),(14,AV.int e1.i)] [Obj.box 41 (an e1.a),Obj.box 4 z4,
 Obj.box 28 (AV.int 0),Obj.row 3 e1.ws,Obj.box 41 (an e1.a),Dn.Obj.loop (il Tryz.prog 73 5 LoopState.ready none (ie (bK 63) [(0,an e1.a),(1,AV.ptr 0 0 []
 0),(2,AV.ptr 1 0 [] 0),(3,AV.ptr 2 0 [] 0),(4,AV.az 3 0 e1.ws.length),(5,AV.int 0),(10,AV.bp [AV.az 3 0 e1.ws.length,AV.int 0]),(11,an e1.a),(12,
 AV.bp [AV.az 3 0 e1.ws.length,AV.int 0]),(13,AV.az 3 0 e1.ws.length),(14,AV.int 0),(15,AV.int 0),(16,AV.bool false),(18,an e1.a),(19,AV.bP 125
 [AV.ptr 4 0 [] 0])])),Dn.Obj.map 9 4 (bL e1.b),Obj.row 4 (a6 e1.done)]/\(aU (aJ e1.a)=true/\(aM (aa (aH 52 e1.a.hl e1.a.bl))<=100000/\List.length
 e1.a.bl<=100000)/\(0:Int)<=e1.i/\e1.i<=(↑(List.length e1.a.bl):Int)/\e1.done.length=List.length e1.a.bl)/\ax (FC e1) (K (AV.bp [AV.bool true,
 AV.int 0]) []) (∀(e0:Bool),True->ax e0 z2 z2))) (K (AV.bp [AV.bool false,AV.int 60]) [])) (K (AV.bp [AV.bool false,AV.int 30]) [])):=by kernel_rfl
def N7(a:ba):Out (AV×List Dn.Obj):= .ax (aU (aJ a)) (.ax (kc (aJ a)) (.one (.bp [.bool (Hj (aJ a)), .int 0],[])) (.one (.bp [.bool false, .int 60],[]))) (.one (.bp [.bool false, .int 30],[]))
theorem c8(κ:Kp):bz (Qq κ) 12 73 (aZ Ff dr N7):=by
 refine bh ?_
 rintro a K h2 ho
 refine Eq.mpr (y8 κ a K) ?_
 simp only[N7,Out.run,af] at ho
 have hl:=h2.2
 refine⟨a,rfl,h2,?_⟩
 rw[af]
 refine⟨fun e1=>?_,fun e1=>ho.2 e1⟩
 rw[af]
 refine⟨fun e2=>?_,fun e2=>(ho.1 e1).2 e2⟩
 have hw:=FO e2
 have ho1:=(ho.1 e1).1 e2
 simp only[au,aa1,aa0,Int.toNat_natCast]
 have hi:FC ⟨a,ints (fk (aJ a)),List.replicate a.bl.length false,[],0⟩=Hj (aJ a):=by
  unfold FC Hj
  rw[hJ];rfl
 refine⟨⟨⟨⟨trivial,by omega⟩,by omega⟩,trivial⟩,trivial,⟨a,ints (fk (aJ a)),List.replicate a.bl.length false,[],0⟩,?_,⟨e1,h2,by simp only;omega,by simp only;omega,by simp⟩,?_⟩
 ·simp only[nh,iD,pM,List.length_replicate];rfl
 ·rw[hi,af]
  refine⟨fun e=>by rw[e] at ho1;exact ho1,fun e y _=>?_⟩
  rw[e] at ho1
  cases y
  ·exact ho1
  ·exact ho1
noncomputable def E8(κ:Kp):Env:=(Qq κ).aw 73 (aZ Ff dr N7)
theorem e8(κ:Kp):aC (E8 κ):=(e8l κ).aw (U1 κ) (c8 κ)
theorem m8(κ:Kp):ai (E8 κ):=(U1 κ).aw aI
def NU:List AV->Option (Bool×AV)
 |[.agg [.lit (.int .i64 op), .lit (.string s), .lit (.int .i64 n), .ae 52 l], .lit (.int .i64 left)]=>some (decide (0<=left)&&decide (left<=100000), .int ((Tm.mk op s n (aa l)).size left))
 |_=>none
def BU:List AV->Nat
 |[.agg [_,_,_, .ae _ l],_]=>aM (aa l)
 |_=>0
noncomputable def xD(κ:Kp)(n:Nat):Env:=(E8 κ).aF 58 (below NU BU n)
structure OJ where
 op:Int
 s:ByteArray
 n:Int
 l:List AV
 left:Int
 i:Int
abbrev Je(a:OJ):S:=sp 31 [(1, .int a.left),(2, .ptr 0 0 [] 0),(5, .int a.i)] [.box 52 (.agg [.int a.op, .lit (.string a.s), .int a.n, .ae 52 a.l])]
theorem WB(κ:Kp)(r:Nat)(a:OJ)(I:Nat->S->Prop)(n:Nat)(K:Exit->S->Prop):(vc (xD κ r) 12 58 none 0 (ag (Pr κ).toProgram 58 5) (Je a) (bI (xD κ r) 58 5 0 I n K))=(
 letI z1:=nth a.l a.i.toNat
 letI z2:=K (Exit.exit 0) (sp 31 [(1,AV.int a.left)] [])
 letI z3:=a.i<(↑(a.l.length):Int)
 ax (decide z3) (ax (decide (a.left>=(0:Int))) (aO (decide ((0:Int)<=a.i)&&decide z3) (aO (decide ((0:Int)<=a.left)&&decide (a.left<=(100000:
 Int))&&Nat.blt (BU [AV.agg [AV.int (toInt (ad z1 0)),AV.str (toStr (ad z1 1)),AV.int (toInt (ad z1 2)),AV.ae 52 (ah (ad z1 3))],AV.int a.left]) r) (∃(e0
 :Nat),e0<n/\I e0 (sp 31 [(1,AV.int (Tm.size (Tm.mk (toInt (ad z1 0)) (toStr (ad z1 1)) (toInt (ad z1 2)) (aa (ah (ad z1 3)))) a.left)),(2,AV.ptr 0 0 []
 0),(5,AV.int (IntKind.wrap IntKind.i64 (a.i+(1:Int))))] [Obj.box 52 (AV.agg [AV.int a.op,AV.str a.s,AV.int a.n,AV.ae 52 a.l])])))) z2) z2):=by kernel_rfl
def Dv(r:Nat)(a:OJ):Prop:= -1<=a.left/\a.i+a.left<=100000/\0<=a.i/\a.i<=a.l.length/\aM (aa (a.l.drop a.i.toNat))<=r
def yh(a:OJ):Out (Exit×S):= .one (.exit 0,sp 31 [(1, .int (ic (aa (a.l.drop a.i.toNat)) a.left))] [])
theorem Xx(κ:Kp)(r:Nat):bn (xD κ r) 12 58 5 (aQ 0 Je (Dv r) yh):=by
 refine aR (fun a=>a.l.length - a.i.toNat) ?_
 rintro⟨op,s,n,l,left,i⟩ K ⟨h1,h2,h3,h4,h5⟩ ho
 simp only at h1 h2 h3 h4 h5
 rw[show(xD κ r).P=Pr κ from rfl]
 refine Eq.mpr (WB κ r ⟨op,s,n,l,left,i⟩ _ _ K) ?_
 simp only[yh,Out.run] at ho
 simp only[af,au,aa0,aa2,aa1,Nat.blt_eq,←cE]
 refine⟨fun hi=>⟨fun hl=>⟨⟨h3,hi⟩,?_⟩,fun hl=>?_⟩,fun hi=>?_⟩
 ·have hc:=s6 l i.toNat (by omega)
  have hz:=Tm.size_le (cG (nth l i.toNat)) left hl
  have hp:(cG (nth l i.toNat)).oT=1+aM (aa (ah (ad (nth l i.toNat) 3))):=by rw[cE,Tm.oT]
  rw[dS l i.toNat (by omega),ic,aa6 hl,aa7] at ho
  rw[a5 (n:=i+1) (by omega) (by omega)]
  refine⟨⟨⟨hl,by omega⟩,by simp only[BU];omega⟩,_,?_,⟨op,s,n,l,(cG (nth l i.toNat)).size left,i+1⟩,rfl,⟨by simp only;omega,by simp only;omega,by simp only;omega,by simp only;omega,?_⟩,rfl,?_⟩
  ·simp only;omega
  ·simp only[show(i+1).toNat=i.toNat+1 by omega];omega
  ·simp only[yh,Out.run,show(i+1).toNat=i.toNat+1 by omega]
   exact ho
 ·rw[dS l i.toNat (by omega),ic,aa4 (show ¬ 0<=left from hl),aa5] at ho
  exact ho
 ·rw[aa8 (by omega)] at ho
  exact ho
noncomputable def FU(κ:Kp)(r:Nat):Env:=(xD κ r).aj 58 5 (aQ 0 Je (Dv r) yh)
theorem WV(κ:Kp)(r:Nat)(op:Int)(s:ByteArray)(n:Int)(l:List AV)(left:Int)(K:AV->List Dn.Obj->Prop):(bg (FU κ r) 12 58 [.agg [.int op, .lit (.string s), .int n, .ae 52 l], .int left] [] K)=(
 ax (decide ((↑(ByteArray.size s):Int)>(1000:Int))) (K (AV.int (-1)) []) (ag (Pg.toProgram (Env.P (xD κ r))) 58 5=ag (Pg.toProgram (Env.P
 (xD κ r))) 58 5/\∃(a:OJ),sp 31 [(1,AV.int (IntKind.wrap IntKind.i64 (left - (1:Int)))),(2,AV.ptr 0 0 [] 0),(5,AV.int 0)] [Obj.box 52 (AV.agg
 [AV.int op,AV.str s,AV.int n,AV.ae 52 l])]=sp 31 [(1,AV.int a.left),(2,AV.ptr 0 0 [] 0),(5,AV.int a.i)] [Obj.box 52 (AV.agg [AV.int a.op,AV.str
 a.s,AV.int a.n,AV.ae 52 a.l])]/\((-1:Int)<=a.left/\a.i+a.left<=(100000:Int)/\(0:Int)<=a.i/\a.i<=(↑(a.l.length):Int)/\aM (aa
 (List.drop a.i.toNat a.l))<=r)/\K (AV.int (ic (aa (List.drop a.i.toNat a.l)) a.left)) [])):=by kernel_rfl
theorem Ry(κ:Kp)(r:Nat)(hp:gr (Pr κ) 58 (below NU BU r)):aC (FU κ r)/\ai (FU κ r)/\(FU κ r).P=Pr κ:=
 have h:aC (xD κ r):=(e8 κ).eK hp
 have hm:ai (xD κ r):=(m8 κ).aF
 ⟨h.aj hm (Xx κ r),hm.aj aG,rfl⟩
theorem Vk(κ:Kp)(r:Nat):cy (FU κ r) 12 58 (fun xs=>bif Nat.beq (BU xs) r then NU xs else none):=by
 intro args x hh
 cases hb:Nat.beq (BU args) r with
 |false=>simp only[hb] at hh;cases hh
 | true=>
  simp only[hb,aa7] at hh
  unfold NU at hh
  split at hh
  ·rename_i op s n l left
   simp only[aa3,aa9,aa1,aa0] at hh
   obtain⟨⟨h1,h2⟩,rfl⟩:=hh
   have hr:aM (aa l)=r:=Nat.eq_of_beq_eq_true hb
   refine⟨_,rfl,rfl,?_⟩
   refine Eq.mpr (WV κ r op s n l left _) ?_
   rw[af,aa0,aa2]
   refine⟨fun e=>?_,fun e=>?_⟩
   ·unfold Tm.size;rw[aa6 (show(1000:Int)<s.size from e)];rfl
   ·rw[a5 (n:=left - 1) (by omega) (by omega)]
    refine⟨rfl,⟨op,s,n,l,left - 1,0⟩,rfl,⟨by simp only;omega,by simp only;omega,by simp only;omega,by simp only;omega,?_⟩,?_⟩
    ·simp only[ab7,ab0];omega
    ·unfold Tm.size;rw[aa4 (show ¬ (1000:Int)<s.size from e)];rfl
  ·cases hh
theorem WW(κ:Kp):gr (Pr κ) 58 NU:=aC.ua NU BU (FU κ) (Ry κ) (Vk κ)
noncomputable def KW(κ:Kp):Env:=(E8 κ).aF 58 NU
theorem XO(κ:Kp):aC (KW κ):=(e8 κ).eK (WW κ)
theorem US(κ:Kp):ai (KW κ):=(m8 κ).aF
structure Qb where
 s:ByteArray
 l:List AV
 left:Int
 i:Int
abbrev IS(a:Qb):S:=sp 29 [(1, .int a.left),(2, .ptr 0 0 [] 0),(5, .int a.i)] [.box 38 (.agg [.lit (.string a.s), .ae 52 a.l])]
theorem W4(κ:Kp)(a:Qb)(I:Nat->S->Prop)(n:Nat)(K:Exit->S->Prop):(vc (KW κ) 12 57 none 0 (ag (Pr κ).toProgram 57 4) (IS a) (bI (KW κ) 57 4 0 I n K))=(
 letI z1:=nth a.l a.i.toNat
 letI z2:=K (Exit.exit 0) (sp 29 [(1,AV.int a.left)] [])
 letI z3:=a.i<(↑(a.l.length):Int)
 ax (decide z3) (ax (decide (a.left>=(0:Int))) (aO (decide ((0:Int)<=a.i)&&decide z3) (aO (decide ((0:Int)<=a.left)&&decide (a.left<=(100000:
 Int))) (∃(e0:Nat),e0<n/\I e0 (sp 29 [(1,AV.int (Tm.size (Tm.mk (toInt (ad z1 0)) (toStr (ad z1 1)) (toInt (ad z1 2)) (aa (ah (ad z1 3)))) a.left)),(2,
 AV.ptr 0 0 [] 0),(5,AV.int (IntKind.wrap IntKind.i64 (a.i+(1:Int))))] [Obj.box 38 (AV.agg [AV.str a.s,AV.ae 52 a.l])])))) z2) z2):=by kernel_rfl
def C9(a:Qb):Prop:= -1<=a.left/\a.i+a.left<=100000/\0<=a.i/\a.i<=a.l.length
def xq(a:Qb):Out (Exit×S):= .one (.exit 0,sp 29 [(1, .int (ic (aa (a.l.drop a.i.toNat)) a.left))] [])
theorem XY(κ:Kp):bn (KW κ) 12 57 4 (aQ 0 IS C9 xq):=by
 refine aR (fun a=>a.l.length - a.i.toNat) ?_
 rintro⟨s,l,left,i⟩ K ⟨h1,h2,h3,h4⟩ ho
 simp only at h1 h2 h3 h4
 rw[show(KW κ).P=Pr κ from rfl]
 refine Eq.mpr (W4 κ ⟨s,l,left,i⟩ _ _ K) ?_
 simp only[xq,Out.run] at ho
 simp only[af,au,aa0,aa2,aa1,←cE]
 refine⟨fun hi=>⟨fun hl=>⟨⟨h3,hi⟩,?_⟩,fun hl=>?_⟩,fun hi=>?_⟩
 ·have hz:=Tm.size_le (cG (nth l i.toNat)) left hl
  rw[dS l i.toNat (by omega),ic,aa6 hl,aa7] at ho
  rw[a5 (n:=i+1) (by omega) (by omega)]
  refine⟨⟨hl,by omega⟩,_,?_,⟨s,l,(cG (nth l i.toNat)).size left,i+1⟩,rfl,⟨by simp only;omega,by simp only;omega,by simp only;omega,by simp only;omega⟩,rfl,?_⟩
  ·simp only;omega
  ·simp only[xq,Out.run,show(i+1).toNat=i.toNat+1 by omega]
   exact ho
 ·rw[dS l i.toNat (by omega),ic,aa4 (show ¬ 0<=left from hl),aa5] at ho
  exact ho
 ·rw[aa8 (by omega)] at ho
  exact ho
noncomputable def Is(κ:Kp):Env:=(KW κ).aj 57 4 (aQ 0 IS C9 xq)
theorem RU(κ:Kp):aC (Is κ):=(XO κ).aj (US κ) (XY κ)
theorem PD(κ:Kp):ai (Is κ):=(US κ).aj aG
theorem Yr(κ:Kp)(s:ByteArray)(l:List AV)(left:Int)(K:AV->List Dn.Obj->Prop):(bg (Is κ) 12 57 [.agg [.lit (.string s), .ae 52 l], .int left] [] K)=(
 letI z1:=Pg.toProgram (Env.P (KW κ))
 ax (decide ((↑(ByteArray.size s):Int)>(1000:Int))) (K (AV.int (-1)) []) (ag z1 57 4=ag z1 57 4/\∃(e0:Qb),sp 29 [(1,AV.int left),(2,AV.ptr 0 0 []
 0),(5,AV.int 0)] [Obj.box 38 (AV.agg [AV.str s,AV.ae 52 l])]=sp 29 [(1,AV.int e0.left),(2,AV.ptr 0 0 [] 0),(5,AV.int e0.i)] [Obj.box 38 (AV.agg
 [AV.str e0.s,AV.ae 52 e0.l])]/\((-1:Int)<=e0.left/\e0.i+e0.left<=(100000:Int)/\(0:Int)<=e0.i/\e0.i<=(↑(e0.l.length):Int))/\K (AV.int (ic (aa
 (List.drop e0.i.toNat e0.l)) e0.left)) [])):=by kernel_rfl
def Rp:List AV->Option (Bool×AV)
 |[.agg [.lit (.string s), .ae 52 l], .lit (.int .i64 left)]=>some (decide (-1<=left)&&decide (left<=100000), .int (cZ ⟨s,aa l⟩ left))
 |_=>none
theorem p53(κ:Kp):cy (Is κ) 12 57 Rp:=by
 intro args x hh
 unfold Rp at hh
 split at hh
 ·rename_i s l left
  simp only[aa3,aa9,aa1,aa0] at hh
  obtain⟨⟨h1,h2⟩,rfl⟩:=hh
  refine⟨_,rfl,rfl,?_⟩
  refine Eq.mpr (Yr κ s l left _) ?_
  rw[af,aa0,aa2]
  refine⟨fun e=>?_,fun e=>?_⟩
  ·unfold cZ;rw[aa6 (show(1000:Int)<s.size from e)];rfl
  ·refine⟨rfl,⟨s,l,left,0⟩,rfl,⟨h1,by simp only;omega,by simp only;omega,by simp only;omega⟩,?_⟩
   unfold cZ;rw[aa4 (show ¬ (1000:Int)<s.size from e)];rfl
 ·cases hh
noncomputable def K9(κ:Kp):Env:=(Is κ).aF 57 Rp
theorem e53(κ:Kp):aC (K9 κ):=(RU κ).aF (PD κ) (p53 κ)
theorem Tv(κ:Kp):ai (K9 κ):=(PD κ).aF
structure OD where
 a:ba
 left:Int
 i:Int
abbrev zK(a:OD):S:=sp 52 [(1, .int a.left),(2, .ptr 0 0 [] 0),(5, .int a.i)] [.box 41 (an a.a)]
theorem Zt(κ:Kp)(a:OD)(I:Nat->S->Prop)(n:Nat)(K:Exit->S->Prop):(vc (K9 κ) 12 30 none 0 (ag (Pr κ).toProgram 30 3) (zK a) (bI (K9 κ) 30 3 0 I n K))=(
 letI z1:=nth a.a.bl a.i.toNat
 letI z3:=Tm.mk (toInt (ad (ad z1 2) 0)) (toStr (ad (ad z1 2) 1)) (toInt (ad (ad z1 2) 2)) (aa (ah (ad (ad z1 2) 3)))
 letI z4:=AV.agg [AV.agg [AV.str a.a.rel,AV.ae 52 a.a.hl],AV.ae 55 a.a.bl,AV.int a.a.line]
 letI z6:=ah (ad (ad z1 1) 1)
 letI z7:=ad (ad z1 1) 0
 letI z9:=IntKind.wrap IntKind.i64 (a.i+(1:Int))
 letI z10:=Tm.mk (toInt (ad (ad z1 3) 0)) (toStr (ad (ad z1 3) 1)) (toInt (ad (ad z1 3) 2)) (aa (ah (ad (ad z1 3) 3)))
 letI z13:=K (Exit.exit 0) (sp 52 [(1,AV.int a.left)] [])
 letI z14:=a.i<(↑(List.length a.a.bl):Int)
 letI z5:=decide ((0:Int)<=a.i)&&decide z14
 letI z15:=a.left - (1:Int)
 letI z2:=IntKind.wrap IntKind.i64 z15
 letI z11:=cZ {rel:=toStr z7,l:=aa z6} z2
 letI z12:=cZ {rel:=toStr z7,l:=aa z6} z2
 letI z16:=(100000:Int)
 letI z8:=decide ((0:Int)<=cZ {rel:=toStr z7,l:=aa z6} z2)&&decide (cZ {rel:=toStr z7,l:=aa z6} z2<=z16)
 ax (decide z14) (ax (decide (a.left>=(0:Int))) (aO z5 (aO (decide ((-1:Int)<=IntKind.wrap IntKind.i64 z15)&&decide (IntKind.wrap IntKind.i64 z15<=z16)) (ax (decide (cZ {rel:=toStr z7,l:=aa z6} z2>=(0:Int))) (aO z5 (aO z8 (ax (decide (Tm.size z3 z11>=(0:Int))) (aO z5 (aO (decide ((0:Int)<=Tm.size z3 z12)&&decide (Tm.size z3 z11<=z16)) (∃(e0:Nat),e0<n/\I e0 (sp 52 [(1,AV.lit (Value.int IntKind.i64 (Tm.size z10 (Tm.size z3 z11)))),(2,AV.ptr 0 0 [] 0),(5,AV.int z9)] [Obj.box 41 z4])))) (∃(e0:Nat),e0<n/\I e0 (sp 52 [(1,AV.lit (Value.int IntKind.i64 (Tm.size z3 z12))),(2,AV.ptr 0 0 [] 0),(5,AV.int z9)] [Obj.box 41 z4]))))) (ax (decide (cZ {rel:=toStr z7,l:=aa z6} z2>=(0:Int))) (aO z5 (aO z8 (∃(e0:Nat),e0<n/\I e0 (sp 52 [(1,AV.lit (Value.int IntKind.i64 (Tm.size z10 z12))),(2,AV.ptr 0 0 [] 0),(5,AV.int z9)] [Obj.box 41 z4])))) (∃(e0:Nat),e0<n/\I e0 (sp 52 [(1,AV.lit (Value.int IntKind.i64 z11)),(2,AV.ptr 0 0 [] 0),(5,AV.int z9)] [Obj.box 41 z4])))))) z13) z13):=by kernel_rfl
def yE(a:OD):Prop:= -1<=a.left/\a.i+a.left<=100000/\0<=a.i/\a.i<=a.a.bl.length
def uH(a:OD):Out (Exit×S):= .one (.exit 0,sp 52 [(1, .int (kz (cC (a.a.bl.drop a.i.toNat)) a.left))] [])
theorem l38(κ:Kp):bn (K9 κ) 12 30 3 (aQ 0 zK yE uH):=by
 refine aR (fun a=>a.a.bl.length - a.i.toNat) ?_
 rintro⟨a,left,i⟩ K ⟨h1,h2,h3,h4⟩ ho
 simp only at h1 h2 h3 h4
 rw[show(K9 κ).P=Pr κ from rfl]
 refine Eq.mpr (Zt κ ⟨a,left,i⟩ _ _ K) ?_
 simp only[uH,Out.run] at ho
 by_cases hi:i<a.bl.length
 ·by_cases hl:left>=0
  ·have hk:i.toNat<a.bl.length:=by omega
   rw[nj a.bl i.toNat hk,kz,aa6 hl,aa7] at ho
   have hA:(⟨toStr (ad (ad (nth a.bl i.toNat) 1) 0),aa (ah (ad (ad (nth a.bl i.toNat) 1) 1))⟩:At)=(cm (nth a.bl i.toNat)).a:=rfl
   have hX:cG (ad (nth a.bl i.toNat) 2)=(cm (nth a.bl i.toNat)).x:=rfl
   have hY:cG (ad (nth a.bl i.toNat) 3)=(cm (nth a.bl i.toNat)).y:=rfl
   have hz:=qP (cm (nth a.bl i.toNat)) left hl
   have hz1:=k9 (cm (nth a.bl i.toNat)).a (left - 1) (by omega)
   have hz2:=Tm.size_le (cm (nth a.bl i.toNat)).x (cZ (cm (nth a.bl i.toNat)).a (left - 1))
   have go: ∀z,sizeLt (cm (nth a.bl i.toNat)) left=z->∃m,m<a.bl.length - i.toNat/\fw zK yE uH (fun a=>a.a.bl.length - a.i.toNat) K m (zK ⟨a,z,i+1⟩):=by
    rintro z rfl
    refine⟨_,?_,⟨a,sizeLt (cm (nth a.bl i.toNat)) left,i+1⟩,rfl,⟨by simp only;omega,by simp only;omega,by simp only;omega,by simp only;omega⟩,rfl,?_⟩
    ·simp only;omega
    ·simp only[uH,Out.run,show(i+1).toNat=i.toNat+1 by omega]
     exact ho
   simp only[a5 (n:=i+1) (by omega) (by omega),a5 (n:=left - 1) (by omega) (by omega),hA,←cE,hX,hY]
   simp only[af,au,aa0,aa2,aa1]
   refine⟨fun _=>⟨fun _=>⟨⟨h3,hi⟩,⟨by omega,by omega⟩,fun e1=>⟨⟨h3,hi⟩,⟨e1,by omega⟩,fun e2=>⟨⟨h3,hi⟩,⟨e2,by have:=hz2 e1;omega⟩,go _ ?_⟩,fun e2=>go _ ?_⟩,fun e1=>⟨fun e=>absurd e e1,fun _=>go _ ?_⟩⟩,fun e=>absurd hl e⟩,fun e=>absurd hi e⟩
   ·unfold sizeLt;rw[aa6 (show 0<=cZ (cm (nth a.bl i.toNat)).a (left - 1) from e1),aa7,aa6 (show 0<=(cm (nth a.bl i.toNat)).x.size _ from e2),aa7]
   ·unfold sizeLt;rw[aa6 (show 0<=cZ (cm (nth a.bl i.toNat)).a (left - 1) from e1),aa7,aa4 (show ¬ 0<=(cm (nth a.bl i.toNat)).x.size _ from e2),aa5]
   ·unfold sizeLt;rw[aa4 (show ¬ 0<=cZ (cm (nth a.bl i.toNat)).a (left - 1) from e1),aa5];rfl
  ·rw[nj a.bl i.toNat (by omega),kz,aa4 (show ¬ 0<=left from hl),aa5] at ho
   rw[aa6 (show i<(a.bl.length:Int) from hi),aa4 hl]
   exact ho
 ·rw[aa8 (by omega)] at ho
  rw[aa4 (show ¬ i<(a.bl.length:Int) from hi)]
  exact ho
noncomputable def IC(κ:Kp):Env:=(K9 κ).aj 30 3 (aQ 0 zK yE uH)
theorem S1(κ:Kp):aC (IC κ):=(e53 κ).aj (Tv κ) (l38 κ)
theorem Pz(κ:Kp):ai (IC κ):=(Tv κ).aj aG
theorem V3(κ:Kp)(a:ba)(left:Int)(K:AV->List Dn.Obj->Prop):(bg (IC κ) 12 30 [an a, .int left] [] K)=(
 letI z1:=left - (1:Int)
 letI z2:=Pg.toProgram (Env.P (K9 κ))
 aO (decide ((-1:Int)<=IntKind.wrap IntKind.i64 z1)&&decide (IntKind.wrap IntKind.i64 z1<=(100000:Int))) (ag z2 30 3=ag z2 30 3/\∃(e0:OD),sp 52 [(1,AV.lit (Value.int IntKind.i64 (cZ {rel:=a.rel,l:=aa a.hl} (IntKind.wrap IntKind.i64 z1)))),(2,AV.ptr 0 0 [] 0),(5,AV.int 0)] [Obj.box 41 (AV.agg [AV.agg [AV.str a.rel,AV.ae 52 a.hl],AV.ae 55 a.bl,AV.int a.line])]=sp 52 [(1,AV.int e0.left),(2,AV.ptr 0 0 [] 0),(5,AV.int e0.i)] [Obj.box 41 (AV.agg [AV.agg [AV.str e0.a.rel,AV.ae 52 e0.a.hl],AV.ae 55 e0.a.bl,AV.int e0.a.line])]/\((-1:Int)<=e0.left/\e0.i+e0.left<=(100000:Int)/\(0:Int)<=e0.i/\e0.i<=(↑(List.length e0.a.bl):Int))/\K (AV.lit (Value.int IntKind.i64 (kz (cC (List.drop e0.i.toNat e0.a.bl)) e0.left))) [])):=by kernel_rfl
def R5:List AV->Option (Bool×AV)
 |[.agg [.agg [.lit (.string rel), .ae 52 hl], .ae 55 bl, .lit (.int .i64 _)], .lit (.int .i64 left)]=>some (decide (0<=left)&&decide (left<=100000), .int (lD ⟨⟨rel,aa hl⟩,cC bl⟩ left))
 |_=>none
theorem p38(κ:Kp):cy (IC κ) 12 30 R5:=by
 intro args x hh
 unfold R5 at hh
 split at hh
 ·rename_i rel hl bl line left
  simp only[aa3,aa9,aa1,aa0] at hh
  obtain⟨⟨h1,h2⟩,rfl⟩:=hh
  refine⟨_,rfl,rfl,?_⟩
  refine Eq.mpr (V3 κ ⟨[],[],rel,hl,bl,line,0⟩ left _) ?_
  have hz1:=k9 ⟨rel,aa hl⟩ (left - 1) (by omega)
  simp only[a5 (n:=left - 1) (by omega) (by omega)]
  rw[au,aa1,aa0,aa0]
  exact⟨⟨by omega,by omega⟩,trivial,⟨⟨[],[],rel,hl,bl,line,0⟩,cZ ⟨rel,aa hl⟩ (left - 1),0⟩,rfl,⟨by simp only;omega,by simp only;omega,by simp only;omega,by simp only;omega⟩,rfl⟩
 ·cases hh
noncomputable def KJ(κ:Kp):Env:=(IC κ).aF 30 R5
theorem e38(κ:Kp):aC (KJ κ):=(S1 κ).aF (Pz κ) (p38 κ)
theorem Ub(κ:Kp):ai (KJ κ):=(Pz κ).aF
abbrev GD(a:List AV×Int):S:=sp 16 [(0, .ae 9 a.1),(3, .int a.2)] []
theorem Ys(κ:Kp)(l:List AV)(i:Int)(I:Nat->S->Prop)(n:Nat)(K:Exit->S->Prop):(vc (KJ κ) 12 29 none 0 (ag (Pr κ).toProgram 29 2) (GD (l,i)) (bI (KJ κ) 29 2 0 I n K))=(
 letI z1:=i<(↑(l.length):Int)
 ax (decide z1) (aO (decide ((0:Int)<=i)&&decide z1) (ax (decide ((↑(ByteArray.size (toStr (nth l i.toNat))):Int)>(1000:Int))) (K Exit.ret (sp 16 [(2,
 AV.bool true)] [])) (∃(e0:Nat),e0<n/\I e0 (sp 16 [(0,AV.ae 9 l),(3,AV.int (IntKind.wrap IntKind.i64 (i+(1:Int))))] [])))) (K (Exit.exit 0) (sp 16
 [] []))):=by kernel_rfl
def ET(a:List AV×Int):Prop:=a.1.length<=aP/\0<=a.2/\a.2<=a.1.length
def xt(a:List AV×Int):Out (Exit×S):= .ax (rD (a.1.drop a.2.toNat)) (.one (.ret,sp 16 [(2, .bool true)] [])) (.one (.exit 0,sp 16 [] []))
theorem Xi(κ:Kp):bn (KJ κ) 12 29 2 (aQ 0 GD ET xt):=by
 refine aR (fun a=>a.1.length - a.2.toNat) ?_
 rintro⟨l,i⟩ K ⟨h1,h2,h3⟩ ho
 simp only at h1 h2 h3
 rw[show(KJ κ).P=Pr κ from rfl]
 refine Eq.mpr (Ys κ l i _ _ K) ?_
 simp only[aP] at h1
 simp only[xt,Out.run,af] at ho
 simp only[af,au,aa0,aa2,aa1]
 refine⟨fun hi=>⟨⟨h2,hi⟩,?_⟩,fun hi=>?_⟩
 ·rw[ab1 (show i.toNat<l.length by omega),←a8 l i.toNat (by omega)] at ho
  simp only[rD,List.any_cons] at ho
  refine⟨fun e=>ho.1 (by rw[aa6 (show(1000:Int)<_ from e)];rfl),fun e=>?_⟩
  rw[aa4 (show ¬ (1000:Int)<_ from e),Bool.false_or] at ho
  rw[a5 (n:=i+1) (by omega) (by omega)]
  refine⟨_,?_,(l,i+1),rfl,⟨by simpa[aP] using h1,by simp only;omega,by simp only;omega⟩,rfl,?_⟩
  ·simp only;omega
  ·simp only[xt,Out.run,af,show(i+1).toNat=i.toNat+1 by omega]
   exact ho
 ·rw[aa8 (by omega)] at ho
  exact ho.2 rfl
noncomputable def Hq(κ:Kp):Env:=(KJ κ).aj 29 2 (aQ 0 GD ET xt)
theorem Rg(κ:Kp):aC (Hq κ):=(e38 κ).aj (Ub κ) (Xi κ)
theorem Qd(κ:Kp):ai (Hq κ):=(Ub κ).aj aG
theorem Yh(κ:Kp)(l:List AV)(K:AV->List Dn.Obj->Prop):(bg (Hq κ) 12 29 [.ae 9 l] [] K)=(
 letI z1:=Pg.toProgram (Env.P (KJ κ))
 ag z1 29 2=ag z1 29 2/\∃(e0:List AV×Int),sp 16 [(0,AV.ae 9 l),(3,AV.int 0)] []=sp 16 [(0,AV.ae 9 e0.1),(3,AV.int e0.2)] []/\(e0.1.length<=
 9223372036854775807/\(0:Int)<=e0.2/\e0.2<=(↑(e0.1.length):Int))/\ax (rD (List.drop e0.2.toNat e0.1)) (K (AV.bool true) []) (K (AV.bool false) [])):=by kernel_rfl
def SY:List AV->Option (Bool×AV)
 |[.ae 9 l]=>some (decide (l.length<=aP), .bool (rD l))
 |_=>none
theorem YS(κ:Kp):cy (Hq κ) 12 29 SY:=by
 intro args x hh
 unfold SY at hh
 split at hh
 ·rename_i l
  simp only[aa3,aa9,aa0] at hh
  obtain⟨h1,rfl⟩:=hh
  refine⟨_,rfl,rfl,?_⟩
  refine Eq.mpr (Yh κ l _) ?_
  refine⟨rfl,(l,0),rfl,⟨h1,by simp only;omega,by simp only;omega⟩,?_⟩
  rw[af]
  exact⟨fun e=>by rw[show rD l=true from e],fun e=>by rw[show rD l=false from e]⟩
 ·cases hh
noncomputable def KV(κ:Kp):Env:=(Hq κ).aF 29 SY
theorem Zc(κ:Kp):aC (KV κ):=(Rg κ).aF (Qd κ) (YS κ)
theorem UX(κ:Kp):ai (KV κ):=(Qd κ).aF
structure H3 where
 ds:List AV
 rs:List AV
 left:Int
 i:Int
abbrev Fs(a:H3):AV:= .agg [.ae 62 a.ds, .ae 41 a.rs]
abbrev DX(a:H3):S:=sp 62 [(1, .ptr 0 0 [] 0),(3, .int a.left),(4, .int a.i)] [.box 25 (Fs a)]
theorem Rb(κ:Kp)(a:H3)(I:Nat->S->Prop)(n:Nat)(K:Exit->S->Prop):(vc (KV κ) 12 11 none 0 (ag (Pr κ).toProgram 11 3) (DX a) (bI (KV κ) 11 3 0 I n K))=(
 letI z2:=K Exit.ret (sp 62 [(2,AV.int 0)] [])
 letI z3:=AV.agg [AV.ae 62 a.ds,AV.ae 41 a.rs]
 letI z4:=nth a.ds a.i.toNat
 letI z5:=a.i<(↑(a.ds.length):Int)
 letI z1:=decide ((0:Int)<=a.i)&&decide z5
 ax (decide z5) (aO z1 (ax (decide ((↑(ByteArray.size (toStr (ad z4 0))):Int)>(1000:Int))) z2 (aO z1 (aO (decide (List.length (ah (ad z4 1))<=
 9223372036854775807)) (ax (rD (ah (ad z4 1))) z2 (∃(e0:Nat),e0<n/\I e0 (sp 62 [(1,AV.ptr 0 0 [] 0),(3,AV.int a.left),(4,AV.int (IntKind.wrap
 IntKind.i64 (a.i+(1:Int))))] [Obj.box 25 z3]))))))) (K (Exit.exit 0) (sp 62 [(1,AV.ptr 0 0 [] 0),(3,AV.int a.left)] [Obj.box 25 z3]))):=by kernel_rfl
def xB(a:H3):Prop:=a.ds.length<=aP/\(∀d,d∈a.ds->(ah (ad d 1)).length<=aP)/\0<=a.i/\a.i<=a.ds.length
def u6(a:H3):Out (Exit×S):= .ax ((a.ds.drop a.i.toNat).any GA) (.one (.ret,sp 62 [(2, .int 0)] [])) (.one (.exit 0,sp 62 [(1, .ptr 0 0 [] 0),(3, .int a.left)] [.box 25 (Fs a)]))
theorem Si(κ:Kp):bn (KV κ) 12 11 3 (aQ 0 DX xB u6):=by
 refine aR (fun a=>a.ds.length - a.i.toNat) ?_
 rintro⟨ds,rs,left,i⟩ K ⟨h1,h1',h2,h3⟩ ho
 simp only at h1 h1' h2 h3
 rw[show(KV κ).P=Pr κ from rfl]
 refine Eq.mpr (Rb κ ⟨ds,rs,left,i⟩ _ _ K) ?_
 simp only[aP] at h1
 simp only[u6,Out.run,af] at ho
 simp only[af,au,aa1,aa0,aa2]
 refine⟨fun hi=>⟨⟨h2,hi⟩,?_⟩,fun hi=>?_⟩
 ·have hi':i.toNat<ds.length:=by omega
  have hm:nth ds i.toNat∈ds:=by rw[a8 ds _ hi'];exact List.getElem_mem _
  rw[ab1 hi',←a8 ds i.toNat hi'] at ho
  simp only[List.any_cons,GA] at ho
  have go:(∀h:((ds.drop (i.toNat+1)).any GA=true->K .ret (sp 62 [(2, .int 0)] []))/\((ds.drop (i.toNat+1)).any GA=false->K (.exit 0) (sp 62 [(1, .ptr 0 0 [] 0),(3, .int left)] [.box 25 (Fs ⟨ds,rs,left,i⟩)])),∃m,m<ds.length - i.toNat/\fw DX xB u6 (fun a=>a.ds.length - a.i.toNat) K m (sp 62 [(1, .ptr 0 0 [] 0),(3, .int left),(4, .int (IntKind.wrap .i64 (i+1)))] [.box 25 (Fs ⟨ds,rs,left,i⟩)])):=by
   intro h
   rw[a5 (n:=i+1) (by omega) (by omega)]
   refine⟨_,?_,⟨ds,rs,left,i+1⟩,rfl,⟨by simpa[aP] using h1,h1',by simp only;omega,by simp only;omega⟩,rfl,?_⟩
   ·simp only;omega
   ·simp only[u6,Out.run,af,show(i+1).toNat=i.toNat+1 by omega]
    exact h
  refine⟨fun e1=>ho.1 (by rw[aa6 (show(1000:Int)<_ from e1)];rfl),fun e1=>⟨⟨h2,hi⟩,h1' _ hm,fun e2=>ho.1 (by rw[e2];simp),fun e2=>go ?_⟩⟩
  rw[aa4 (show ¬ (1000:Int)<_ from e1),e2] at ho
  exact ho
 ·rw[aa8 (by omega)] at ho
  exact ho.2 rfl
noncomputable def y4(κ:Kp):Env:=(KV κ).aj 11 3 (aQ 0 DX xB u6)
theorem SN(κ:Kp):aC (y4 κ):=(Zc κ).aj (UX κ) (Si κ)
theorem Ql(κ:Kp):ai (y4 κ):=(UX κ).aj aG
abbrev Ii(a:H3):S:=sp 62 [(1, .ptr 0 0 [] 0),(3, .int a.left),(5, .int a.i)] [.box 25 (Fs a)]
theorem S0(κ:Kp)(a:H3)(I:Nat->S->Prop)(n:Nat)(K:Exit->S->Prop):(vc (y4 κ) 12 11 none 0 (ag (Pr κ).toProgram 11 8) (Ii a) (bI (y4 κ) 11 8 0 I n K))=(
 letI z2:=AV.agg [AV.ae 62 a.ds,AV.ae 41 a.rs]
 letI z1:=K (Exit.exit 2) (sp 62 [(1,AV.ptr 0 0 [] 0),(3,AV.int a.left)] [Obj.box 25 z2])
 letI z3:=nth a.rs a.i.toNat
 letI z4:=a.i<(↑(a.rs.length):Int)
 ax (decide z4) (ax (decide (a.left>=(0:Int))) (aO (decide ((0:Int)<=a.i)&&decide z4) (aO (decide ((0:Int)<=a.left)&&decide (a.left<=(100000:Int))) (∃(e0:Nat),e0<n/\I e0 (sp 62 [(1,AV.ptr 0 0 [] 0),(3,AV.lit (Value.int IntKind.i64 (lD {head:={rel:=toStr (ad (ad z3 0) 0),l:=aa (ah (ad (ad z3 0) 1))},body:=cC (ah (ad z3 1))} a.left))),(5,AV.int (IntKind.wrap IntKind.i64 (a.i+(1:Int))))] [Obj.box 25 z2])))) z1) z1):=by kernel_rfl
def DT(a:H3):Prop:= -1<=a.left/\a.i+a.left<=100000/\0<=a.i/\a.i<=a.rs.length
def xx(a:H3):Out (Exit×S):= .one (.exit 2,sp 62 [(1, .ptr 0 0 [] 0),(3, .int (lx ((a.rs.drop a.i.toNat).map sf) a.left))] [.box 25 (Fs a)])
theorem SR(κ:Kp):bn (y4 κ) 12 11 8 (aQ 0 Ii DT xx):=by
 refine aR (fun a=>a.rs.length - a.i.toNat) ?_
 rintro⟨ds,rs,left,i⟩ K ⟨h1,h2,h3,h4⟩ ho
 simp only at h1 h2 h3 h4
 rw[show(y4 κ).P=Pr κ from rfl]
 refine Eq.mpr (S0 κ ⟨ds,rs,left,i⟩ _ _ K) ?_
 simp only[xx,Out.run] at ho
 by_cases hi:i<rs.length
 ·have hi':i.toNat<rs.length:=by omega
  rw[ab1 hi',←a8 rs i.toNat hi',ac0,lx] at ho
  by_cases hl:left>=0
  ·have hz:=th (sf (nth rs i.toNat)) left hl
   rw[aa6 (show 0<=left from hl),aa7] at ho
   rw[aa6 (show i<(rs.length:Int) from hi),aa6 hl,a5 (n:=i+1) (by omega) (by omega)]
   simp only[ax,au,aa1,aa0]
   refine⟨⟨h3,trivial⟩,⟨trivial,by omega⟩,_,?_,⟨ds,rs,lD (sf (nth rs i.toNat)) left,i+1⟩,rfl,⟨by simp only;omega,by simp only;omega,by simp only;omega,by simp only;omega⟩,rfl,?_⟩
   ·simp only;omega
   ·simp only[xx,Out.run,show(i+1).toNat=i.toNat+1 by omega]
    exact ho
  ·rw[aa4 (show ¬ 0<=left from hl),aa5] at ho
   rw[aa6 (show i<(rs.length:Int) from hi),aa4 hl]
   exact ho
 ·rw[aa8 (by omega)] at ho
  rw[aa4 (show ¬ i<(rs.length:Int) from hi)]
  exact ho
noncomputable def GR(κ:Kp):Env:=(y4 κ).aj 11 8 (aQ 0 Ii DT xx)
theorem Sg(κ:Kp):aC (GR κ):=(SN κ).aj (Ql κ) (SR κ)
theorem OX(κ:Kp):ai (GR κ):=(Ql κ).aj aG
theorem We(κ:Kp)(ds rs:List AV)(K:AV->List Dn.Obj->Prop):(bg (GR κ) 12 11 [.agg [.ae 62 ds, .ae 41 rs]] [] K)=(
 letI z1:=K (AV.int 0) []
 letI z2:=Pg.toProgram (Env.P (KV κ))
 letI z3:=Pg.toProgram (Env.P (y4 κ))
 ag z2 11 3=ag z2 11 3/\∃(e1:H3),sp 62 [(1,AV.ptr 0 0 [] 0),(3,AV.int 2000),(4,AV.int 0)] [Obj.box 25 (AV.agg [AV.ae 62 ds,AV.ae 41 rs])]=sp 62
 [(1,AV.ptr 0 0 [] 0),(3,AV.int e1.left),(4,AV.int e1.i)] [Obj.box 25 (AV.agg [AV.ae 62 e1.ds,AV.ae 41 e1.rs])]/\(e1.ds.length<=9223372036854775807/\(∀
 (e0:AV),List.Mem e0 e1.ds->List.length (ah (ad e0 1))<=9223372036854775807)/\(0:Int)<=e1.i/\e1.i<=(↑(e1.ds.length):Int))/\ax (List.any (List.drop
 e1.i.toNat e1.ds) GA) z1 (ag z3 11 8=ag z3 11 8/\∃(e0:H3),sp 62 [(1,AV.ptr 0 0 [] 0),(3,AV.int e1.left),(5,AV.int 0)] [Obj.box 25 (AV.agg [AV.ae 62
 e1.ds,AV.ae 41 e1.rs])]=sp 62 [(1,AV.ptr 0 0 [] 0),(3,AV.int e0.left),(5,AV.int e0.i)] [Obj.box 25 (AV.agg [AV.ae 62 e0.ds,AV.ae 41 e0.rs])]/\((-1:
 Int)<=e0.left/\e0.i+e0.left<=(100000:Int)/\(0:Int)<=e0.i/\e0.i<=(↑(e0.rs.length):Int))/\ax (decide (lx (List.map sf (List.drop e0.i.toNat
 e0.rs)) e0.left<(0:Int))) z1 (ax (decide ((↑(e0.ds.length):Int)>(100:Int))) z1 (ax (decide ((↑(e0.rs.length):Int)>(300:Int))) z1 (K (AV.int 1)
 []))))):=by kernel_rfl
def SS:List AV->Option (Bool×AV)
 |[.agg [.ae 62 ds, .ae 41 rs]]=>some (decide (ds.length<=aP)&&ds.all (fun d=>decide ((ah (ad d 1)).length<=aP)), .int (bif fW ds rs then 1 else 0))
 |_=>none
theorem p22(κ:Kp):cy (GR κ) 12 11 SS:=by
 intro args x hh
 unfold SS at hh
 split at hh
 ·rename_i ds rs
  simp only[aa3,aa9,aa1,aa0,List.all_eq_true] at hh
  obtain⟨⟨h1,h2⟩,rfl⟩:=hh
  refine⟨_,rfl,rfl,?_⟩
  refine Eq.mpr (We κ ds rs _) ?_
  refine⟨rfl,⟨ds,rs,2000,0⟩,rfl,⟨h1,h2,by simp only;omega,by simp only;omega⟩,?_⟩
  simp only[ab7,ab0,af]
  refine⟨fun e=>?_,fun e=>⟨trivial,⟨ds,rs,2000,0⟩,rfl,⟨by simp only;omega,by simp only;omega,by simp only;omega,by simp only;omega⟩,?_⟩⟩
  ·unfold fW;rw[e];rfl
  ·simp only[ab7,ab0,aa0,aa2]
   refine⟨fun e1=>?_,fun e1=>⟨fun e2=>?_,fun e2=>⟨fun e3=>?_,fun e3=>?_⟩⟩⟩
   ·unfold fW;rw[e,aa4 (show ¬ 0<=lx (rs.map sf) 2000 by omega)];rfl
   ·unfold fW;rw[aa4 (show ¬ ds.length<=100 by omega)];simp
   ·unfold fW;rw[aa4 (show ¬ rs.length<=300 by omega)];simp
   ·unfold fW;rw[e,aa6 (show 0<=lx (rs.map sf) 2000 by omega),aa6 (show ds.length<=100 by omega),aa6 (show rs.length<=300 by omega)];rfl
 ·cases hh
noncomputable def Rz(κ:Kp):Env:=(GR κ).aF 11 SS
theorem VO(κ:Kp):aC (Rz κ):=(Sg κ).aF (OX κ) (p22 κ)
theorem Z8(κ:Kp):ai (Rz κ):=(OX κ).aF
noncomputable abbrev E9(κ:Kp):Env:=Rz κ
theorem e9(κ:Kp):aC (E9 κ):=VO κ
theorem m9(κ:Kp):ai (E9 κ):=Z8 κ
abbrev Oi(s:ByteArray):AV:= .agg [.int 1, .lit (.string s), .int 0, .ae 52 []]
theorem VI(κ:Kp)(s:ByteArray)(K:AV->List Dn.Obj->Prop):(bg (E9 κ) 12 69 [.lit (.string s)] [] K)=(
 K (AV.agg [AV.int 1,AV.str s,AV.int 0,AV.ae 52 []]) []):=by kernel_rfl
def Sa:List AV->Option (Bool×AV)
 |[.lit (.string s)]=>some (true,Oi s)
 |_=>none
theorem XL(κ:Kp):sq (E9 κ) 12 69 Sa:=by
 intro args x hh
 unfold Sa at hh
 split at hh
 ·rename_i s
  simp only[aa3,aa9,true_and] at hh
  subst hh
  exact⟨rfl,Eq.mpr (VI κ s _) rfl⟩
 ·cases hh
noncomputable def OS(κ:Kp):Env:=(E9 κ).eE 69 Sa
theorem e13(κ:Kp):aC (OS κ):=(e9 κ).eE (m9 κ) (XL κ)
theorem TT(κ:Kp):ai (OS κ):=(m9 κ).eE
theorem y14(κ:Kp)(r s:ByteArray)(K:AV->List Dn.Obj->Prop):(bg (OS κ) 12 34 [.lit (.string r), .lit (.string s)] [] K)=(
 K (AV.agg [AV.str r,AV.ae 52 [AV.agg [AV.int 1,AV.str s,AV.int 0,AV.ae 52 []]]]) []):=by kernel_rfl
def RG:List AV->Option (Bool×AV)
 |[.lit (.string r), .lit (.string s)]=>some (true, .agg [.lit (.string r), .ae 52 [Oi s]])
 |_=>none
theorem c14(κ:Kp):sq (OS κ) 12 34 RG:=by
 intro args x hh
 unfold RG at hh
 split at hh
 ·rename_i r s
  simp only[aa3,aa9,true_and] at hh
  subst hh
  exact⟨rfl,Eq.mpr (y14 κ r s _) rfl⟩
 ·cases hh
noncomputable def J2(κ:Kp):Env:=(OS κ).eE 34 RG
theorem XH(κ:Kp):aC (J2 κ):=(e13 κ).eE (TT κ) (c14 κ)
theorem UI(κ:Kp):ai (J2 κ):=(TT κ).eE
theorem X2(κ:Kp)(l m:List AV)(i:Int)(I:Nat->S->Prop)(n:Nat)(K:Exit->S->Prop):(vc (J2 κ) 12 28 none 0 (ag (Pr κ).toProgram 28 4) (sp 26 [(0, .ae 3 l),(1, .ae 3 m),(5, .int i)] []) (bI (J2 κ) 28 4 0 I n K))=(
 letI z1:=i<(↑(l.length):Int)
 ax (decide z1) (aO (decide ((0:Int)<=i)&&decide z1) (aO (decide ((0:Int)<=i)&&decide (i<(↑(m.length):Int))) (ax (toInt (nth l i.toNat) != toInt
 (nth m i.toNat)) (K Exit.ret (sp 26 [(4,AV.bool false)] [])) (∃(e0:Nat),e0<n/\I e0 (sp 26 [(0,AV.ae 3 l),(1,AV.ae 3 m),(5,AV.int (IntKind.wrap
 IntKind.i64 (i+(1:Int))))] []))))) (K (Exit.exit 0) (sp 26 [] []))):=by kernel_rfl
def ml(l m:List AV):Bool:=decide (l.map toInt=m.map toInt)
abbrev Mn(a:List AV×List AV×Int):S:=sp 26 [(0, .ae 3 a.1),(1, .ae 3 a.2.1),(5, .int a.2.2)] []
def Er(a:List AV×List AV×Int):Prop:=a.1.length=a.2.1.length/\a.1.length<=aP/\0<=a.2.2/\a.2.2<=a.1.length
def xk(a:List AV×List AV×Int):Out (Exit×S):= .ax (ml (a.1.drop a.2.2.toNat) (a.2.1.drop a.2.2.toNat)) (.one (.exit 0,sp 26 [] [])) (.one (.ret,sp 26 [(4, .bool false)] []))
theorem Yq(κ:Kp):bn (J2 κ) 12 28 4 (aQ 0 Mn Er xk):=by
 refine aR (fun a=>a.1.length - a.2.2.toNat) ?_
 rintro⟨l,m,i⟩ K ⟨h1,h2,h3,h4⟩ ho
 simp only at h1 h2 h3 h4
 rw[show(J2 κ).P=Pr κ from rfl]
 refine Eq.mpr (X2 κ l m i _ _ K) ?_
 simp only[aP] at h2
 simp only[xk,Out.run,af] at ho
 simp only[af,au,aa0,aa2,aa1,bne_iff_ne,bne_eq_false_iff_eq]
 refine⟨fun hi=>⟨⟨h3,hi⟩,⟨h3,by omega⟩,?_⟩,fun hi=>?_⟩
 ·rw[ab1 (show i.toNat<l.length by omega),←a8 l i.toNat (by omega),ab1 (show i.toNat<m.length by omega),←a8 m i.toNat (by omega)] at ho
  simp only[ml,ac0,List.cons.injEq] at ho
  refine⟨fun e=>ho.2 (by simp[e]),fun e=>?_⟩
  rw[a5 (n:=i+1) (by omega) (by omega)]
  refine⟨_,?_,(l,m,i+1),rfl,⟨h1,by simpa[aP] using h2,by simp only;omega,by simp only;omega⟩,rfl,?_⟩
  ·simp only;omega
  ·simp only[xk,Out.run,af,show(i+1).toNat=i.toNat+1 by omega,ml]
   simpa[e] using ho
 ·rw[aa8 (by omega),aa8 (by omega)] at ho
  exact ho.1 rfl
noncomputable def Iw(κ:Kp):Env:=(J2 κ).aj 28 4 (aQ 0 Mn Er xk)
theorem Rk(κ:Kp):aC (Iw κ):=(XH κ).aj (UI κ) (Yq κ)
theorem Pv(κ:Kp):ai (Iw κ):=(UI κ).aj aG
theorem y15(κ:Kp)(l m:List AV)(K:AV->List Dn.Obj->Prop):(bg (Iw κ) 12 28 [.ae 3 l, .ae 3 m] [] K)=(
 letI z1:=Pg.toProgram (Env.P (J2 κ))
 ax ((↑(l.length):Int) != (↑(m.length):Int)) (K (AV.bool false) []) (ag z1 28 4=ag z1 28 4/\∃(e0:List AV×List AV×Int),sp 26 [(0,AV.ae 3 l),(1,
 AV.ae 3 m),(5,AV.int 0)] []=sp 26 [(0,AV.ae 3 e0.1),(1,AV.ae 3 e0.2.1),(5,AV.int e0.2.2)] []/\(e0.1.length=e0.2.1.length/\e0.1.length<=
 9223372036854775807/\(0:Int)<=e0.2.2/\e0.2.2<=(↑(e0.1.length):Int))/\ax (ml (List.drop (Int.toNat e0.2.2) e0.1) (List.drop (Int.toNat e0.2.2) e0.2.1))
 (K (AV.bool true) []) (K (AV.bool false) []))):=by kernel_rfl
def Rq:List AV->Option (Bool×AV)
 |[.ae 3 l, .ae 3 m]=>some (decide (l.length<=aP), .bool (ml l m))
 |_=>none
theorem Yj(κ:Kp):cy (Iw κ) 12 28 Rq:=by
 intro args x hh
 unfold Rq at hh
 split at hh
 ·rename_i l m
  simp only[aa3,aa9,aa0] at hh
  obtain⟨h1,rfl⟩:=hh
  refine⟨_,rfl,rfl,?_⟩
  refine Eq.mpr (y15 κ l m _) ?_
  simp only[af,bne_iff_ne,bne_eq_false_iff_eq]
  refine⟨fun e=>?_,fun e=>⟨trivial,(l,m,0),rfl,⟨by simp only;omega,h1,by simp only;omega,by simp only;omega⟩,?_⟩⟩
  ·have:ml l m=false:=by
    unfold ml
    rw[aa4]
    intro h
    have:=congrArg List.length h
    simp at this;omega
   rw[this]
  ·simp only[ab7,ab0]
   exact⟨fun e=>by rw[e],fun e=>by rw[e]⟩
 ·cases hh
noncomputable def Rw(κ:Kp):Env:=(Iw κ).aF 28 Rq
theorem e15(κ:Kp):aC (Rw κ):=(Rk κ).aF (Pv κ) (Yj κ)
theorem Z4(κ:Kp):ai (Rw κ):=(Pv κ).aF
end Go.Proofs.YtdpmikfheebicaaGreatDoor
namespace Go.Proofs.YtdpmikfheebicaaGreatDoor
open Go Go.Dn Go.Rl Go.Proofs
theorem mP{b c:Bool}(h:b=c):AV.bool b= .lit (.bool c):=by rw[h]
theorem MO(a b:Int):(a==b)=decide (a=b):=by by_cases h:a=b<;>simp[h]
theorem GJ(a b:Int):(a != b)= !decide (a=b):=by by_cases h:a=b<;>simp[h]
structure AT where
 op:Int
 s:ByteArray
 n:Int
 l:List AV
def AT.tm(a:AT):Tm:= .mk a.op a.s a.n (aa a.l)
def Eu(x:AV):AT:=⟨toInt (ad x 0),toStr (ad x 1),toInt (ad x 2),ah (ad x 3)⟩
theorem vl(x:AV):(Eu x).tm=cG x:=by rw[cE];rfl
abbrev dh(a:AT):AV:= .agg [.int a.op, .lit (.string a.s), .int a.n, .ae 52 a.l]
theorem Fp{a:ba}(h:dr a):(c6 (aJ a)).length<=100000:=by
 have h6:=b8 (aa (aH 52 a.hl a.bl))
 rw[iS 52 a.rel a.hl a.bl] at h6
 have h7:=kV (eT (aJ a)) []
 unfold c6
 cases aU (aJ a)
 ·exact Nat.zero_le _
 ·rw[aa7];exact Nat.le_trans h7 (Nat.le_trans h6 h.1)
end Go.Proofs.YtdpmikfheebicaaGreatDoor
