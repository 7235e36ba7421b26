import Derived.Test.YthaiinlfnommnaaGreatDoorDbM4
import Derived.Test.YthaiinlfnommnaaGreatDoorDbM1
namespace Go.Proofs.YthaiinlfnommnaaGreatDoor
open Go Go.Dn Go.Rl Go.Proofs
attribute [local irreducible] a8 vc
set_option maxRecDepth 20000
noncomputable abbrev lp8(a:cm)(ws:List AV)(κ:Kp)(st:LoopState)(p:Option Code):Dn.Obj:=
 .loop (gl (Pr κ).toProgram 74 5 st p (fW (bG 63) [(0,ar a),(1, .ptr 0 0 [] 0),(2, .ptr 1 0 [] 0),(3, .ptr 2 0 [] 0),(4, .an 3 0 ws.length),(5, .int 0),(10, .bh [.an 3 0 ws.length, .int 0]),(11,ar a),(12, .bh [.an 3 0 ws.length, .int 0]),(13, .an 3 0 ws.length),(14, .int 0),(15, .int 0),(16, .bool false),(18,ar a),(19, .bL 186 [.ptr 4 0 [] 0])]))
noncomputable abbrev Ek(κ:Kp)(a:cm)(ws:List AV)(b:Bool)(st:LoopState)(p:Option Code):List Dn.Obj:=[.box 66 (ar a), .box 4 (.bool b), .box 29 (.int 0), .row 3 ws, .box 66 (ar a),lp8 a ws κ st p]
theorem x8(κ:Kp)(a:cm)(ws:List AV)(es:List (Value×AV))(done:List AV)(i:Int)(I:Nat->S->Prop)(n:Nat)(K:Exit->S->Prop):(vc (Ov κ) 12 186 none 6 (af (Pr κ).toProgram 186 3) (sp 38 [(0, .cD 5),(1, .ptr 4 0 [] 0),(3, .mp 6),(4, .an 7 0 done.length),(13, .int a.bl.length),(14, .int i)] (Ek κ a ws false .ready none++[.map 9 4 es, .row 4 done])) (bK (Ov κ) 186 3 6 I n K))=(
 letI z1:=fW (bG 63) [(0,ar a),(1,AV.ptr 0 0 [] 0),(2,AV.ptr 1 0 [] 0),(3,AV.ptr 2 0 [] 0),(4,AV.an 3 0 ws.length),(5,AV.int 0),(10,AV.bh [AV.an 3
  0 ws.length,AV.int 0]),(11,ar a),(12,AV.bh [AV.an 3 0 ws.length,AV.int 0]),(13,AV.an 3 0 ws.length),(14,AV.int 0),(15,AV.int 0),(16,AV.bool
  false),(18,ar a),(19,AV.bL 186 [AV.ptr 4 0 [] 0])]
 letI z3:=gl Tryz.prog 74 5 LoopState.ready none z1
 letI z4:=IntKind.wrap IntKind.i64 (i+(1:Int))
 letI z6:=a.bl.length
 letI z7:=AV.bool false
 letI z5:=sp 38 [] [Obj.box 66 (ar a),Obj.box 4 z7,Obj.box 29 (AV.int 0),Obj.row 3 ws,Obj.box 66 (ar a),Dn.Obj.loop z3]
 letI z8:=AV.bool true
 letI z2:=K Exit.ret (sp 38 [] [Obj.box 66 (ar a),Obj.box 4 z8,Obj.box 29 (AV.int 0),Obj.row 3 ws,Obj.box 66 (ar a),Dn.Obj.loop (gl Tryz.prog 74 5
  LoopState.done (some Code.ret) z1)])
 letI z9:=done.length
 letI z10:=Value×AV
 aD (decide (i<(↑z6:Int))) (∃(e5:Jk),([ar a,AV.an 0 0 done.length,AV.mp 1],[Obj.row 4 done,Dn.Obj.map 9 4 es])=([ar e5.a,AV.an 0 0 (List.length
 (b9 e5.done)),AV.mp 1],[Obj.row 4 (b9 e5.done),Dn.Obj.map 9 4 (bR e5.b)])/\(aM (aF e5.a)=true/\(a6 (aa (bm 56 e5.a.hl e5.a.bl))<=100000/\List.length
 e5.a.bl<=100000)/\e5.done.length=List.length e5.a.bl)/\aD (decide (aE (aF e5.a) e5.done e5.b<(0:Int))) (K Exit.ret z5) (aX (decide ((0:Int)<=aE (aF
 e5.a) e5.done e5.b)&&decide (aE (aF e5.a) e5.done e5.b<(↑z6:Int))) (aD (toInt (ae (nth a.bl (Int.toNat (aE (aF e5.a) e5.done e5.b))) 0)==(3:Int)) (∃
 (e4:TA),([AV.mp 0,AV.agg [AV.int (toInt (ae (ae (nth a.bl (Int.toNat (aE (aF e5.a) e5.done e5.b))) 2) 0)),AV.str (toStr (ae (ae (nth a.bl (Int.toNat (aE
 (aF e5.a) e5.done e5.b))) 2) 1)),AV.int (toInt (ae (ae (nth a.bl (Int.toNat (aE (aF e5.a) e5.done e5.b))) 2) 2)),AV.ad 56 (ai (ae (ae (nth a.bl (Int.toNat (aE
 (aF e5.a) e5.done e5.b))) 2) 3))],AV.agg [AV.int (toInt (ae (ae (nth a.bl (Int.toNat (aE (aF e5.a) e5.done e5.b))) 3) 0)),AV.str (toStr (ae (ae (nth a.bl
 (Int.toNat (aE (aF e5.a) e5.done e5.b))) 3) 1)),AV.int (toInt (ae (ae (nth a.bl (Int.toNat (aE (aF e5.a) e5.done e5.b))) 3) 2)),AV.ad 56 (ai (ae (ae (nth a.bl
 (Int.toNat (aE (aF e5.a) e5.done e5.b))) 3) 3))]],[Dn.Obj.map 9 4 (bR e5.b)])=([AV.mp 0,AV.agg [AV.int e4.o1,AV.str e4.s1,AV.int e4.n1,AV.ad 56 e4.l1],
 AV.agg [AV.int e4.o2,AV.str e4.s2,AV.int e4.n2,AV.ad 56 e4.l2]],[Dn.Obj.map 9 4 e4.es])/\iT e4/\aD (lL e4.es (TA.x e4) (TA.y e4)) (aD (decide (toInt (ae
 (ae (nth a.bl (Int.toNat (aE (aF e5.a) e5.done e5.b))) 3) 0)>=(5:Int))) z2 (∃(e3:TA),([AV.mp 0,AV.agg [AV.int (toInt (ae (ae (nth a.bl (Int.toNat (aE
 (aF e5.a) e5.done e5.b))) 3) 0)),AV.str (toStr (ae (ae (nth a.bl (Int.toNat (aE (aF e5.a) e5.done e5.b))) 3) 1)),AV.int (toInt (ae (ae (nth a.bl (Int.toNat
 (aE (aF e5.a) e5.done e5.b))) 3) 2)),AV.ad 56 (ai (ae (ae (nth a.bl (Int.toNat (aE (aF e5.a) e5.done e5.b))) 3) 3))],AV.agg [AV.int (toInt (ae (ae (nth a.bl
 (Int.toNat (aE (aF e5.a) e5.done e5.b))) 2) 0)),AV.str (toStr (ae (ae (nth a.bl (Int.toNat (aE (aF e5.a) e5.done e5.b))) 2) 1)),AV.int (toInt (ae (ae (nth
 a.bl (Int.toNat (aE (aF e5.a) e5.done e5.b))) 2) 2)),AV.ad 56 (ai (ae (ae (nth a.bl (Int.toNat (aE (aF e5.a) e5.done e5.b))) 2) 3))]],[Dn.Obj.map 9 4 e4.es])
 =([AV.mp 0,AV.agg [AV.int e3.o1,AV.str e3.s1,AV.int e3.n1,AV.ad 56 e3.l1],AV.agg [AV.int e3.o2,AV.str e3.s2,AV.int e3.n2,AV.ad 56 e3.l2]],[Dn.Obj.map
 9 4 e3.es])/\iT e3/\aD (lL e3.es (TA.x e3) (TA.y e3)) (aD (decide (toInt (ae (ae (nth a.bl (Int.toNat (aE (aF e5.a) e5.done e5.b))) 2) 0)>=(5:Int))) z2 (aD
 (decide ((7:Int)<=toInt (ae (nth a.bl (Int.toNat (aE (aF e5.a) e5.done e5.b))) 0))) z2 (aX (decide ((0:Int)<=aE (aF e5.a) e5.done e5.b)&&decide (aE (aF
 e5.a) e5.done e5.b<(↑z9:Int))) (∃(e2:cm×Int),([ar a,AV.int (aE (aF e5.a) e5.done e5.b)],aI)=([ar e2.1,AV.int e2.2],aI)/\(aM (aF e2.1)=true/\
 (a6 (aa (bm 56 e2.1.hl e2.1.bl))<=100000/\e2.1.bl.length<=100000)/\(0:Int)<=e2.2/\e2.2<(↑(e2.1.bl.length):Int))/\∃(e1:List AV×List z10),
 ([AV.mp 0,AV.ad 9 (strs (cQ (aF e2.1) e2.2.toNat))],[Dn.Obj.map 9 4 e3.es])=([AV.mp 0,AV.ad 9 e1.1],[Dn.Obj.map 9 4 e1.2])/\bq e1/\∃(e0:Nat),e0<n
 /\I e0 (sp 38 [(0,AV.cD 5),(1,AV.ptr 4 0 [] 0),(3,AV.mp 6),(4,AV.an 7 0 done.length),(13,AV.int (↑z6:Int)),(14,AV.int z4)] [Obj.box 66 (ar a),
 Obj.box 4 z7,Obj.box 29 (AV.int 0),Obj.row 3 ws,Obj.box 66 (ar a),Dn.Obj.loop z3,Dn.Obj.map 9 4 (fF e1.2 e1.1),Obj.row 4 (cg (b9 e5.done) (0+Int.toNat
 (aE (aF e5.a) e5.done e5.b)) z8)]))))) (aD (decide ((7:Int)<=toInt (ae (nth a.bl (Int.toNat (aE (aF e5.a) e5.done e5.b))) 0))) z2 (aX (decide ((0:Int)<=aE
 (aF e5.a) e5.done e5.b)&&decide (aE (aF e5.a) e5.done e5.b<(↑z9:Int))) (∃(e2:cm×Int),([ar a,AV.int (aE (aF e5.a) e5.done e5.b)],aI)=([ar e2.1,
 AV.int e2.2],aI)/\(aM (aF e2.1)=true/\(a6 (aa (bm 56 e2.1.hl e2.1.bl))<=100000/\e2.1.bl.length<=100000)/\(0:Int)<=e2.2/\e2.2<(↑(e2.1.bl.length):
 Int))/\∃(e1:List AV×List z10),([AV.mp 0,AV.ad 9 (strs (cQ (aF e2.1) e2.2.toNat))],[Dn.Obj.map 9 4 e3.es])=([AV.mp 0,AV.ad 9 e1.1],[Dn.Obj.map 9 4
 e1.2])/\bq e1/\∃(e0:Nat),e0<n/\I e0 (sp 38 [(0,AV.cD 5),(1,AV.ptr 4 0 [] 0),(3,AV.mp 6),(4,AV.an 7 0 done.length),(13,AV.int (↑z6:Int)),
 (14,AV.int z4)] [Obj.box 66 (ar a),Obj.box 4 z7,Obj.box 29 (AV.int 0),Obj.row 3 ws,Obj.box 66 (ar a),Dn.Obj.loop z3,Dn.Obj.map 9 4 (fF e1.2 e1.1),
 Obj.row 4 (cg (b9 e5.done) (0+Int.toNat (aE (aF e5.a) e5.done e5.b)) z8)])))))) (∃(e3:TA),([AV.mp 0,AV.agg [AV.int (toInt (ae (ae (nth a.bl (Int.toNat
 (aE (aF e5.a) e5.done e5.b))) 3) 0)),AV.str (toStr (ae (ae (nth a.bl (Int.toNat (aE (aF e5.a) e5.done e5.b))) 3) 1)),AV.int (toInt (ae (ae (nth a.bl
 (Int.toNat (aE (aF e5.a) e5.done e5.b))) 3) 2)),AV.ad 56 (ai (ae (ae (nth a.bl (Int.toNat (aE (aF e5.a) e5.done e5.b))) 3) 3))],AV.agg [AV.int (toInt (ae (ae
 (nth a.bl (Int.toNat (aE (aF e5.a) e5.done e5.b))) 2) 0)),AV.str (toStr (ae (ae (nth a.bl (Int.toNat (aE (aF e5.a) e5.done e5.b))) 2) 1)),AV.int (toInt (ae
 (ae (nth a.bl (Int.toNat (aE (aF e5.a) e5.done e5.b))) 2) 2)),AV.ad 56 (ai (ae (ae (nth a.bl (Int.toNat (aE (aF e5.a) e5.done e5.b))) 2) 3))]],[Dn.Obj.map 9 4
 e4.es])=([AV.mp 0,AV.agg [AV.int e3.o1,AV.str e3.s1,AV.int e3.n1,AV.ad 56 e3.l1],AV.agg [AV.int e3.o2,AV.str e3.s2,AV.int e3.n2,AV.ad 56 e3.l2]],
 [Dn.Obj.map 9 4 e3.es])/\iT e3/\aD (lL e3.es (TA.x e3) (TA.y e3)) (aD (decide (toInt (ae (ae (nth a.bl (Int.toNat (aE (aF e5.a) e5.done e5.b))) 2) 0)>=(5:
 Int))) z2 (aD (decide ((7:Int)<=toInt (ae (nth a.bl (Int.toNat (aE (aF e5.a) e5.done e5.b))) 0))) z2 (aX (decide ((0:Int)<=aE (aF e5.a) e5.done e5.b)&&
 decide (aE (aF e5.a) e5.done e5.b<(↑z9:Int))) (∃(e2:cm×Int),([ar a,AV.int (aE (aF e5.a) e5.done e5.b)],aI)=([ar e2.1,AV.int e2.2],aI)/\(aM (aF
 e2.1)=true/\(a6 (aa (bm 56 e2.1.hl e2.1.bl))<=100000/\e2.1.bl.length<=100000)/\(0:Int)<=e2.2/\e2.2<(↑(e2.1.bl.length):Int))/\∃(e1:List AV×
 List z10),([AV.mp 0,AV.ad 9 (strs (cQ (aF e2.1) e2.2.toNat))],[Dn.Obj.map 9 4 e3.es])=([AV.mp 0,AV.ad 9 e1.1],[Dn.Obj.map 9 4 e1.2])/\bq e1/\∃(e0:
 Nat),e0<n/\I e0 (sp 38 [(0,AV.cD 5),(1,AV.ptr 4 0 [] 0),(3,AV.mp 6),(4,AV.an 7 0 done.length),(13,AV.int (↑z6:Int)),(14,AV.int z4)] [Obj.box 66
 (ar a),Obj.box 4 z7,Obj.box 29 (AV.int 0),Obj.row 3 ws,Obj.box 66 (ar a),Dn.Obj.loop z3,Dn.Obj.map 9 4 (fF e1.2 e1.1),Obj.row 4 (cg (b9 e5.done) (0+
 Int.toNat (aE (aF e5.a) e5.done e5.b)) z8)]))))) (aD (decide ((7:Int)<=toInt (ae (nth a.bl (Int.toNat (aE (aF e5.a) e5.done e5.b))) 0))) z2 (aX (decide ((0:
 Int)<=aE (aF e5.a) e5.done e5.b)&&decide (aE (aF e5.a) e5.done e5.b<(↑z9:Int))) (∃(e2:cm×Int),([ar a,AV.int (aE (aF e5.a) e5.done e5.b)],aI)=
 ([ar e2.1,AV.int e2.2],aI)/\(aM (aF e2.1)=true/\(a6 (aa (bm 56 e2.1.hl e2.1.bl))<=100000/\e2.1.bl.length<=100000)/\(0:Int)<=e2.2/\e2.2<
 (↑(e2.1.bl.length):Int))/\∃(e1:List AV×List z10),([AV.mp 0,AV.ad 9 (strs (cQ (aF e2.1) e2.2.toNat))],[Dn.Obj.map 9 4 e3.es])=([AV.mp 0,AV.ad 9
 e1.1],[Dn.Obj.map 9 4 e1.2])/\bq e1/\∃(e0:Nat),e0<n/\I e0 (sp 38 [(0,AV.cD 5),(1,AV.ptr 4 0 [] 0),(3,AV.mp 6),(4,AV.an 7 0 done.length),(13,
 AV.int (↑z6:Int)),(14,AV.int z4)] [Obj.box 66 (ar a),Obj.box 4 z7,Obj.box 29 (AV.int 0),Obj.row 3 ws,Obj.box 66 (ar a),Dn.Obj.loop z3,Dn.Obj.map 9 4
 (fF e1.2 e1.1),Obj.row 4 (cg (b9 e5.done) (0+Int.toNat (aE (aF e5.a) e5.done e5.b)) z8)])))))) (aD (decide ((7:Int)<=toInt (ae (nth a.bl (Int.toNat (aE
 (aF e5.a) e5.done e5.b))) 0))) z2 (aX (decide ((0:Int)<=aE (aF e5.a) e5.done e5.b)&&decide (aE (aF e5.a) e5.done e5.b<(↑z9:Int))) (∃(e2:cm×Int),
 ([ar a,AV.int (aE (aF e5.a) e5.done e5.b)],aI)=([ar e2.1,AV.int e2.2],aI)/\(aM (aF e2.1)=true/\(a6 (aa (bm 56 e2.1.hl e2.1.bl))<=100000/\
 e2.1.bl.length<=100000)/\(0:Int)<=e2.2/\e2.2<(↑(e2.1.bl.length):Int))/\∃(e1:List AV×List z10),([AV.mp 0,AV.ad 9 (strs (cQ (aF e2.1)
 e2.2.toNat))],[Dn.Obj.map 9 4 (bR e5.b)])=([AV.mp 0,AV.ad 9 e1.1],[Dn.Obj.map 9 4 e1.2])/\bq e1/\∃(e0:Nat),e0<n/\I e0 (sp 38 [(0,AV.cD 5),(1,
 AV.ptr 4 0 [] 0),(3,AV.mp 6),(4,AV.an 7 0 done.length),(13,AV.int (↑z6:Int)),(14,AV.int z4)] [Obj.box 66 (ar a),Obj.box 4 z7,Obj.box 29 (AV.int 0),
 Obj.row 3 ws,Obj.box 66 (ar a),Dn.Obj.loop z3,Dn.Obj.map 9 4 (fF e1.2 e1.1),Obj.row 4 (cg (b9 e5.done) (0+Int.toNat (aE (aF e5.a) e5.done e5.b))
 z8)]))))))) (K (Exit.exit 0) z5)):=by kernel_rfl
structure A8 where
 a:cm
 ws:List AV
 done:List Bool
 b:List ByteArray
 i:Int
noncomputable abbrev Nd(κ:Kp)(a:A8):S:=sp 38 [(0, .cD 5),(1, .ptr 4 0 [] 0),(3, .mp 6),(4, .an 7 0 (b9 a.done).length),(13, .int a.a.bl.length),(14, .int a.i)] (Ek κ a.a a.ws false .ready none++[.map 9 4 (bR a.b), .row 4 (b9 a.done)])
def Eb(a:A8):Prop:=aM (aF a.a)=true/\dd a.a/\0<=a.i/\a.i<=a.a.bl.length/\a.done.length=a.a.bl.length
noncomputable def IU(a:A8):Bool:=LL (aF a.a) (a.a.bl.length - a.i.toNat) a.done a.b
noncomputable def BV(κ:Kp)(a:A8):Out (Exit×S):= .aD (IU a) (.one (.ret,sp 38 [] (Ek κ a.a a.ws true .done (some .ret)))) (.all (fun _:Bool=>True) fun e=> .aD e (.one (.ret,sp 38 [] (Ek κ a.a a.ws false .ready none))) (.one (.exit 0,sp 38 [] (Ek κ a.a a.ws false .ready none))))
theorem IW(r:Rl)(n:Nat)(done:List Bool)(b:List ByteArray):LL r (n+1) done b=
  bif decide (aE r done b<0) then false else IE r b (aE r done b).toNat||LL r n (done.set (aE r done b).toNat true) (b++cQ r (aE r done b).toNat):=rfl
theorem l8(κ:Kp):bj (Ov κ) 12 186 3 (aO 6 (Nd κ) Eb (BV κ)):=by
 refine aK (fun a=>a.a.bl.length - a.i.toNat) ?_
 rintro⟨a,ws,done,b,i⟩ K ⟨h1,h2,h3,h4,h5⟩ ho
 simp only at h1 h2 h3 h4 h5
 rw[show(Ov κ).P=Pr κ from rfl]
 refine Eq.mpr (x8 κ a ws (bR b) (b9 done) i _ _ K) ?_
 simp only[BV,Out.run,ah,IU] at ho
 simp only[and_self]
 have hbl:=jA done
 have hl:=h2.2
 rw[ah,aa1,aa3]
 refine⟨fun hi=>⟨⟨a,done,b,0,0⟩,rfl,⟨h1,h2,h5⟩,?_⟩,fun hi=>?_⟩
 ·have hw:=IW (aF a) (a.bl.length - (i.toNat+1)) done b
  rw[show a.bl.length - (i.toNat+1)+1=a.bl.length - i.toNat by omega] at hw
  rw[ah,aa1,aa3]
  refine⟨fun e=>?_,fun e=>?_⟩
  ·rw[hw,aa7 e] at ho
   exact(ho.2 rfl true trivial).1 rfl
  ·rw[hw,aa5 e,aa6] at ho
   rcases qh (aF a) done b with e0|⟨e1,e2,e3,_⟩
   ·rw[e0] at e;omega
   have e2':=e2
   rw[fT] at e2'
   have hg:=r5 h2 e2'
   have hlit:=kE h2 e2'
   have e2i:aE (aF a) done b<a.bl.length:=by omega
   have hsd:bq (strs (cQ (aF a) (aE (aF a) done b).toNat),bR b):=by simp only[bq,aV,aR];omega
   have hbnd:(decide (0<=aE (aF a) done b)&&decide (aE (aF a) done b<(a.bl.length:Int)))=true:=by simp[e1,e2i]
   have hbnd2:(decide (0<=aE (aF a) done b)&&decide (aE (aF a) done b<((b9 done).length:Int)))=true:=by rw[hbl,h5];exact hbnd
   have hlc:iQ (cK (nth a.bl (aE (aF a) done b).toNat))=a6 [cR (ae (nth a.bl (aE (aF a) done b).toNat) 2),cR (ae (nth a.bl (aE (aF a) done b).toNat) 3)]+a6 (aa (ai (ae (ae (nth a.bl (aE (aF a) done b).toNat) 1) 1))):=rfl
   have hcx:a6 [cR (ae (nth a.bl (aE (aF a) done b).toNat) 2)]<=100000/\a6 [cR (ae (nth a.bl (aE (aF a) done b).toNat) 3)]<=100000:=by
    simp only[a6] at hlc⊢;omega
   have hx1:iT (lN (ae (nth a.bl (aE (aF a) done b).toNat) 2) (ae (nth a.bl (aE (aF a) done b).toNat) 3) (bR b)):=by unfold iT lN;rw[nI];exact hcx.2
   have hx2:iT (lN (ae (nth a.bl (aE (aF a) done b).toNat) 3) (ae (nth a.bl (aE (aF a) done b).toNat) 2) (bR b)):=by unfold iT lN;rw[nI];exact hcx.1
   have ta1:lL (lN (ae (nth a.bl (aE (aF a) done b).toNat) 2) (ae (nth a.bl (aE (aF a) done b).toNat) 3) (bR b)).es (lN (ae (nth a.bl (aE (aF a) done b).toNat) 2) (ae (nth a.bl (aE (aF a) done b).toNat) 3) (bR b)).x (lN (ae (nth a.bl (aE (aF a) done b).toNat) 2) (ae (nth a.bl (aE (aF a) done b).toNat) 3) (bR b)).y=lJ b (cR (ae (nth a.bl (aE (aF a) done b).toNat) 2)) (cR (ae (nth a.bl (aE (aF a) done b).toNat) 3)):=by
    unfold lN;rw[AX,nI,oI]
   have ta2:lL (lN (ae (nth a.bl (aE (aF a) done b).toNat) 3) (ae (nth a.bl (aE (aF a) done b).toNat) 2) (bR b)).es (lN (ae (nth a.bl (aE (aF a) done b).toNat) 3) (ae (nth a.bl (aE (aF a) done b).toNat) 2) (bR b)).x (lN (ae (nth a.bl (aE (aF a) done b).toNat) 3) (ae (nth a.bl (aE (aF a) done b).toNat) 2) (bR b)).y=lJ b (cR (ae (nth a.bl (aE (aF a) done b).toNat) 3)) (cR (ae (nth a.bl (aE (aF a) done b).toNat) 2)):=by
    unfold lN;rw[AX,nI,oI]
   have hinv:IE (aF a) b (aE (aF a) done b).toNat=((decide (toInt (ae (nth a.bl (aE (aF a) done b).toNat) 0)=3)&&(lJ b (cR (ae (nth a.bl (aE (aF a) done b).toNat) 2)) (cR (ae (nth a.bl (aE (aF a) done b).toNat) 3))&&decide (toInt (ae (ae (nth a.bl (aE (aF a) done b).toNat) 3) 0)>=5)||lJ b (cR (ae (nth a.bl (aE (aF a) done b).toNat) 3)) (cR (ae (nth a.bl (aE (aF a) done b).toNat) 2))&&decide (toInt (ae (ae (nth a.bl (aE (aF a) done b).toNat) 2) 0)>=5)))||decide (7<=toInt (ae (nth a.bl (aE (aF a) done b).toNat) 0))):=by
    have o1:(cR (ae (nth a.bl (aE (aF a) done b).toNat) 2)).op=toInt (ae (ae (nth a.bl (aE (aF a) done b).toNat) 2) 0):=by rw[dh];rfl
    have o2:(cR (ae (nth a.bl (aE (aF a) done b).toNat) 3)).op=toInt (ae (ae (nth a.bl (aE (aF a) done b).toNat) 3) 0):=by rw[dh];rfl
    unfold IE
    rw[show(aF a).body=dg a.bl from rfl,km _ e2',show(cK (nth a.bl (aE (aF a) done b).toNat)).op=toInt (ae (nth a.bl (aE (aF a) done b).toNat) 0) from rfl,show(cK (nth a.bl (aE (aF a) done b).toNat)).x=cR (ae (nth a.bl (aE (aF a) done b).toNat) 2) from rfl,show(cK (nth a.bl (aE (aF a) done b).toNat)).y=cR (ae (nth a.bl (aE (aF a) done b).toNat) 3) from rfl,o1,o2]
   have h3t:(toInt (ae (nth a.bl (aE (aF a) done b).toNat) 0)==3)=true->decide (toInt (ae (nth a.bl (aE (aF a) done b).toNat) 0)=3)=true:=fun e=>by simpa using e
   have h3f:(toInt (ae (nth a.bl (aE (aF a) done b).toNat) 0)==3)=false->decide (toInt (ae (nth a.bl (aE (aF a) done b).toNat) 0)=3)=false:=fun e=>by simpa using e
   have ho1:IE (aF a) b (aE (aF a) done b).toNat=true->K .ret (sp 38 [] (Ek κ a ws true .done (some .ret))):=fun e=>ho.1 (by rw[e];rfl)
   have nx:IE (aF a) b (aE (aF a) done b).toNat=false->∃m,m<a.bl.length - i.toNat/\fq (Nd κ) Eb (BV κ) (fun a=>a.a.bl.length - a.i.toNat) K m (sp 38 [(0, .cD 5),(1, .ptr 4 0 [] 0),(3, .mp 6),(4, .an 7 0 (b9 done).length),(13, .int a.bl.length),(14, .int (IntKind.wrap .i64 (i+1)))] (Ek κ a ws false .ready none++[.map 9 4 (fF (bR b) (strs (cQ (aF a) (aE (aF a) done b).toNat))), .row 4 (cg (b9 done) (0+(aE (aF a) done b).toNat) (.lit (.bool true)))])):=by
    intro e
    rw[e,Bool.false_or] at ho
    rw[aW (n:=i+1) (by omega) (by omega)]
    refine⟨_,?_,⟨a,ws,done.set (aE (aF a) done b).toNat true,b++cQ (aF a) (aE (aF a) done b).toNat,i+1⟩,?_,⟨h1,h2,by simp only;omega,by simp only;omega,by simpa using h5⟩,rfl,?_⟩
    ·simp only;omega
    ·simp only[Nd,Nat.zero_add,qg,lY,jA,List.length_set]
    ·simp only[BV,Out.run,ah,IU,show(i+1).toNat=i.toNat+1 by omega]
     exact ho
   rw[aq]
   refine⟨hbnd,?_⟩
   rw[ah]
   exact⟨fun f3=>⟨lN (ae (nth a.bl (aE (aF a) done b).toNat) 2) (ae (nth a.bl (aE (aF a) done b).toNat) 3) (bR b),rfl,hx1,by
   rw[ta1]
   exact ah.2 ⟨fun g1=>ah.2 ⟨fun g4=>ho1 (by rw[hinv,h3t f3,g1,g4];simp),fun g4=>⟨lN (ae (nth a.bl (aE (aF a) done b).toNat) 3) (ae (nth a.bl (aE (aF a) done b).toNat) 2) (bR b),rfl,hx2,by
   rw[ta2]
   exact ah.2 ⟨fun g2=>ah.2 ⟨fun g3=>ho1 (by rw[hinv,h3t f3,g1,g4,g2,g3];simp),fun g3=>ah.2 ⟨fun f7=>ho1 (by rw[hinv,h3t f3,g1,g4,g2,g3,f7];simp),fun f7=>aq.2 ⟨hbnd2,(a,(aE (aF a) done b)),rfl,⟨h1,h2,e1,e2i⟩,(strs (cQ (aF a) (aE (aF a) done b).toNat),bR b),rfl,hsd,nx (by rw[hinv,h3t f3,g1,g4,g2,g3,f7];simp)⟩⟩⟩,fun g2=>ah.2 ⟨fun f7=>ho1 (by rw[hinv,h3t f3,g1,g4,g2,f7];simp),fun f7=>aq.2 ⟨hbnd2,(a,(aE (aF a) done b)),rfl,⟨h1,h2,e1,e2i⟩,(strs (cQ (aF a) (aE (aF a) done b).toNat),bR b),rfl,hsd,nx (by rw[hinv,h3t f3,g1,g4,g2,f7];simp)⟩⟩⟩⟩⟩,fun g1=>⟨lN (ae (nth a.bl (aE (aF a) done b).toNat) 3) (ae (nth a.bl (aE (aF a) done b).toNat) 2) (bR b),rfl,hx2,by
   rw[ta2]
   exact ah.2 ⟨fun g2=>ah.2 ⟨fun g3=>ho1 (by rw[hinv,h3t f3,g1,g2,g3];simp),fun g3=>ah.2 ⟨fun f7=>ho1 (by rw[hinv,h3t f3,g1,g2,g3,f7];simp),fun f7=>aq.2 ⟨hbnd2,(a,(aE (aF a) done b)),rfl,⟨h1,h2,e1,e2i⟩,(strs (cQ (aF a) (aE (aF a) done b).toNat),bR b),rfl,hsd,nx (by rw[hinv,h3t f3,g1,g2,g3,f7];simp)⟩⟩⟩,fun g2=>ah.2 ⟨fun f7=>ho1 (by rw[hinv,h3t f3,g1,g2,f7];simp),fun f7=>aq.2 ⟨hbnd2,(a,(aE (aF a) done b)),rfl,⟨h1,h2,e1,e2i⟩,(strs (cQ (aF a) (aE (aF a) done b).toNat),bR b),rfl,hsd,nx (by rw[hinv,h3t f3,g1,g2,f7];simp)⟩⟩⟩⟩⟩⟩,fun f3=>ah.2 ⟨fun f7=>ho1 (by rw[hinv,h3f f3,f7];simp),fun f7=>aq.2 ⟨hbnd2,(a,(aE (aF a) done b)),rfl,⟨h1,h2,e1,e2i⟩,(strs (cQ (aF a) (aE (aF a) done b).toNat),bR b),rfl,hsd,nx (by rw[hinv,h3f f3,f7];simp)⟩⟩⟩
 ·rw[show a.bl.length - i.toNat=0 by omega] at ho
  exact(ho.2 rfl false trivial).2 rfl
noncomputable def TF(κ:Kp):Env:=(Ov κ).ak 186 3 (aO 6 (Nd κ) Eb (BV κ))
theorem e8l(κ:Kp):aB (TF κ):=(e10 κ).ak (YS κ) (l8 κ)
theorem Zx(κ:Kp):aj (TF κ):=(YS κ).ak aG
theorem y8(κ:Kp)(a:cm)(K:AV->List Dn.Obj->Prop):(a8 (TF κ) 12 74 [ar a] [] K)=(
 letI z1:=a.bl.length
 letI z2:=K (AV.bh [AV.bool false,AV.int 0]) []
 letI z3:=Pg.toProgram (Env.P (Ov κ))
 letI z4:=AV.bool false
 letI z5:=Int.toNat (↑z1:Int)
 ∃(e2:cm),([ar a],aI)=([ar e2],aI)/\(a6 (aa (bm 56 e2.hl e2.bl))<=100000/\e2.bl.length<=100000)/\aD (aM (aF e2)) (aD (iO (aF e2)) (aX (true&&
 decide ((↑z1:Int)<=(↑z1:Int))&&decide ((Int.toNat (↑z1:Int)+1)*2<=70368744177664)&&true) (af z3 186 3=af z3 186 3/\∃(e1:A8),sp 38 [(0,
 AV.cD 5),(1,AV.ptr 4 0 [] 0),(3,AV.mp 6),(4,AV.an 7 0 z5),(13,AV.int (↑z1:Int)),(14,AV.int 0)] [Obj.box 66 (ar a),Obj.box 4 z4,Obj.box 29 (AV.int
 0),Obj.row 3 (ints (b8 (aF e2))),Obj.box 66 (ar a),Dn.Obj.loop (gl Tryz.prog 74 5 LoopState.ready none (fW (bG 63) [(0,ar a),(1,AV.ptr 0 0 [] 0),(2,
 AV.ptr 1 0 [] 0),(3,AV.ptr 2 0 [] 0),(4,AV.an 3 0 (List.length (b8 (aF e2)))),(5,AV.int 0),(10,AV.bh [AV.an 3 0 (List.length (b8 (aF e2))),AV.int 0]),
 (11,ar a),(12,AV.bh [AV.an 3 0 (List.length (b8 (aF e2))),AV.int 0]),(13,AV.an 3 0 (List.length (b8 (aF e2)))),(14,AV.int 0),(15,AV.int 0),(16,
 AV.bool false),(18,ar a),(19,AV.bL 186 [AV.ptr 4 0 [] 0])])),Dn.Obj.map 9 4 [],Obj.row 4 (fN z4 z5)]=sp 38 [(0,AV.cD 5),(1,AV.ptr 4 0 [] 0),(3,
 AV.mp 6),(4,AV.an 7 0 (List.length (b9 e1.done))),(13,AV.int (↑(List.length e1.a.bl):Int)),(14,AV.int e1.i)] [Obj.box 66 (ar e1.a),Obj.box 4 z4,
 Obj.box 29 (AV.int 0),Obj.row 3 e1.ws,Obj.box 66 (ar e1.a),Dn.Obj.loop (gl Tryz.prog 74 5 LoopState.ready none (fW (bG 63) [(0,ar e1.a),(1,AV.ptr 0 0 []
 0),(2,AV.ptr 1 0 [] 0),(3,AV.ptr 2 0 [] 0),(4,AV.an 3 0 e1.ws.length),(5,AV.int 0),(10,AV.bh [AV.an 3 0 e1.ws.length,AV.int 0]),(11,ar e1.a),(12,
 AV.bh [AV.an 3 0 e1.ws.length,AV.int 0]),(13,AV.an 3 0 e1.ws.length),(14,AV.int 0),(15,AV.int 0),(16,AV.bool false),(18,ar e1.a),(19,AV.bL 186
 [AV.ptr 4 0 [] 0])])),Dn.Obj.map 9 4 (bR e1.b),Obj.row 4 (b9 e1.done)]/\(aM (aF e1.a)=true/\(a6 (aa (bm 56 e1.a.hl e1.a.bl))<=100000/\List.length
 e1.a.bl<=100000)/\(0:Int)<=e1.i/\e1.i<=(↑(List.length e1.a.bl):Int)/\e1.done.length=List.length e1.a.bl)/\aD (IU e1) (K (AV.bh [AV.bool true,
 AV.int 0]) []) (∀(e0:Bool),True->aD e0 z2 z2))) (K (AV.bh [AV.bool false,AV.int 60]) [])) (K (AV.bh [AV.bool false,AV.int 30]) [])):=by kernel_rfl
def Ru(a:cm):Out (AV×List Dn.Obj):= .aD (aM (aF a)) (.aD (iO (aF a)) (.one (.bh [.bool (K9 (aF a)), .int 0],[])) (.one (.bh [.bool false, .int 60],[]))) (.one (.bh [.bool false, .int 30],[]))
theorem c8(κ:Kp):bt (TF κ) 12 74 (aL BU dd Ru):=by
 refine aZ ?_
 rintro a K h2 ho
 refine Eq.mpr (y8 κ a K) ?_
 simp only[Ru,Out.run,ah] at ho
 have hl:=h2.2
 refine⟨a,rfl,h2,?_⟩
 rw[ah]
 refine⟨fun e1=>?_,fun e1=>ho.2 e1⟩
 rw[ah]
 refine⟨fun e2=>?_,fun e2=>(ho.1 e1).2 e2⟩
 have hw:=oZ e2
 have ho1:=(ho.1 e1).1 e2
 simp only[aq,aa2,aa1,Int.toNat_natCast]
 have hi:IU ⟨a,ints (b8 (aF a)),List.replicate a.bl.length false,[],0⟩=K9 (aF a):=by
  unfold IU K9
  rw[fT];rfl
 refine⟨⟨⟨⟨trivial,by omega⟩,by omega⟩,trivial⟩,trivial,⟨a,ints (b8 (aF a)),List.replicate a.bl.length false,[],0⟩,?_,⟨e1,h2,by simp only;omega,by simp only;omega,by simp⟩,?_⟩
 ·simp only[s9,jA,og,List.length_replicate];rfl
 ·rw[hi,ah]
  refine⟨fun e=>by rw[e] at ho1;exact ho1,fun e y _=>?_⟩
  rw[e] at ho1
  cases y
  ·exact ho1
  ·exact ho1
noncomputable def E8(κ:Kp):Env:=(TF κ).ax 74 (aL BU dd Ru)
theorem e8(κ:Kp):aB (E8 κ):=(e8l κ).ax (Zx κ) (c8 κ)
theorem m8(κ:Kp):aj (E8 κ):=(Zx κ).ax aJ
def R8:List AV->Option (Bool×AV)
 |[.agg [.lit (.int .i64 op), .lit (.string s), .lit (.int .i64 n), .ad 56 l], .lit (.int .i64 left)]=>some (decide (0<=left)&&decide (left<=100000), .int ((Tm.mk op s n (aa l)).size left))
 |_=>none
def Ei:List AV->Nat
 |[.agg [_,_,_, .ad _ l],_]=>a6 (aa l)
 |_=>0
noncomputable def zm(κ:Kp)(n:Nat):Env:=(E8 κ).aH 94 (below R8 Ei n)
structure UF where
 op:Int
 s:ByteArray
 n:Int
 l:List AV
 left:Int
 i:Int
abbrev Ka(a:UF):S:=sp 31 [(1, .int a.left),(2, .ptr 0 0 [] 0),(5, .int a.i)] [.box 56 (.agg [.int a.op, .lit (.string a.s), .int a.n, .ad 56 a.l])]
theorem x54(κ:Kp)(r:Nat)(a:UF)(I:Nat->S->Prop)(n:Nat)(K:Exit->S->Prop):(vc (zm κ r) 12 94 none 0 (af (Pr κ).toProgram 94 5) (Ka a) (bK (zm κ r) 94 5 0 I n K))=(
 letI z1:=nth a.l a.i.toNat
 letI z2:=K (Exit.exit 0) (sp 31 [(1,AV.int a.left)] [])
 letI z3:=a.i<(↑(a.l.length):Int)
 aD (decide z3) (aD (decide (a.left>=(0:Int))) (aX (decide ((0:Int)<=a.i)&&decide z3) (aX (decide ((0:Int)<=a.left)&&decide (a.left<=(100000:
 Int))&&Nat.blt (Ei [AV.agg [AV.int (toInt (ae z1 0)),AV.str (toStr (ae z1 1)),AV.int (toInt (ae z1 2)),AV.ad 56 (ai (ae z1 3))],AV.int a.left]) r) (∃(e0
 :Nat),e0<n/\I e0 (sp 31 [(1,AV.int (Tm.size (Tm.mk (toInt (ae z1 0)) (toStr (ae z1 1)) (toInt (ae z1 2)) (aa (ai (ae z1 3)))) a.left)),(2,AV.ptr 0 0 []
 0),(5,AV.int (IntKind.wrap IntKind.i64 (a.i+(1:Int))))] [Obj.box 56 (AV.agg [AV.int a.op,AV.str a.s,AV.int a.n,AV.ad 56 a.l])])))) z2) z2):=by kernel_rfl
def Fx(r:Nat)(a:UF):Prop:= -1<=a.left/\a.i+a.left<=100000/\0<=a.i/\a.i<=a.l.length/\a6 (aa (a.l.drop a.i.toNat))<=r
def zV(a:UF):Out (Exit×S):= .one (.exit 0,sp 31 [(1, .int (iZ (aa (a.l.drop a.i.toNat)) a.left))] [])
theorem l54(κ:Kp)(r:Nat):bj (zm κ r) 12 94 5 (aO 0 Ka (Fx r) zV):=by
 refine aK (fun a=>a.l.length - a.i.toNat) ?_
 rintro⟨op,s,n,l,left,i⟩ K ⟨h1,h2,h3,h4,h5⟩ ho
 simp only at h1 h2 h3 h4 h5
 rw[show(zm κ r).P=Pr κ from rfl]
 refine Eq.mpr (x54 κ r ⟨op,s,n,l,left,i⟩ _ _ K) ?_
 simp only[zV,Out.run] at ho
 simp only[ah,aq,aa1,aa3,aa2,Nat.blt_eq,←dh]
 refine⟨fun hi=>⟨fun hl=>⟨⟨h3,hi⟩,?_⟩,fun hl=>?_⟩,fun hi=>?_⟩
 ·have hc:=wM l i.toNat (by omega)
  have hz:=Tm.size_le (cR (nth l i.toNat)) left hl
  have hp:(cR (nth l i.toNat)).jf=1+a6 (aa (ai (ae (nth l i.toNat) 3))):=by rw[dh,Tm.jf]
  rw[eI l i.toNat (by omega),iZ,aa7 hl,aa8] at ho
  rw[aW (n:=i+1) (by omega) (by omega)]
  refine⟨⟨⟨hl,by omega⟩,by simp only[Ei];omega⟩,_,?_,⟨op,s,n,l,(cR (nth l i.toNat)).size left,i+1⟩,rfl,⟨by simp only;omega,by simp only;omega,by simp only;omega,by simp only;omega,?_⟩,rfl,?_⟩
  ·simp only;omega
  ·simp only[show(i+1).toNat=i.toNat+1 by omega];omega
  ·simp only[zV,Out.run,show(i+1).toNat=i.toNat+1 by omega]
   exact ho
 ·rw[eI l i.toNat (by omega),iZ,aa5 (show ¬ 0<=left from hl),aa6] at ho
  exact ho
 ·rw[aa9 (by omega)] at ho
  exact ho
noncomputable def IV(κ:Kp)(r:Nat):Env:=(zm κ r).ak 94 5 (aO 0 Ka (Fx r) zV)
theorem y54(κ:Kp)(r:Nat)(op:Int)(s:ByteArray)(n:Int)(l:List AV)(left:Int)(K:AV->List Dn.Obj->Prop):(a8 (IV κ r) 12 94 [.agg [.int op, .lit (.string s), .int n, .ad 56 l], .int left] [] K)=(
 aD (decide ((↑(ByteArray.size s):Int)>(1000:Int))) (K (AV.int (-1)) []) (af (Pg.toProgram (Env.P (zm κ r))) 94 5=af (Pg.toProgram (Env.P
 (zm κ r))) 94 5/\∃(a:UF),sp 31 [(1,AV.int (IntKind.wrap IntKind.i64 (left - (1:Int)))),(2,AV.ptr 0 0 [] 0),(5,AV.int 0)] [Obj.box 56 (AV.agg
 [AV.int op,AV.str s,AV.int n,AV.ad 56 l])]=sp 31 [(1,AV.int a.left),(2,AV.ptr 0 0 [] 0),(5,AV.int a.i)] [Obj.box 56 (AV.agg [AV.int a.op,AV.str
 a.s,AV.int a.n,AV.ad 56 a.l])]/\((-1:Int)<=a.left/\a.i+a.left<=(100000:Int)/\(0:Int)<=a.i/\a.i<=(↑(a.l.length):Int)/\a6 (aa
 (List.drop a.i.toNat a.l))<=r)/\K (AV.int (iZ (aa (List.drop a.i.toNat a.l)) a.left)) [])):=by kernel_rfl
theorem WU(κ:Kp)(r:Nat)(hp:iB (Pr κ) 94 (below R8 Ei r)):aB (IV κ r)/\aj (IV κ r)/\(IV κ r).P=Pr κ:=
 have h:aB (zm κ r):=(e8 κ).fp hp
 have hm:aj (zm κ r):=(m8 κ).aH
 ⟨h.ak hm (l54 κ r),hm.ak aG,rfl⟩
theorem p54(κ:Kp)(r:Nat):cU (IV κ r) 12 94 (fun xs=>bif Nat.beq (Ei xs) r then R8 xs else none):=by
 intro args x hh
 cases hb:Nat.beq (Ei args) r with
 |false=>simp only[hb] at hh;cases hh
 | true=>
  simp only[hb,aa8] at hh
  unfold R8 at hh
  split at hh
  ·rename_i op s n l left
   simp only[aa4,ab0,aa2,aa1] at hh
   obtain⟨⟨h1,h2⟩,rfl⟩:=hh
   have hr:a6 (aa l)=r:=Nat.eq_of_beq_eq_true hb
   refine⟨_,rfl,rfl,?_⟩
   refine Eq.mpr (y54 κ r op s n l left _) ?_
   rw[ah,aa1,aa3]
   refine⟨fun e=>?_,fun e=>?_⟩
   ·unfold Tm.size;rw[aa7 (show(1000:Int)<s.size from e)];rfl
   ·rw[aW (n:=left - 1) (by omega) (by omega)]
    refine⟨rfl,⟨op,s,n,l,left - 1,0⟩,rfl,⟨by simp only;omega,by simp only;omega,by simp only;omega,by simp only;omega,?_⟩,?_⟩
    ·simp only[ab8,ab1];omega
    ·unfold Tm.size;rw[aa5 (show ¬ (1000:Int)<s.size from e)];rfl
  ·cases hh
theorem q54(κ:Kp):iB (Pr κ) 94 R8:=aB.u7 R8 Ei (IV κ) (WU κ) (p54 κ)
noncomputable def NM(κ:Kp):Env:=(E8 κ).aH 94 R8
theorem e54(κ:Kp):aB (NM κ):=(e8 κ).fp (q54 κ)
theorem Zz(κ:Kp):aj (NM κ):=(m8 κ).aH
structure UZ where
 s:ByteArray
 l:List AV
 left:Int
 i:Int
abbrev JQ(a:UZ):S:=sp 29 [(1, .int a.left),(2, .ptr 0 0 [] 0),(5, .int a.i)] [.box 63 (.agg [.lit (.string a.s), .ad 56 a.l])]
theorem x53(κ:Kp)(a:UZ)(I:Nat->S->Prop)(n:Nat)(K:Exit->S->Prop):(vc (NM κ) 12 93 none 0 (af (Pr κ).toProgram 93 4) (JQ a) (bK (NM κ) 93 4 0 I n K))=(
 letI z1:=nth a.l a.i.toNat
 letI z2:=K (Exit.exit 0) (sp 29 [(1,AV.int a.left)] [])
 letI z3:=a.i<(↑(a.l.length):Int)
 aD (decide z3) (aD (decide (a.left>=(0:Int))) (aX (decide ((0:Int)<=a.i)&&decide z3) (aX (decide ((0:Int)<=a.left)&&decide (a.left<=(100000:
 Int))) (∃(e0:Nat),e0<n/\I e0 (sp 29 [(1,AV.int (Tm.size (Tm.mk (toInt (ae z1 0)) (toStr (ae z1 1)) (toInt (ae z1 2)) (aa (ai (ae z1 3)))) a.left)),(2,
 AV.ptr 0 0 [] 0),(5,AV.int (IntKind.wrap IntKind.i64 (a.i+(1:Int))))] [Obj.box 63 (AV.agg [AV.str a.s,AV.ad 56 a.l])])))) z2) z2):=by kernel_rfl
def Hx(a:UZ):Prop:= -1<=a.left/\a.i+a.left<=100000/\0<=a.i/\a.i<=a.l.length
def zF(a:UZ):Out (Exit×S):= .one (.exit 0,sp 29 [(1, .int (iZ (aa (a.l.drop a.i.toNat)) a.left))] [])
theorem l53(κ:Kp):bj (NM κ) 12 93 4 (aO 0 JQ Hx zF):=by
 refine aK (fun a=>a.l.length - a.i.toNat) ?_
 rintro⟨s,l,left,i⟩ K ⟨h1,h2,h3,h4⟩ ho
 simp only at h1 h2 h3 h4
 rw[show(NM κ).P=Pr κ from rfl]
 refine Eq.mpr (x53 κ ⟨s,l,left,i⟩ _ _ K) ?_
 simp only[zF,Out.run] at ho
 simp only[ah,aq,aa1,aa3,aa2,←dh]
 refine⟨fun hi=>⟨fun hl=>⟨⟨h3,hi⟩,?_⟩,fun hl=>?_⟩,fun hi=>?_⟩
 ·have hz:=Tm.size_le (cR (nth l i.toNat)) left hl
  rw[eI l i.toNat (by omega),iZ,aa7 hl,aa8] at ho
  rw[aW (n:=i+1) (by omega) (by omega)]
  refine⟨⟨hl,by omega⟩,_,?_,⟨s,l,(cR (nth l i.toNat)).size left,i+1⟩,rfl,⟨by simp only;omega,by simp only;omega,by simp only;omega,by simp only;omega⟩,rfl,?_⟩
  ·simp only;omega
  ·simp only[zF,Out.run,show(i+1).toNat=i.toNat+1 by omega]
   exact ho
 ·rw[eI l i.toNat (by omega),iZ,aa5 (show ¬ 0<=left from hl),aa6] at ho
  exact ho
 ·rw[aa9 (by omega)] at ho
  exact ho
noncomputable def Kr(κ:Kp):Env:=(NM κ).ak 93 4 (aO 0 JQ Hx zF)
theorem X4(κ:Kp):aB (Kr κ):=(e54 κ).ak (Zz κ) (l53 κ)
theorem Vx(κ:Kp):aj (Kr κ):=(Zz κ).ak aG
theorem y53(κ:Kp)(s:ByteArray)(l:List AV)(left:Int)(K:AV->List Dn.Obj->Prop):(a8 (Kr κ) 12 93 [.agg [.lit (.string s), .ad 56 l], .int left] [] K)=(
 letI z1:=Pg.toProgram (Env.P (NM κ))
 aD (decide ((↑(ByteArray.size s):Int)>(1000:Int))) (K (AV.int (-1)) []) (af z1 93 4=af z1 93 4/\∃(e0:UZ),sp 29 [(1,AV.int left),(2,AV.ptr 0 0 []
 0),(5,AV.int 0)] [Obj.box 63 (AV.agg [AV.str s,AV.ad 56 l])]=sp 29 [(1,AV.int e0.left),(2,AV.ptr 0 0 [] 0),(5,AV.int e0.i)] [Obj.box 63 (AV.agg
 [AV.str e0.s,AV.ad 56 e0.l])]/\((-1:Int)<=e0.left/\e0.i+e0.left<=(100000:Int)/\(0:Int)<=e0.i/\e0.i<=(↑(e0.l.length):Int))/\K (AV.int (iZ (aa
 (List.drop e0.i.toNat e0.l)) e0.left)) [])):=by kernel_rfl
def XN:List AV->Option (Bool×AV)
 |[.agg [.lit (.string s), .ad 56 l], .lit (.int .i64 left)]=>some (decide (-1<=left)&&decide (left<=100000), .int (dB ⟨s,aa l⟩ left))
 |_=>none
theorem p53(κ:Kp):cU (Kr κ) 12 93 XN:=by
 intro args x hh
 unfold XN at hh
 split at hh
 ·rename_i s l left
  simp only[aa4,ab0,aa2,aa1] at hh
  obtain⟨⟨h1,h2⟩,rfl⟩:=hh
  refine⟨_,rfl,rfl,?_⟩
  refine Eq.mpr (y53 κ s l left _) ?_
  rw[ah,aa1,aa3]
  refine⟨fun e=>?_,fun e=>?_⟩
  ·unfold dB;rw[aa7 (show(1000:Int)<s.size from e)];rfl
  ·refine⟨rfl,⟨s,l,left,0⟩,rfl,⟨h1,by simp only;omega,by simp only;omega,by simp only;omega⟩,?_⟩
   unfold dB;rw[aa5 (show ¬ (1000:Int)<s.size from e)];rfl
 ·cases hh
noncomputable def Nx(κ:Kp):Env:=(Kr κ).aH 93 XN
theorem e53(κ:Kp):aB (Nx κ):=(X4 κ).aH (Vx κ) (p53 κ)
theorem Zb(κ:Kp):aj (Nx κ):=(Vx κ).aH
structure VN where
 a:cm
 left:Int
 i:Int
abbrev Cw(a:VN):S:=sp 52 [(1, .int a.left),(2, .ptr 0 0 [] 0),(5, .int a.i)] [.box 66 (ar a.a)]
theorem x38(κ:Kp)(a:VN)(I:Nat->S->Prop)(n:Nat)(K:Exit->S->Prop):(vc (Nx κ) 12 55 none 0 (af (Pr κ).toProgram 55 3) (Cw a) (bK (Nx κ) 55 3 0 I n K))=(
 letI z1:=nth a.a.bl a.i.toNat
 letI z3:=Tm.mk (toInt (ae (ae z1 2) 0)) (toStr (ae (ae z1 2) 1)) (toInt (ae (ae z1 2) 2)) (aa (ai (ae (ae z1 2) 3)))
 letI z4:=AV.agg [AV.agg [AV.str a.a.rel,AV.ad 56 a.a.hl],AV.ad 72 a.a.bl,AV.int a.a.line]
 letI z6:=ai (ae (ae z1 1) 1)
 letI z7:=ae (ae z1 1) 0
 letI z9:=IntKind.wrap IntKind.i64 (a.i+(1:Int))
 letI z10:=Tm.mk (toInt (ae (ae z1 3) 0)) (toStr (ae (ae z1 3) 1)) (toInt (ae (ae z1 3) 2)) (aa (ai (ae (ae z1 3) 3)))
 letI z13:=K (Exit.exit 0) (sp 52 [(1,AV.int a.left)] [])
 letI z14:=a.i<(↑(List.length a.a.bl):Int)
 letI z5:=decide ((0:Int)<=a.i)&&decide z14
 letI z15:=a.left - (1:Int)
 letI z2:=IntKind.wrap IntKind.i64 z15
 letI z11:=dB {rel:=toStr z7,l:=aa z6} z2
 letI z12:=dB {rel:=toStr z7,l:=aa z6} z2
 letI z16:=(100000:Int)
 letI z8:=decide ((0:Int)<=dB {rel:=toStr z7,l:=aa z6} z2)&&decide (dB {rel:=toStr z7,l:=aa z6} z2<=z16)
 aD (decide z14) (aD (decide (a.left>=(0:Int))) (aX z5 (aX (decide ((-1:Int)<=IntKind.wrap IntKind.i64 z15)&&decide (IntKind.wrap IntKind.i64 z15<=z16)) (aD (decide (dB {rel:=toStr z7,l:=aa z6} z2>=(0:Int))) (aX z5 (aX z8 (aD (decide (Tm.size z3 z11>=(0:Int))) (aX z5 (aX (decide ((0:Int)<=Tm.size z3 z12)&&decide (Tm.size z3 z11<=z16)) (∃(e0:Nat),e0<n/\I e0 (sp 52 [(1,AV.lit (Value.int IntKind.i64 (Tm.size z10 (Tm.size z3 z11)))),(2,AV.ptr 0 0 [] 0),(5,AV.int z9)] [Obj.box 66 z4])))) (∃(e0:Nat),e0<n/\I e0 (sp 52 [(1,AV.lit (Value.int IntKind.i64 (Tm.size z3 z12))),(2,AV.ptr 0 0 [] 0),(5,AV.int z9)] [Obj.box 66 z4]))))) (aD (decide (dB {rel:=toStr z7,l:=aa z6} z2>=(0:Int))) (aX z5 (aX z8 (∃(e0:Nat),e0<n/\I e0 (sp 52 [(1,AV.lit (Value.int IntKind.i64 (Tm.size z10 z12))),(2,AV.ptr 0 0 [] 0),(5,AV.int z9)] [Obj.box 66 z4])))) (∃(e0:Nat),e0<n/\I e0 (sp 52 [(1,AV.lit (Value.int IntKind.i64 z11)),(2,AV.ptr 0 0 [] 0),(5,AV.int z9)] [Obj.box 66 z4])))))) z13) z13):=by kernel_rfl
def Al(a:VN):Prop:= -1<=a.left/\a.i+a.left<=100000/\0<=a.i/\a.i<=a.a.bl.length
def vr(a:VN):Out (Exit×S):= .one (.exit 0,sp 52 [(1, .int (lv (dg (a.a.bl.drop a.i.toNat)) a.left))] [])
theorem l38(κ:Kp):bj (Nx κ) 12 55 3 (aO 0 Cw Al vr):=by
 refine aK (fun a=>a.a.bl.length - a.i.toNat) ?_
 rintro⟨a,left,i⟩ K ⟨h1,h2,h3,h4⟩ ho
 simp only at h1 h2 h3 h4
 rw[show(Nx κ).P=Pr κ from rfl]
 refine Eq.mpr (x38 κ ⟨a,left,i⟩ _ _ K) ?_
 simp only[vr,Out.run] at ho
 by_cases hi:i<a.bl.length
 ·by_cases hl:left>=0
  ·have hk:i.toNat<a.bl.length:=by omega
   rw[nE a.bl i.toNat hk,lv,aa7 hl,aa8] at ho
   have hA:(⟨toStr (ae (ae (nth a.bl i.toNat) 1) 0),aa (ai (ae (ae (nth a.bl i.toNat) 1) 1))⟩:At)=(cK (nth a.bl i.toNat)).a:=rfl
   have hX:cR (ae (nth a.bl i.toNat) 2)=(cK (nth a.bl i.toNat)).x:=rfl
   have hY:cR (ae (nth a.bl i.toNat) 3)=(cK (nth a.bl i.toNat)).y:=rfl
   have hz:=sc (cK (nth a.bl i.toNat)) left hl
   have hz1:=lV (cK (nth a.bl i.toNat)).a (left - 1) (by omega)
   have hz2:=Tm.size_le (cK (nth a.bl i.toNat)).x (dB (cK (nth a.bl i.toNat)).a (left - 1))
   have go: ∀z,sizeLt (cK (nth a.bl i.toNat)) left=z->∃m,m<a.bl.length - i.toNat/\fq Cw Al vr (fun a=>a.a.bl.length - a.i.toNat) K m (Cw ⟨a,z,i+1⟩):=by
    rintro z rfl
    refine⟨_,?_,⟨a,sizeLt (cK (nth a.bl i.toNat)) left,i+1⟩,rfl,⟨by simp only;omega,by simp only;omega,by simp only;omega,by simp only;omega⟩,rfl,?_⟩
    ·simp only;omega
    ·simp only[vr,Out.run,show(i+1).toNat=i.toNat+1 by omega]
     exact ho
   simp only[aW (n:=i+1) (by omega) (by omega),aW (n:=left - 1) (by omega) (by omega),hA,←dh,hX,hY]
   simp only[ah,aq,aa1,aa3,aa2]
   refine⟨fun _=>⟨fun _=>⟨⟨h3,hi⟩,⟨by omega,by omega⟩,fun e1=>⟨⟨h3,hi⟩,⟨e1,by omega⟩,fun e2=>⟨⟨h3,hi⟩,⟨e2,by have:=hz2 e1;omega⟩,go _ ?_⟩,fun e2=>go _ ?_⟩,fun e1=>⟨fun e=>absurd e e1,fun _=>go _ ?_⟩⟩,fun e=>absurd hl e⟩,fun e=>absurd hi e⟩
   ·unfold sizeLt;rw[aa7 (show 0<=dB (cK (nth a.bl i.toNat)).a (left - 1) from e1),aa8,aa7 (show 0<=(cK (nth a.bl i.toNat)).x.size _ from e2),aa8]
   ·unfold sizeLt;rw[aa7 (show 0<=dB (cK (nth a.bl i.toNat)).a (left - 1) from e1),aa8,aa5 (show ¬ 0<=(cK (nth a.bl i.toNat)).x.size _ from e2),aa6]
   ·unfold sizeLt;rw[aa5 (show ¬ 0<=dB (cK (nth a.bl i.toNat)).a (left - 1) from e1),aa6];rfl
  ·rw[nE a.bl i.toNat (by omega),lv,aa5 (show ¬ 0<=left from hl),aa6] at ho
   rw[aa7 (show i<(a.bl.length:Int) from hi),aa5 hl]
   exact ho
 ·rw[aa9 (by omega)] at ho
  rw[aa5 (show ¬ i<(a.bl.length:Int) from hi)]
  exact ho
noncomputable def JY(κ:Kp):Env:=(Nx κ).ak 55 3 (aO 0 Cw Al vr)
theorem Yu(κ:Kp):aB (JY κ):=(e53 κ).ak (Zb κ) (l38 κ)
theorem Uk(κ:Kp):aj (JY κ):=(Zb κ).ak aG
theorem y38(κ:Kp)(a:cm)(left:Int)(K:AV->List Dn.Obj->Prop):(a8 (JY κ) 12 55 [ar a, .int left] [] K)=(
 letI z1:=left - (1:Int)
 letI z2:=Pg.toProgram (Env.P (Nx κ))
 aX (decide ((-1:Int)<=IntKind.wrap IntKind.i64 z1)&&decide (IntKind.wrap IntKind.i64 z1<=(100000:Int))) (af z2 55 3=af z2 55 3/\∃(e0:VN),sp 52 [(1,AV.lit (Value.int IntKind.i64 (dB {rel:=a.rel,l:=aa a.hl} (IntKind.wrap IntKind.i64 z1)))),(2,AV.ptr 0 0 [] 0),(5,AV.int 0)] [Obj.box 66 (AV.agg [AV.agg [AV.str a.rel,AV.ad 56 a.hl],AV.ad 72 a.bl,AV.int a.line])]=sp 52 [(1,AV.int e0.left),(2,AV.ptr 0 0 [] 0),(5,AV.int e0.i)] [Obj.box 66 (AV.agg [AV.agg [AV.str e0.a.rel,AV.ad 56 e0.a.hl],AV.ad 72 e0.a.bl,AV.int e0.a.line])]/\((-1:Int)<=e0.left/\e0.i+e0.left<=(100000:Int)/\(0:Int)<=e0.i/\e0.i<=(↑(List.length e0.a.bl):Int))/\K (AV.lit (Value.int IntKind.i64 (lv (dg (List.drop e0.i.toNat e0.a.bl)) e0.left))) [])):=by kernel_rfl
def XX:List AV->Option (Bool×AV)
 |[.agg [.agg [.lit (.string rel), .ad 56 hl], .ad 72 bl, .lit (.int .i64 _)], .lit (.int .i64 left)]=>some (decide (0<=left)&&decide (left<=100000), .int (ma ⟨⟨rel,aa hl⟩,dg bl⟩ left))
 |_=>none
theorem p38(κ:Kp):cU (JY κ) 12 55 XX:=by
 intro args x hh
 unfold XX at hh
 split at hh
 ·rename_i rel hl bl line left
  simp only[aa4,ab0,aa2,aa1] at hh
  obtain⟨⟨h1,h2⟩,rfl⟩:=hh
  refine⟨_,rfl,rfl,?_⟩
  refine Eq.mpr (y38 κ ⟨[],[],rel,hl,bl,line,0⟩ left _) ?_
  have hz1:=lV ⟨rel,aa hl⟩ (left - 1) (by omega)
  simp only[aW (n:=left - 1) (by omega) (by omega)]
  rw[aq,aa2,aa1,aa1]
  exact⟨⟨by omega,by omega⟩,trivial,⟨⟨[],[],rel,hl,bl,line,0⟩,dB ⟨rel,aa hl⟩ (left - 1),0⟩,rfl,⟨by simp only;omega,by simp only;omega,by simp only;omega,by simp only;omega⟩,rfl⟩
 ·cases hh
noncomputable def OV(κ:Kp):Env:=(JY κ).aH 55 XX
theorem e38(κ:Kp):aB (OV κ):=(Yu κ).aH (Uk κ) (p38 κ)
theorem ZD(κ:Kp):aj (OV κ):=(Uk κ).aH
abbrev KJ(a:List AV×Int):S:=sp 16 [(0, .ad 9 a.1),(3, .int a.2)] []
theorem x37(κ:Kp)(l:List AV)(i:Int)(I:Nat->S->Prop)(n:Nat)(K:Exit->S->Prop):(vc (OV κ) 12 54 none 0 (af (Pr κ).toProgram 54 2) (KJ (l,i)) (bK (OV κ) 54 2 0 I n K))=(
 letI z1:=i<(↑(l.length):Int)
 aD (decide z1) (aX (decide ((0:Int)<=i)&&decide z1) (aD (decide ((↑(ByteArray.size (toStr (nth l i.toNat))):Int)>(1000:Int))) (K Exit.ret (sp 16 [(2,
 AV.bool true)] [])) (∃(e0:Nat),e0<n/\I e0 (sp 16 [(0,AV.ad 9 l),(3,AV.int (IntKind.wrap IntKind.i64 (i+(1:Int))))] [])))) (K (Exit.exit 0) (sp 16
 [] []))):=by kernel_rfl
def FD(a:List AV×Int):Prop:=a.1.length<=aR/\0<=a.2/\a.2<=a.1.length
def zG(a:List AV×Int):Out (Exit×S):= .aD (sZ (a.1.drop a.2.toNat)) (.one (.ret,sp 16 [(2, .bool true)] [])) (.one (.exit 0,sp 16 [] []))
theorem l37(κ:Kp):bj (OV κ) 12 54 2 (aO 0 KJ FD zG):=by
 refine aK (fun a=>a.1.length - a.2.toNat) ?_
 rintro⟨l,i⟩ K ⟨h1,h2,h3⟩ ho
 simp only at h1 h2 h3
 rw[show(OV κ).P=Pr κ from rfl]
 refine Eq.mpr (x37 κ l i _ _ K) ?_
 simp only[aR] at h1
 simp only[zG,Out.run,ah] at ho
 simp only[ah,aq,aa1,aa3,aa2]
 refine⟨fun hi=>⟨⟨h2,hi⟩,?_⟩,fun hi=>?_⟩
 ·rw[ab2 (show i.toNat<l.length by omega),←bf l i.toNat (by omega)] at ho
  simp only[sZ,List.any_cons] at ho
  refine⟨fun e=>ho.1 (by rw[aa7 (show(1000:Int)<_ from e)];rfl),fun e=>?_⟩
  rw[aa5 (show ¬ (1000:Int)<_ from e),Bool.false_or] at ho
  rw[aW (n:=i+1) (by omega) (by omega)]
  refine⟨_,?_,(l,i+1),rfl,⟨by simpa[aR] using h1,by simp only;omega,by simp only;omega⟩,rfl,?_⟩
  ·simp only;omega
  ·simp only[zG,Out.run,ah,show(i+1).toNat=i.toNat+1 by omega]
   exact ho
 ·rw[aa9 (by omega)] at ho
  exact ho.2 rfl
noncomputable def Kg(κ:Kp):Env:=(OV κ).ak 54 2 (aO 0 KJ FD zG)
theorem XH(κ:Kp):aB (Kg κ):=(e38 κ).ak (ZD κ) (l37 κ)
theorem S4(κ:Kp):aj (Kg κ):=(ZD κ).ak aG
theorem y37(κ:Kp)(l:List AV)(K:AV->List Dn.Obj->Prop):(a8 (Kg κ) 12 54 [.ad 9 l] [] K)=(
 letI z1:=Pg.toProgram (Env.P (OV κ))
 af z1 54 2=af z1 54 2/\∃(e0:List AV×Int),sp 16 [(0,AV.ad 9 l),(3,AV.int 0)] []=sp 16 [(0,AV.ad 9 e0.1),(3,AV.int e0.2)] []/\(e0.1.length<=
 9223372036854775807/\(0:Int)<=e0.2/\e0.2<=(↑(e0.1.length):Int))/\aD (sZ (List.drop e0.2.toNat e0.1)) (K (AV.bool true) []) (K (AV.bool false) [])):=by kernel_rfl
def Xi:List AV->Option (Bool×AV)
 |[.ad 9 l]=>some (decide (l.length<=aR), .bool (sZ l))
 |_=>none
theorem p37(κ:Kp):cU (Kg κ) 12 54 Xi:=by
 intro args x hh
 unfold Xi at hh
 split at hh
 ·rename_i l
  simp only[aa4,ab0,aa1] at hh
  obtain⟨h1,rfl⟩:=hh
  refine⟨_,rfl,rfl,?_⟩
  refine Eq.mpr (y37 κ l _) ?_
  refine⟨rfl,(l,0),rfl,⟨h1,by simp only;omega,by simp only;omega⟩,?_⟩
  rw[ah]
  exact⟨fun e=>by rw[show sZ l=true from e],fun e=>by rw[show sZ l=false from e]⟩
 ·cases hh
noncomputable def Ou(κ:Kp):Env:=(Kg κ).aH 54 Xi
theorem e37(κ:Kp):aB (Ou κ):=(XH κ).aH (S4 κ) (p37 κ)
theorem Y1(κ:Kp):aj (Ou κ):=(S4 κ).aH
structure Kq where
 ds:List AV
 rs:List AV
 left:Int
 i:Int
abbrev H7(a:Kq):AV:= .agg [.ad 61 a.ds, .ad 66 a.rs]
abbrev Hj(a:Kq):S:=sp 62 [(1, .ptr 0 0 [] 0),(3, .int a.left),(4, .int a.i)] [.box 25 (H7 a)]
theorem WZ(κ:Kp)(a:Kq)(I:Nat->S->Prop)(n:Nat)(K:Exit->S->Prop):(vc (Ou κ) 12 26 none 0 (af (Pr κ).toProgram 26 3) (Hj a) (bK (Ou κ) 26 3 0 I n K))=(
 letI z2:=K Exit.ret (sp 62 [(2,AV.int 0)] [])
 letI z3:=AV.agg [AV.ad 61 a.ds,AV.ad 66 a.rs]
 letI z4:=nth a.ds a.i.toNat
 letI z5:=a.i<(↑(a.ds.length):Int)
 letI z1:=decide ((0:Int)<=a.i)&&decide z5
 aD (decide z5) (aX z1 (aD (decide ((↑(ByteArray.size (toStr (ae z4 0))):Int)>(1000:Int))) z2 (aX z1 (aX (decide (List.length (ai (ae z4 1))<=
 9223372036854775807)) (aD (sZ (ai (ae z4 1))) z2 (∃(e0:Nat),e0<n/\I e0 (sp 62 [(1,AV.ptr 0 0 [] 0),(3,AV.int a.left),(4,AV.int (IntKind.wrap
 IntKind.i64 (a.i+(1:Int))))] [Obj.box 25 z3]))))))) (K (Exit.exit 0) (sp 62 [(1,AV.ptr 0 0 [] 0),(3,AV.int a.left)] [Obj.box 25 z3]))):=by kernel_rfl
def AE(a:Kq):Prop:=a.ds.length<=aR/\(∀d,d∈a.ds->(ai (ae d 1)).length<=aR)/\0<=a.i/\a.i<=a.ds.length
def uu(a:Kq):Out (Exit×S):= .aD ((a.ds.drop a.i.toNat).any HR) (.one (.ret,sp 62 [(2, .int 0)] [])) (.one (.exit 0,sp 62 [(1, .ptr 0 0 [] 0),(3, .int a.left)] [.box 25 (H7 a)]))
theorem WH(κ:Kp):bj (Ou κ) 12 26 3 (aO 0 Hj AE uu):=by
 refine aK (fun a=>a.ds.length - a.i.toNat) ?_
 rintro⟨ds,rs,left,i⟩ K ⟨h1,h1',h2,h3⟩ ho
 simp only at h1 h1' h2 h3
 rw[show(Ou κ).P=Pr κ from rfl]
 refine Eq.mpr (WZ κ ⟨ds,rs,left,i⟩ _ _ K) ?_
 simp only[aR] at h1
 simp only[uu,Out.run,ah] at ho
 simp only[ah,aq,aa2,aa1,aa3]
 refine⟨fun hi=>⟨⟨h2,hi⟩,?_⟩,fun hi=>?_⟩
 ·have hi':i.toNat<ds.length:=by omega
  have hm:nth ds i.toNat∈ds:=by rw[bf ds _ hi'];exact List.getElem_mem _
  rw[ab2 hi',←bf ds i.toNat hi'] at ho
  simp only[List.any_cons,HR] at ho
  have go:(∀h:((ds.drop (i.toNat+1)).any HR=true->K .ret (sp 62 [(2, .int 0)] []))/\((ds.drop (i.toNat+1)).any HR=false->K (.exit 0) (sp 62 [(1, .ptr 0 0 [] 0),(3, .int left)] [.box 25 (H7 ⟨ds,rs,left,i⟩)])),∃m,m<ds.length - i.toNat/\fq Hj AE uu (fun a=>a.ds.length - a.i.toNat) K m (sp 62 [(1, .ptr 0 0 [] 0),(3, .int left),(4, .int (IntKind.wrap .i64 (i+1)))] [.box 25 (H7 ⟨ds,rs,left,i⟩)])):=by
   intro h
   rw[aW (n:=i+1) (by omega) (by omega)]
   refine⟨_,?_,⟨ds,rs,left,i+1⟩,rfl,⟨by simpa[aR] using h1,h1',by simp only;omega,by simp only;omega⟩,rfl,?_⟩
   ·simp only;omega
   ·simp only[uu,Out.run,ah,show(i+1).toNat=i.toNat+1 by omega]
    exact h
  refine⟨fun e1=>ho.1 (by rw[aa7 (show(1000:Int)<_ from e1)];rfl),fun e1=>⟨⟨h2,hi⟩,h1' _ hm,fun e2=>ho.1 (by rw[e2];simp),fun e2=>go ?_⟩⟩
  rw[aa5 (show ¬ (1000:Int)<_ from e1),e2] at ho
  exact ho
 ·rw[aa9 (by omega)] at ho
  exact ho.2 rfl
noncomputable def A1(κ:Kp):Env:=(Ou κ).ak 26 3 (aO 0 Hj AE uu)
theorem Wx(κ:Kp):aB (A1 κ):=(e37 κ).ak (Y1 κ) (WH κ)
theorem Vg(κ:Kp):aj (A1 κ):=(Y1 κ).ak aG
abbrev KR(a:Kq):S:=sp 62 [(1, .ptr 0 0 [] 0),(3, .int a.left),(5, .int a.i)] [.box 25 (H7 a)]
theorem WO(κ:Kp)(a:Kq)(I:Nat->S->Prop)(n:Nat)(K:Exit->S->Prop):(vc (A1 κ) 12 26 none 0 (af (Pr κ).toProgram 26 8) (KR a) (bK (A1 κ) 26 8 0 I n K))=(
 letI z2:=AV.agg [AV.ad 61 a.ds,AV.ad 66 a.rs]
 letI z1:=K (Exit.exit 2) (sp 62 [(1,AV.ptr 0 0 [] 0),(3,AV.int a.left)] [Obj.box 25 z2])
 letI z3:=nth a.rs a.i.toNat
 letI z4:=a.i<(↑(a.rs.length):Int)
 aD (decide z4) (aD (decide (a.left>=(0:Int))) (aX (decide ((0:Int)<=a.i)&&decide z4) (aX (decide ((0:Int)<=a.left)&&decide (a.left<=(100000:Int))) (∃(e0:Nat),e0<n/\I e0 (sp 62 [(1,AV.ptr 0 0 [] 0),(3,AV.lit (Value.int IntKind.i64 (ma {head:={rel:=toStr (ae (ae z3 0) 0),l:=aa (ai (ae (ae z3 0) 1))},body:=dg (ai (ae z3 1))} a.left))),(5,AV.int (IntKind.wrap IntKind.i64 (a.i+(1:Int))))] [Obj.box 25 z2])))) z1) z1):=by kernel_rfl
def Gq(a:Kq):Prop:= -1<=a.left/\a.i+a.left<=100000/\0<=a.i/\a.i<=a.rs.length
def AB(a:Kq):Out (Exit×S):= .one (.exit 2,sp 62 [(1, .ptr 0 0 [] 0),(3, .int (lR ((a.rs.drop a.i.toNat).map tB) a.left))] [.box 25 (H7 a)])
theorem W8(κ:Kp):bj (A1 κ) 12 26 8 (aO 0 KR Gq AB):=by
 refine aK (fun a=>a.rs.length - a.i.toNat) ?_
 rintro⟨ds,rs,left,i⟩ K ⟨h1,h2,h3,h4⟩ ho
 simp only at h1 h2 h3 h4
 rw[show(A1 κ).P=Pr κ from rfl]
 refine Eq.mpr (WO κ ⟨ds,rs,left,i⟩ _ _ K) ?_
 simp only[AB,Out.run] at ho
 by_cases hi:i<rs.length
 ·have hi':i.toNat<rs.length:=by omega
  rw[ab2 hi',←bf rs i.toNat hi',ac1,lR] at ho
  by_cases hl:left>=0
  ·have hz:=vU (tB (nth rs i.toNat)) left hl
   rw[aa7 (show 0<=left from hl),aa8] at ho
   rw[aa7 (show i<(rs.length:Int) from hi),aa7 hl,aW (n:=i+1) (by omega) (by omega)]
   simp only[aD,aq,aa2,aa1]
   refine⟨⟨h3,trivial⟩,⟨trivial,by omega⟩,_,?_,⟨ds,rs,ma (tB (nth rs i.toNat)) left,i+1⟩,rfl,⟨by simp only;omega,by simp only;omega,by simp only;omega,by simp only;omega⟩,rfl,?_⟩
   ·simp only;omega
   ·simp only[AB,Out.run,show(i+1).toNat=i.toNat+1 by omega]
    exact ho
  ·rw[aa5 (show ¬ 0<=left from hl),aa6] at ho
   rw[aa7 (show i<(rs.length:Int) from hi),aa5 hl]
   exact ho
 ·rw[aa9 (by omega)] at ho
  rw[aa5 (show ¬ i<(rs.length:Int) from hi)]
  exact ho
noncomputable def LO(κ:Kp):Env:=(A1 κ).ak 26 8 (aO 0 KR Gq AB)
theorem WW(κ:Kp):aB (LO κ):=(Wx κ).ak (Vg κ) (W8 κ)
theorem US(κ:Kp):aj (LO κ):=(Vg κ).ak aG
theorem y22(κ:Kp)(ds rs:List AV)(K:AV->List Dn.Obj->Prop):(a8 (LO κ) 12 26 [.agg [.ad 61 ds, .ad 66 rs]] [] K)=(
 letI z1:=K (AV.int 0) []
 letI z2:=Pg.toProgram (Env.P (Ou κ))
 letI z3:=Pg.toProgram (Env.P (A1 κ))
 af z2 26 3=af z2 26 3/\∃(e1:Kq),sp 62 [(1,AV.ptr 0 0 [] 0),(3,AV.int 2000),(4,AV.int 0)] [Obj.box 25 (AV.agg [AV.ad 61 ds,AV.ad 66 rs])]=sp 62
 [(1,AV.ptr 0 0 [] 0),(3,AV.int e1.left),(4,AV.int e1.i)] [Obj.box 25 (AV.agg [AV.ad 61 e1.ds,AV.ad 66 e1.rs])]/\(e1.ds.length<=9223372036854775807/\(∀
 (e0:AV),List.Mem e0 e1.ds->List.length (ai (ae e0 1))<=9223372036854775807)/\(0:Int)<=e1.i/\e1.i<=(↑(e1.ds.length):Int))/\aD (List.any (List.drop
 e1.i.toNat e1.ds) HR) z1 (af z3 26 8=af z3 26 8/\∃(e0:Kq),sp 62 [(1,AV.ptr 0 0 [] 0),(3,AV.int e1.left),(5,AV.int 0)] [Obj.box 25 (AV.agg [AV.ad 61
 e1.ds,AV.ad 66 e1.rs])]=sp 62 [(1,AV.ptr 0 0 [] 0),(3,AV.int e0.left),(5,AV.int e0.i)] [Obj.box 25 (AV.agg [AV.ad 61 e0.ds,AV.ad 66 e0.rs])]/\((-1:
 Int)<=e0.left/\e0.i+e0.left<=(100000:Int)/\(0:Int)<=e0.i/\e0.i<=(↑(e0.rs.length):Int))/\aD (decide (lR (List.map tB (List.drop e0.i.toNat
 e0.rs)) e0.left<(0:Int))) z1 (aD (decide ((↑(e0.ds.length):Int)>(100:Int))) z1 (aD (decide ((↑(e0.rs.length):Int)>(300:Int))) z1 (K (AV.int 1)
 []))))):=by kernel_rfl
def g22:List AV->Option (Bool×AV)
 |[.agg [.ad 61 ds, .ad 66 rs]]=>some (decide (ds.length<=aR)&&ds.all (fun d=>decide ((ai (ae d 1)).length<=aR)), .int (bif jN ds rs then 1 else 0))
 |_=>none
theorem p22(κ:Kp):cU (LO κ) 12 26 g22:=by
 intro args x hh
 unfold g22 at hh
 split at hh
 ·rename_i ds rs
  simp only[aa4,ab0,aa2,aa1,List.all_eq_true] at hh
  obtain⟨⟨h1,h2⟩,rfl⟩:=hh
  refine⟨_,rfl,rfl,?_⟩
  refine Eq.mpr (y22 κ ds rs _) ?_
  refine⟨rfl,⟨ds,rs,2000,0⟩,rfl,⟨h1,h2,by simp only;omega,by simp only;omega⟩,?_⟩
  simp only[ab8,ab1,ah]
  refine⟨fun e=>?_,fun e=>⟨trivial,⟨ds,rs,2000,0⟩,rfl,⟨by simp only;omega,by simp only;omega,by simp only;omega,by simp only;omega⟩,?_⟩⟩
  ·unfold jN;rw[e];rfl
  ·simp only[ab8,ab1,aa1,aa3]
   refine⟨fun e1=>?_,fun e1=>⟨fun e2=>?_,fun e2=>⟨fun e3=>?_,fun e3=>?_⟩⟩⟩
   ·unfold jN;rw[e,aa5 (show ¬ 0<=lR (rs.map tB) 2000 by omega)];rfl
   ·unfold jN;rw[aa5 (show ¬ ds.length<=100 by omega)];simp
   ·unfold jN;rw[aa5 (show ¬ rs.length<=300 by omega)];simp
   ·unfold jN;rw[e,aa7 (show 0<=lR (rs.map tB) 2000 by omega),aa7 (show ds.length<=100 by omega),aa7 (show rs.length<=300 by omega)];rfl
 ·cases hh
noncomputable def Xe(κ:Kp):Env:=(LO κ).aH 26 g22
theorem e22(κ:Kp):aB (Xe κ):=(WW κ).aH (US κ) (p22 κ)
theorem m22(κ:Kp):aj (Xe κ):=(US κ).aH
noncomputable abbrev E9(κ:Kp):Env:=Xe κ
theorem e9(κ:Kp):aB (E9 κ):=e22 κ
theorem m9(κ:Kp):aj (E9 κ):=m22 κ
abbrev Yx(s:ByteArray):AV:= .agg [.int 1, .lit (.string s), .int 0, .ad 56 []]
theorem y13(κ:Kp)(s:ByteArray)(K:AV->List Dn.Obj->Prop):(a8 (E9 κ) 12 92 [.lit (.string s)] [] K)=(
 K (AV.agg [AV.int 1,AV.str s,AV.int 0,AV.ad 56 []]) []):=by kernel_rfl
def g13:List AV->Option (Bool×AV)
 |[.lit (.string s)]=>some (true,Yx s)
 |_=>none
theorem c13(κ:Kp):re (E9 κ) 12 92 g13:=by
 intro args x hh
 unfold g13 at hh
 split at hh
 ·rename_i s
  simp only[aa4,ab0,true_and] at hh
  subst hh
  exact⟨rfl,Eq.mpr (y13 κ s _) rfl⟩
 ·cases hh
noncomputable def SX(κ:Kp):Env:=(E9 κ).fe 92 g13
theorem e13(κ:Kp):aB (SX κ):=(e9 κ).fe (m9 κ) (c13 κ)
theorem YM(κ:Kp):aj (SX κ):=(m9 κ).fe
theorem y14(κ:Kp)(r s t:ByteArray)(K:AV->List Dn.Obj->Prop):(a8 (SX κ) 12 53 [.lit (.string r), .lit (.string s), .lit (.string t)] [] K)=(
 K (AV.agg [AV.str r,AV.ad 56 [AV.agg [AV.int 1,AV.str s,AV.int 0,AV.ad 56 []],AV.agg [AV.int 1,AV.str t,AV.int 0,AV.ad 56 []]]]) []):=by kernel_rfl
def g14:List AV->Option (Bool×AV)
 |[.lit (.string r), .lit (.string s), .lit (.string t)]=>some (true, .agg [.lit (.string r), .ad 56 [Yx s,Yx t]])
 |_=>none
theorem c14(κ:Kp):re (SX κ) 12 53 g14:=by
 intro args x hh
 unfold g14 at hh
 split at hh
 ·rename_i r s t
  simp only[aa4,ab0,true_and] at hh
  subst hh
  exact⟨rfl,Eq.mpr (y14 κ r s t _) rfl⟩
 ·cases hh
noncomputable def Pb(κ:Kp):Env:=(SX κ).fe 53 g14
theorem e14(κ:Kp):aB (Pb κ):=(e13 κ).fe (YM κ) (c14 κ)
theorem Zc(κ:Kp):aj (Pb κ):=(YM κ).fe
theorem x15(κ:Kp)(l m:List AV)(i:Int)(I:Nat->S->Prop)(n:Nat)(K:Exit->S->Prop):(vc (Pb κ) 12 16 none 0 (af (Pr κ).toProgram 16 4) (sp 26 [(0, .ad 3 l),(1, .ad 3 m),(5, .int i)] []) (bK (Pb κ) 16 4 0 I n K))=(
 letI z1:=i<(↑(l.length):Int)
 aD (decide z1) (aX (decide ((0:Int)<=i)&&decide z1) (aX (decide ((0:Int)<=i)&&decide (i<(↑(m.length):Int))) (aD (toInt (nth l i.toNat) != toInt
 (nth m i.toNat)) (K Exit.ret (sp 26 [(4,AV.bool false)] [])) (∃(e0:Nat),e0<n/\I e0 (sp 26 [(0,AV.ad 3 l),(1,AV.ad 3 m),(5,AV.int (IntKind.wrap
 IntKind.i64 (i+(1:Int))))] []))))) (K (Exit.exit 0) (sp 26 [] []))):=by kernel_rfl
def uU(l m:List AV):Bool:=decide (l.map toInt=m.map toInt)
abbrev PZ(a:List AV×List AV×Int):S:=sp 26 [(0, .ad 3 a.1),(1, .ad 3 a.2.1),(5, .int a.2.2)] []
def Ht(a:List AV×List AV×Int):Prop:=a.1.length=a.2.1.length/\a.1.length<=aR/\0<=a.2.2/\a.2.2<=a.1.length
def zf(a:List AV×List AV×Int):Out (Exit×S):= .aD (uU (a.1.drop a.2.2.toNat) (a.2.1.drop a.2.2.toNat)) (.one (.exit 0,sp 26 [] [])) (.one (.ret,sp 26 [(4, .bool false)] []))
theorem l15(κ:Kp):bj (Pb κ) 12 16 4 (aO 0 PZ Ht zf):=by
 refine aK (fun a=>a.1.length - a.2.2.toNat) ?_
 rintro⟨l,m,i⟩ K ⟨h1,h2,h3,h4⟩ ho
 simp only at h1 h2 h3 h4
 rw[show(Pb κ).P=Pr κ from rfl]
 refine Eq.mpr (x15 κ l m i _ _ K) ?_
 simp only[aR] at h2
 simp only[zf,Out.run,ah] at ho
 simp only[ah,aq,aa1,aa3,aa2,bne_iff_ne,bne_eq_false_iff_eq]
 refine⟨fun hi=>⟨⟨h3,hi⟩,⟨h3,by omega⟩,?_⟩,fun hi=>?_⟩
 ·rw[ab2 (show i.toNat<l.length by omega),←bf l i.toNat (by omega),ab2 (show i.toNat<m.length by omega),←bf m i.toNat (by omega)] at ho
  simp only[uU,ac1,List.cons.injEq] at ho
  refine⟨fun e=>ho.2 (by simp[e]),fun e=>?_⟩
  rw[aW (n:=i+1) (by omega) (by omega)]
  refine⟨_,?_,(l,m,i+1),rfl,⟨h1,by simpa[aR] using h2,by simp only;omega,by simp only;omega⟩,rfl,?_⟩
  ·simp only;omega
  ·simp only[zf,Out.run,ah,show(i+1).toNat=i.toNat+1 by omega,uU]
   simpa[e] using ho
 ·rw[aa9 (by omega),aa9 (by omega)] at ho
  exact ho.1 rfl
noncomputable def KD(κ:Kp):Env:=(Pb κ).ak 16 4 (aO 0 PZ Ht zf)
theorem X7(κ:Kp):aB (KD κ):=(e14 κ).ak (Zc κ) (l15 κ)
theorem SE(κ:Kp):aj (KD κ):=(Zc κ).ak aG
theorem y15(κ:Kp)(l m:List AV)(K:AV->List Dn.Obj->Prop):(a8 (KD κ) 12 16 [.ad 3 l, .ad 3 m] [] K)=(
 letI z1:=Pg.toProgram (Env.P (Pb κ))
 aD ((↑(l.length):Int) != (↑(m.length):Int)) (K (AV.bool false) []) (af z1 16 4=af z1 16 4/\∃(e0:List AV×List AV×Int),sp 26 [(0,AV.ad 3 l),(1,
 AV.ad 3 m),(5,AV.int 0)] []=sp 26 [(0,AV.ad 3 e0.1),(1,AV.ad 3 e0.2.1),(5,AV.int e0.2.2)] []/\(e0.1.length=e0.2.1.length/\e0.1.length<=
 9223372036854775807/\(0:Int)<=e0.2.2/\e0.2.2<=(↑(e0.1.length):Int))/\aD (uU (List.drop (Int.toNat e0.2.2) e0.1) (List.drop (Int.toNat e0.2.2) e0.2.1))
 (K (AV.bool true) []) (K (AV.bool false) []))):=by kernel_rfl
def g15:List AV->Option (Bool×AV)
 |[.ad 3 l, .ad 3 m]=>some (decide (l.length<=aR), .bool (uU l m))
 |_=>none
theorem p15(κ:Kp):cU (KD κ) 12 16 g15:=by
 intro args x hh
 unfold g15 at hh
 split at hh
 ·rename_i l m
  simp only[aa4,ab0,aa1] at hh
  obtain⟨h1,rfl⟩:=hh
  refine⟨_,rfl,rfl,?_⟩
  refine Eq.mpr (y15 κ l m _) ?_
  simp only[ah,bne_iff_ne,bne_eq_false_iff_eq]
  refine⟨fun e=>?_,fun e=>⟨trivial,(l,m,0),rfl,⟨by simp only;omega,h1,by simp only;omega,by simp only;omega⟩,?_⟩⟩
  ·have:uU l m=false:=by
    unfold uU
    rw[aa5]
    intro h
    have:=congrArg List.length h
    simp at this;omega
   rw[this]
  ·simp only[ab8,ab1]
   exact⟨fun e=>by rw[e],fun e=>by rw[e]⟩
 ·cases hh
noncomputable def Yk(κ:Kp):Env:=(KD κ).aH 16 g15
theorem e15(κ:Kp):aB (Yk κ):=(X7 κ).aH (SE κ) (p15 κ)
theorem m15(κ:Kp):aj (Yk κ):=(SE κ).aH
end Go.Proofs.YthaiinlfnommnaaGreatDoor
namespace Go.Proofs.YthaiinlfnommnaaGreatDoor
open Go Go.Dn Go.Rl Go.Proofs
theorem nJ{b c:Bool}(h:b=c):AV.bool b= .lit (.bool c):=by rw[h]
theorem Qi(a b:Int):(a==b)=decide (a=b):=by by_cases h:a=b<;>simp[h]
theorem My(a b:Int):(a != b)= !decide (a=b):=by by_cases h:a=b<;>simp[h]
structure AT where
 op:Int
 s:ByteArray
 n:Int
 l:List AV
def AT.tm(a:AT):Tm:= .mk a.op a.s a.n (aa a.l)
def xz(x:AV):AT:=⟨toInt (ae x 0),toStr (ae x 1),toInt (ae x 2),ai (ae x 3)⟩
theorem oE(x:AV):(xz x).tm=cR x:=by rw[dh];rfl
abbrev cy(a:AT):AV:= .agg [.int a.op, .lit (.string a.s), .int a.n, .ad 56 a.l]
theorem yp{a:cm}(h:dd a):(cZ (aF a)).length<=100000:=by
 have h6:=cx (aa (bm 56 a.hl a.bl))
 rw[iH 56 a.rel a.hl a.bl] at h6
 have h7:=k9 (ft (aF a)) []
 unfold cZ
 cases aM (aF a)
 ·exact Nat.zero_le _
 ·rw[aa8];exact Nat.le_trans h7 (Nat.le_trans h6 h.1)
end Go.Proofs.YthaiinlfnommnaaGreatDoor
