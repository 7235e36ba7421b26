import Derived.Test.YthaiinlfnommnaaGreatDoorDbM4
import Derived.Test.YthaiinlfnommnaaGreatDoorDbM1
namespace Go.Proofs.YthaiinlfnommnaaGreatDoor
open Go Go.Dn Go.Rl Go.Proofs
attribute [local irreducible] ba vc
set_option maxRecDepth 20000
noncomputable abbrev lp8(a:cm)(ws:List AV)(κ:Kp)(st:LoopState)(p:Option Code):Dn.Obj:=
 .loop (gh (Pr κ).toProgram 74 5 st p (fV (bF 63) [(0,ar a),(1, .ptr 0 0 [] 0),(2, .ptr 1 0 [] 0),(3, .ptr 2 0 [] 0),(4, .aq 3 0 ws.length),(5, .int 0),(10, .bh [.aq 3 0 ws.length, .int 0]),(11,ar a),(12, .bh [.aq 3 0 ws.length, .int 0]),(13, .aq 3 0 ws.length),(14, .int 0),(15, .int 0),(16, .bool false),(18,ar a),(19, .bL 186 [.ptr 4 0 [] 0])]))
noncomputable abbrev ER(κ:Kp)(a:cm)(ws:List AV)(b:Bool)(st:LoopState)(p:Option Code):List Dn.Obj:=[.box 66 (ar a), .box 4 (.bool b), .box 29 (.int 0), .row 3 ws, .box 66 (ar a),lp8 a ws κ st p]
theorem x8(κ:Kp)(a:cm)(ws:List AV)(es:List (Value×AV))(done:List AV)(i:Int)(I:Nat->S->Prop)(n:Nat)(K:Exit->S->Prop):(vc (Ou κ) 12 186 none 6 (af (Pr κ).toProgram 186 3) (sp 38 [(0, .cD 5),(1, .ptr 4 0 [] 0),(3, .mp 6),(4, .aq 7 0 done.length),(13, .int a.bl.length),(14, .int i)] (ER κ a ws false .ready none++[.map 9 4 es, .row 4 done])) (bJ (Ou κ) 186 3 6 I n K))=(
 letI z1:=fV (bF 63) [(0,ar a),(1,AV.ptr 0 0 [] 0),(2,AV.ptr 1 0 [] 0),(3,AV.ptr 2 0 [] 0),(4,AV.aq 3 0 ws.length),(5,AV.int 0),(10,AV.bh [AV.aq 3
  0 ws.length,AV.int 0]),(11,ar a),(12,AV.bh [AV.aq 3 0 ws.length,AV.int 0]),(13,AV.aq 3 0 ws.length),(14,AV.int 0),(15,AV.int 0),(16,AV.bool
  false),(18,ar a),(19,AV.bL 186 [AV.ptr 4 0 [] 0])]
 letI z3:=gh Tryz.prog 74 5 LoopState.ready none z1
 letI z4:=IntKind.wrap IntKind.i64 (i+(1:Int))
 letI z6:=a.bl.length
 letI z7:=AV.bool false
 letI z5:=sp 38 [] [Obj.box 66 (ar a),Obj.box 4 z7,Obj.box 29 (AV.int 0),Obj.row 3 ws,Obj.box 66 (ar a),Dn.Obj.loop z3]
 letI z8:=AV.bool true
 letI z2:=K Exit.ret (sp 38 [] [Obj.box 66 (ar a),Obj.box 4 z8,Obj.box 29 (AV.int 0),Obj.row 3 ws,Obj.box 66 (ar a),Dn.Obj.loop (gh Tryz.prog 74 5
  LoopState.done (some Code.ret) z1)])
 letI z9:=done.length
 letI z10:=Value×AV
 aD (decide (i<(↑z6:Int))) (∃(e5:IZ),([ar a,AV.aq 0 0 done.length,AV.mp 1],[Obj.row 4 done,Dn.Obj.map 9 4 es])=([ar e5.a,AV.aq 0 0 (List.length
 (cd e5.done)),AV.mp 1],[Obj.row 4 (cd e5.done),Dn.Obj.map 9 4 (bQ e5.b)])/\(aM (aF e5.a)=true/\(aZ (aa (bk 56 e5.a.hl e5.a.bl))<=100000/\List.length
 e5.a.bl<=100000)/\e5.done.length=List.length e5.a.bl)/\aD (decide (aE (aF e5.a) e5.done e5.b<(0:Int))) (K Exit.ret z5) (a7 (decide ((0:Int)<=aE (aF
 e5.a) e5.done e5.b)&&decide (aE (aF e5.a) e5.done e5.b<(↑z6:Int))) (aD (toInt (ae (nth a.bl (Int.toNat (aE (aF e5.a) e5.done e5.b))) 0)==(3:Int)) (∃
 (e4:TA),([AV.mp 0,AV.agg [AV.int (toInt (ae (ae (nth a.bl (Int.toNat (aE (aF e5.a) e5.done e5.b))) 2) 0)),AV.str (toStr (ae (ae (nth a.bl (Int.toNat (aE
 (aF e5.a) e5.done e5.b))) 2) 1)),AV.int (toInt (ae (ae (nth a.bl (Int.toNat (aE (aF e5.a) e5.done e5.b))) 2) 2)),AV.ad 56 (ai (ae (ae (nth a.bl (Int.toNat (aE
 (aF e5.a) e5.done e5.b))) 2) 3))],AV.agg [AV.int (toInt (ae (ae (nth a.bl (Int.toNat (aE (aF e5.a) e5.done e5.b))) 3) 0)),AV.str (toStr (ae (ae (nth a.bl
 (Int.toNat (aE (aF e5.a) e5.done e5.b))) 3) 1)),AV.int (toInt (ae (ae (nth a.bl (Int.toNat (aE (aF e5.a) e5.done e5.b))) 3) 2)),AV.ad 56 (ai (ae (ae (nth a.bl
 (Int.toNat (aE (aF e5.a) e5.done e5.b))) 3) 3))]],[Dn.Obj.map 9 4 (bQ e5.b)])=([AV.mp 0,AV.agg [AV.int e4.o1,AV.str e4.s1,AV.int e4.n1,AV.ad 56 e4.l1],
 AV.agg [AV.int e4.o2,AV.str e4.s2,AV.int e4.n2,AV.ad 56 e4.l2]],[Dn.Obj.map 9 4 e4.es])/\iO e4/\aD (lI e4.es (TA.x e4) (TA.y e4)) (aD (decide (toInt (ae
 (ae (nth a.bl (Int.toNat (aE (aF e5.a) e5.done e5.b))) 3) 0)>=(5:Int))) z2 (∃(e3:TA),([AV.mp 0,AV.agg [AV.int (toInt (ae (ae (nth a.bl (Int.toNat (aE
 (aF e5.a) e5.done e5.b))) 3) 0)),AV.str (toStr (ae (ae (nth a.bl (Int.toNat (aE (aF e5.a) e5.done e5.b))) 3) 1)),AV.int (toInt (ae (ae (nth a.bl (Int.toNat
 (aE (aF e5.a) e5.done e5.b))) 3) 2)),AV.ad 56 (ai (ae (ae (nth a.bl (Int.toNat (aE (aF e5.a) e5.done e5.b))) 3) 3))],AV.agg [AV.int (toInt (ae (ae (nth a.bl
 (Int.toNat (aE (aF e5.a) e5.done e5.b))) 2) 0)),AV.str (toStr (ae (ae (nth a.bl (Int.toNat (aE (aF e5.a) e5.done e5.b))) 2) 1)),AV.int (toInt (ae (ae (nth
 a.bl (Int.toNat (aE (aF e5.a) e5.done e5.b))) 2) 2)),AV.ad 56 (ai (ae (ae (nth a.bl (Int.toNat (aE (aF e5.a) e5.done e5.b))) 2) 3))]],[Dn.Obj.map 9 4 e4.es])
 =([AV.mp 0,AV.agg [AV.int e3.o1,AV.str e3.s1,AV.int e3.n1,AV.ad 56 e3.l1],AV.agg [AV.int e3.o2,AV.str e3.s2,AV.int e3.n2,AV.ad 56 e3.l2]],[Dn.Obj.map
 9 4 e3.es])/\iO e3/\aD (lI e3.es (TA.x e3) (TA.y e3)) (aD (decide (toInt (ae (ae (nth a.bl (Int.toNat (aE (aF e5.a) e5.done e5.b))) 2) 0)>=(5:Int))) z2 (aD
 (decide ((7:Int)<=toInt (ae (nth a.bl (Int.toNat (aE (aF e5.a) e5.done e5.b))) 0))) z2 (a7 (decide ((0:Int)<=aE (aF e5.a) e5.done e5.b)&&decide (aE (aF
 e5.a) e5.done e5.b<(↑z9:Int))) (∃(e2:cm×Int),([ar a,AV.int (aE (aF e5.a) e5.done e5.b)],aI)=([ar e2.1,AV.int e2.2],aI)/\(aM (aF e2.1)=true/\
 (aZ (aa (bk 56 e2.1.hl e2.1.bl))<=100000/\e2.1.bl.length<=100000)/\(0:Int)<=e2.2/\e2.2<(↑(e2.1.bl.length):Int))/\∃(e1:List AV×List z10),
 ([AV.mp 0,AV.ad 9 (strs (cV (aF e2.1) e2.2.toNat))],[Dn.Obj.map 9 4 e3.es])=([AV.mp 0,AV.ad 9 e1.1],[Dn.Obj.map 9 4 e1.2])/\bq e1/\∃(e0:Nat),e0<n
 /\I e0 (sp 38 [(0,AV.cD 5),(1,AV.ptr 4 0 [] 0),(3,AV.mp 6),(4,AV.aq 7 0 done.length),(13,AV.int (↑z6:Int)),(14,AV.int z4)] [Obj.box 66 (ar a),
 Obj.box 4 z7,Obj.box 29 (AV.int 0),Obj.row 3 ws,Obj.box 66 (ar a),Dn.Obj.loop z3,Dn.Obj.map 9 4 (fx e1.2 e1.1),Obj.row 4 (cg (cd e5.done) (0+Int.toNat
 (aE (aF e5.a) e5.done e5.b)) z8)]))))) (aD (decide ((7:Int)<=toInt (ae (nth a.bl (Int.toNat (aE (aF e5.a) e5.done e5.b))) 0))) z2 (a7 (decide ((0:Int)<=aE
 (aF e5.a) e5.done e5.b)&&decide (aE (aF e5.a) e5.done e5.b<(↑z9:Int))) (∃(e2:cm×Int),([ar a,AV.int (aE (aF e5.a) e5.done e5.b)],aI)=([ar e2.1,
 AV.int e2.2],aI)/\(aM (aF e2.1)=true/\(aZ (aa (bk 56 e2.1.hl e2.1.bl))<=100000/\e2.1.bl.length<=100000)/\(0:Int)<=e2.2/\e2.2<(↑(e2.1.bl.length):
 Int))/\∃(e1:List AV×List z10),([AV.mp 0,AV.ad 9 (strs (cV (aF e2.1) e2.2.toNat))],[Dn.Obj.map 9 4 e3.es])=([AV.mp 0,AV.ad 9 e1.1],[Dn.Obj.map 9 4
 e1.2])/\bq e1/\∃(e0:Nat),e0<n/\I e0 (sp 38 [(0,AV.cD 5),(1,AV.ptr 4 0 [] 0),(3,AV.mp 6),(4,AV.aq 7 0 done.length),(13,AV.int (↑z6:Int)),
 (14,AV.int z4)] [Obj.box 66 (ar a),Obj.box 4 z7,Obj.box 29 (AV.int 0),Obj.row 3 ws,Obj.box 66 (ar a),Dn.Obj.loop z3,Dn.Obj.map 9 4 (fx e1.2 e1.1),
 Obj.row 4 (cg (cd e5.done) (0+Int.toNat (aE (aF e5.a) e5.done e5.b)) z8)])))))) (∃(e3:TA),([AV.mp 0,AV.agg [AV.int (toInt (ae (ae (nth a.bl (Int.toNat
 (aE (aF e5.a) e5.done e5.b))) 3) 0)),AV.str (toStr (ae (ae (nth a.bl (Int.toNat (aE (aF e5.a) e5.done e5.b))) 3) 1)),AV.int (toInt (ae (ae (nth a.bl
 (Int.toNat (aE (aF e5.a) e5.done e5.b))) 3) 2)),AV.ad 56 (ai (ae (ae (nth a.bl (Int.toNat (aE (aF e5.a) e5.done e5.b))) 3) 3))],AV.agg [AV.int (toInt (ae (ae
 (nth a.bl (Int.toNat (aE (aF e5.a) e5.done e5.b))) 2) 0)),AV.str (toStr (ae (ae (nth a.bl (Int.toNat (aE (aF e5.a) e5.done e5.b))) 2) 1)),AV.int (toInt (ae
 (ae (nth a.bl (Int.toNat (aE (aF e5.a) e5.done e5.b))) 2) 2)),AV.ad 56 (ai (ae (ae (nth a.bl (Int.toNat (aE (aF e5.a) e5.done e5.b))) 2) 3))]],[Dn.Obj.map 9 4
 e4.es])=([AV.mp 0,AV.agg [AV.int e3.o1,AV.str e3.s1,AV.int e3.n1,AV.ad 56 e3.l1],AV.agg [AV.int e3.o2,AV.str e3.s2,AV.int e3.n2,AV.ad 56 e3.l2]],
 [Dn.Obj.map 9 4 e3.es])/\iO e3/\aD (lI e3.es (TA.x e3) (TA.y e3)) (aD (decide (toInt (ae (ae (nth a.bl (Int.toNat (aE (aF e5.a) e5.done e5.b))) 2) 0)>=(5:
 Int))) z2 (aD (decide ((7:Int)<=toInt (ae (nth a.bl (Int.toNat (aE (aF e5.a) e5.done e5.b))) 0))) z2 (a7 (decide ((0:Int)<=aE (aF e5.a) e5.done e5.b)&&
 decide (aE (aF e5.a) e5.done e5.b<(↑z9:Int))) (∃(e2:cm×Int),([ar a,AV.int (aE (aF e5.a) e5.done e5.b)],aI)=([ar e2.1,AV.int e2.2],aI)/\(aM (aF
 e2.1)=true/\(aZ (aa (bk 56 e2.1.hl e2.1.bl))<=100000/\e2.1.bl.length<=100000)/\(0:Int)<=e2.2/\e2.2<(↑(e2.1.bl.length):Int))/\∃(e1:List AV×
 List z10),([AV.mp 0,AV.ad 9 (strs (cV (aF e2.1) e2.2.toNat))],[Dn.Obj.map 9 4 e3.es])=([AV.mp 0,AV.ad 9 e1.1],[Dn.Obj.map 9 4 e1.2])/\bq e1/\∃(e0:
 Nat),e0<n/\I e0 (sp 38 [(0,AV.cD 5),(1,AV.ptr 4 0 [] 0),(3,AV.mp 6),(4,AV.aq 7 0 done.length),(13,AV.int (↑z6:Int)),(14,AV.int z4)] [Obj.box 66
 (ar a),Obj.box 4 z7,Obj.box 29 (AV.int 0),Obj.row 3 ws,Obj.box 66 (ar a),Dn.Obj.loop z3,Dn.Obj.map 9 4 (fx e1.2 e1.1),Obj.row 4 (cg (cd e5.done) (0+
 Int.toNat (aE (aF e5.a) e5.done e5.b)) z8)]))))) (aD (decide ((7:Int)<=toInt (ae (nth a.bl (Int.toNat (aE (aF e5.a) e5.done e5.b))) 0))) z2 (a7 (decide ((0:
 Int)<=aE (aF e5.a) e5.done e5.b)&&decide (aE (aF e5.a) e5.done e5.b<(↑z9:Int))) (∃(e2:cm×Int),([ar a,AV.int (aE (aF e5.a) e5.done e5.b)],aI)=
 ([ar e2.1,AV.int e2.2],aI)/\(aM (aF e2.1)=true/\(aZ (aa (bk 56 e2.1.hl e2.1.bl))<=100000/\e2.1.bl.length<=100000)/\(0:Int)<=e2.2/\e2.2<
 (↑(e2.1.bl.length):Int))/\∃(e1:List AV×List z10),([AV.mp 0,AV.ad 9 (strs (cV (aF e2.1) e2.2.toNat))],[Dn.Obj.map 9 4 e3.es])=([AV.mp 0,AV.ad 9
 e1.1],[Dn.Obj.map 9 4 e1.2])/\bq e1/\∃(e0:Nat),e0<n/\I e0 (sp 38 [(0,AV.cD 5),(1,AV.ptr 4 0 [] 0),(3,AV.mp 6),(4,AV.aq 7 0 done.length),(13,
 AV.int (↑z6:Int)),(14,AV.int z4)] [Obj.box 66 (ar a),Obj.box 4 z7,Obj.box 29 (AV.int 0),Obj.row 3 ws,Obj.box 66 (ar a),Dn.Obj.loop z3,Dn.Obj.map 9 4
 (fx e1.2 e1.1),Obj.row 4 (cg (cd e5.done) (0+Int.toNat (aE (aF e5.a) e5.done e5.b)) z8)])))))) (aD (decide ((7:Int)<=toInt (ae (nth a.bl (Int.toNat (aE
 (aF e5.a) e5.done e5.b))) 0))) z2 (a7 (decide ((0:Int)<=aE (aF e5.a) e5.done e5.b)&&decide (aE (aF e5.a) e5.done e5.b<(↑z9:Int))) (∃(e2:cm×Int),
 ([ar a,AV.int (aE (aF e5.a) e5.done e5.b)],aI)=([ar e2.1,AV.int e2.2],aI)/\(aM (aF e2.1)=true/\(aZ (aa (bk 56 e2.1.hl e2.1.bl))<=100000/\
 e2.1.bl.length<=100000)/\(0:Int)<=e2.2/\e2.2<(↑(e2.1.bl.length):Int))/\∃(e1:List AV×List z10),([AV.mp 0,AV.ad 9 (strs (cV (aF e2.1)
 e2.2.toNat))],[Dn.Obj.map 9 4 (bQ e5.b)])=([AV.mp 0,AV.ad 9 e1.1],[Dn.Obj.map 9 4 e1.2])/\bq e1/\∃(e0:Nat),e0<n/\I e0 (sp 38 [(0,AV.cD 5),(1,
 AV.ptr 4 0 [] 0),(3,AV.mp 6),(4,AV.aq 7 0 done.length),(13,AV.int (↑z6:Int)),(14,AV.int z4)] [Obj.box 66 (ar a),Obj.box 4 z7,Obj.box 29 (AV.int 0),
 Obj.row 3 ws,Obj.box 66 (ar a),Dn.Obj.loop z3,Dn.Obj.map 9 4 (fx e1.2 e1.1),Obj.row 4 (cg (cd e5.done) (0+Int.toNat (aE (aF e5.a) e5.done e5.b))
 z8)]))))))) (K (Exit.exit 0) z5)):=by kernel_rfl
structure A8 where
 a:cm
 ws:List AV
 done:List Bool
 b:List ByteArray
 i:Int
noncomputable abbrev NP(κ:Kp)(a:A8):S:=sp 38 [(0, .cD 5),(1, .ptr 4 0 [] 0),(3, .mp 6),(4, .aq 7 0 (cd a.done).length),(13, .int a.a.bl.length),(14, .int a.i)] (ER κ a.a a.ws false .ready none++[.map 9 4 (bQ a.b), .row 4 (cd a.done)])
def Dq(a:A8):Prop:=aM (aF a.a)=true/\de a.a/\0<=a.i/\a.i<=a.a.bl.length/\a.done.length=a.a.bl.length
noncomputable def HT(a:A8):Bool:=Kn (aF a.a) (a.a.bl.length - a.i.toNat) a.done a.b
noncomputable def Bz(κ:Kp)(a:A8):Out (Exit×S):= .aD (HT a) (.one (.ret,sp 38 [] (ER κ a.a a.ws true .done (some .ret)))) (.all (fun _:Bool=>True) fun e=> .aD e (.one (.ret,sp 38 [] (ER κ a.a a.ws false .ready none))) (.one (.exit 0,sp 38 [] (ER κ a.a a.ws false .ready none))))
theorem IB(r:Rl)(n:Nat)(done:List Bool)(b:List ByteArray):Kn r (n+1) done b=
  bif decide (aE r done b<0) then false else Hv r b (aE r done b).toNat||Kn r n (done.set (aE r done b).toNat true) (b++cV r (aE r done b).toNat):=rfl
theorem l8(κ:Kp):bj (Ou κ) 12 186 3 (aO 6 (NP κ) Dq (Bz κ)):=by
 refine aK (fun a=>a.a.bl.length - a.i.toNat) ?_
 rintro⟨a,ws,done,b,i⟩ K ⟨h1,h2,h3,h4,h5⟩ ho
 simp only at h1 h2 h3 h4 h5
 rw[show(Ou κ).P=Pr κ from rfl]
 refine Eq.mpr (x8 κ a ws (bQ b) (cd done) i _ _ K) ?_
 simp only[Bz,Out.run,ah,HT] at ho
 simp only[and_self]
 have hbl:=jo done
 have hl:=h2.2
 rw[ah,aa1,aa3]
 refine⟨fun hi=>⟨⟨a,done,b,0,0⟩,rfl,⟨h1,h2,h5⟩,?_⟩,fun hi=>?_⟩
 ·have hw:=IB (aF a) (a.bl.length - (i.toNat+1)) done b
  rw[show a.bl.length - (i.toNat+1)+1=a.bl.length - i.toNat by omega] at hw
  rw[ah,aa1,aa3]
  refine⟨fun e=>?_,fun e=>?_⟩
  ·rw[hw,aa7 e] at ho
   exact(ho.2 rfl true trivial).1 rfl
  ·rw[hw,aa5 e,aa6] at ho
   rcases pS (aF a) done b with e0|⟨e1,e2,e3,_⟩
   ·rw[e0] at e;omega
   have e2':=e2
   rw[fW] at e2'
   have hg:=sc h2 e2'
   have hlit:=kD h2 e2'
   have e2i:aE (aF a) done b<a.bl.length:=by omega
   have hsd:bq (strs (cV (aF a) (aE (aF a) done b).toNat),bQ b):=by simp only[bq,aW,aR];omega
   have hbnd:(decide (0<=aE (aF a) done b)&&decide (aE (aF a) done b<(a.bl.length:Int)))=true:=by simp[e1,e2i]
   have hbnd2:(decide (0<=aE (aF a) done b)&&decide (aE (aF a) done b<((cd done).length:Int)))=true:=by rw[hbl,h5];exact hbnd
   have hlc:iX (cE (nth a.bl (aE (aF a) done b).toNat))=aZ [cR (ae (nth a.bl (aE (aF a) done b).toNat) 2),cR (ae (nth a.bl (aE (aF a) done b).toNat) 3)]+aZ (aa (ai (ae (ae (nth a.bl (aE (aF a) done b).toNat) 1) 1))):=rfl
   have hcx:aZ [cR (ae (nth a.bl (aE (aF a) done b).toNat) 2)]<=100000/\aZ [cR (ae (nth a.bl (aE (aF a) done b).toNat) 3)]<=100000:=by
    simp only[aZ] at hlc⊢;omega
   have hx1:iO (lF (ae (nth a.bl (aE (aF a) done b).toNat) 2) (ae (nth a.bl (aE (aF a) done b).toNat) 3) (bQ b)):=by unfold iO lF;rw[nO];exact hcx.2
   have hx2:iO (lF (ae (nth a.bl (aE (aF a) done b).toNat) 3) (ae (nth a.bl (aE (aF a) done b).toNat) 2) (bQ b)):=by unfold iO lF;rw[nO];exact hcx.1
   have ta1:lI (lF (ae (nth a.bl (aE (aF a) done b).toNat) 2) (ae (nth a.bl (aE (aF a) done b).toNat) 3) (bQ b)).es (lF (ae (nth a.bl (aE (aF a) done b).toNat) 2) (ae (nth a.bl (aE (aF a) done b).toNat) 3) (bQ b)).x (lF (ae (nth a.bl (aE (aF a) done b).toNat) 2) (ae (nth a.bl (aE (aF a) done b).toNat) 3) (bQ b)).y=lC b (cR (ae (nth a.bl (aE (aF a) done b).toNat) 2)) (cR (ae (nth a.bl (aE (aF a) done b).toNat) 3)):=by
    unfold lF;rw[zH,nO,oz]
   have ta2:lI (lF (ae (nth a.bl (aE (aF a) done b).toNat) 3) (ae (nth a.bl (aE (aF a) done b).toNat) 2) (bQ b)).es (lF (ae (nth a.bl (aE (aF a) done b).toNat) 3) (ae (nth a.bl (aE (aF a) done b).toNat) 2) (bQ b)).x (lF (ae (nth a.bl (aE (aF a) done b).toNat) 3) (ae (nth a.bl (aE (aF a) done b).toNat) 2) (bQ b)).y=lC b (cR (ae (nth a.bl (aE (aF a) done b).toNat) 3)) (cR (ae (nth a.bl (aE (aF a) done b).toNat) 2)):=by
    unfold lF;rw[zH,nO,oz]
   have hinv:Hv (aF a) b (aE (aF a) done b).toNat=((decide (toInt (ae (nth a.bl (aE (aF a) done b).toNat) 0)=3)&&(lC b (cR (ae (nth a.bl (aE (aF a) done b).toNat) 2)) (cR (ae (nth a.bl (aE (aF a) done b).toNat) 3))&&decide (toInt (ae (ae (nth a.bl (aE (aF a) done b).toNat) 3) 0)>=5)||lC b (cR (ae (nth a.bl (aE (aF a) done b).toNat) 3)) (cR (ae (nth a.bl (aE (aF a) done b).toNat) 2))&&decide (toInt (ae (ae (nth a.bl (aE (aF a) done b).toNat) 2) 0)>=5)))||decide (7<=toInt (ae (nth a.bl (aE (aF a) done b).toNat) 0))):=by
    have o1:(cR (ae (nth a.bl (aE (aF a) done b).toNat) 2)).op=toInt (ae (ae (nth a.bl (aE (aF a) done b).toNat) 2) 0):=by rw[dh];rfl
    have o2:(cR (ae (nth a.bl (aE (aF a) done b).toNat) 3)).op=toInt (ae (ae (nth a.bl (aE (aF a) done b).toNat) 3) 0):=by rw[dh];rfl
    unfold Hv
    rw[show(aF a).body=dg a.bl from rfl,km _ e2',show(cE (nth a.bl (aE (aF a) done b).toNat)).op=toInt (ae (nth a.bl (aE (aF a) done b).toNat) 0) from rfl,show(cE (nth a.bl (aE (aF a) done b).toNat)).x=cR (ae (nth a.bl (aE (aF a) done b).toNat) 2) from rfl,show(cE (nth a.bl (aE (aF a) done b).toNat)).y=cR (ae (nth a.bl (aE (aF a) done b).toNat) 3) from rfl,o1,o2]
   have h3t:(toInt (ae (nth a.bl (aE (aF a) done b).toNat) 0)==3)=true->decide (toInt (ae (nth a.bl (aE (aF a) done b).toNat) 0)=3)=true:=fun e=>by simpa using e
   have h3f:(toInt (ae (nth a.bl (aE (aF a) done b).toNat) 0)==3)=false->decide (toInt (ae (nth a.bl (aE (aF a) done b).toNat) 0)=3)=false:=fun e=>by simpa using e
   have ho1:Hv (aF a) b (aE (aF a) done b).toNat=true->K .ret (sp 38 [] (ER κ a ws true .done (some .ret))):=fun e=>ho.1 (by rw[e];rfl)
   have nx:Hv (aF a) b (aE (aF a) done b).toNat=false->∃m,m<a.bl.length - i.toNat/\fm (NP κ) Dq (Bz κ) (fun a=>a.a.bl.length - a.i.toNat) K m (sp 38 [(0, .cD 5),(1, .ptr 4 0 [] 0),(3, .mp 6),(4, .aq 7 0 (cd done).length),(13, .int a.bl.length),(14, .int (IntKind.wrap .i64 (i+1)))] (ER κ a ws false .ready none++[.map 9 4 (fx (bQ b) (strs (cV (aF a) (aE (aF a) done b).toNat))), .row 4 (cg (cd done) (0+(aE (aF a) done b).toNat) (.lit (.bool true)))])):=by
    intro e
    rw[e,Bool.false_or] at ho
    rw[aV (n:=i+1) (by omega) (by omega)]
    refine⟨_,?_,⟨a,ws,done.set (aE (aF a) done b).toNat true,b++cV (aF a) (aE (aF a) done b).toNat,i+1⟩,?_,⟨h1,h2,by simp only;omega,by simp only;omega,by simpa using h5⟩,rfl,?_⟩
    ·simp only;omega
    ·simp only[NP,Nat.zero_add,pF,l9,jo,List.length_set]
    ·simp only[Bz,Out.run,ah,HT,show(i+1).toNat=i.toNat+1 by omega]
     exact ho
   rw[an]
   refine⟨hbnd,?_⟩
   rw[ah]
   exact⟨fun f3=>⟨lF (ae (nth a.bl (aE (aF a) done b).toNat) 2) (ae (nth a.bl (aE (aF a) done b).toNat) 3) (bQ b),rfl,hx1,by
   rw[ta1]
   exact ah.2 ⟨fun g1=>ah.2 ⟨fun g4=>ho1 (by rw[hinv,h3t f3,g1,g4];simp),fun g4=>⟨lF (ae (nth a.bl (aE (aF a) done b).toNat) 3) (ae (nth a.bl (aE (aF a) done b).toNat) 2) (bQ b),rfl,hx2,by
   rw[ta2]
   exact ah.2 ⟨fun g2=>ah.2 ⟨fun g3=>ho1 (by rw[hinv,h3t f3,g1,g4,g2,g3];simp),fun g3=>ah.2 ⟨fun f7=>ho1 (by rw[hinv,h3t f3,g1,g4,g2,g3,f7];simp),fun f7=>an.2 ⟨hbnd2,(a,(aE (aF a) done b)),rfl,⟨h1,h2,e1,e2i⟩,(strs (cV (aF a) (aE (aF a) done b).toNat),bQ b),rfl,hsd,nx (by rw[hinv,h3t f3,g1,g4,g2,g3,f7];simp)⟩⟩⟩,fun g2=>ah.2 ⟨fun f7=>ho1 (by rw[hinv,h3t f3,g1,g4,g2,f7];simp),fun f7=>an.2 ⟨hbnd2,(a,(aE (aF a) done b)),rfl,⟨h1,h2,e1,e2i⟩,(strs (cV (aF a) (aE (aF a) done b).toNat),bQ b),rfl,hsd,nx (by rw[hinv,h3t f3,g1,g4,g2,f7];simp)⟩⟩⟩⟩⟩,fun g1=>⟨lF (ae (nth a.bl (aE (aF a) done b).toNat) 3) (ae (nth a.bl (aE (aF a) done b).toNat) 2) (bQ b),rfl,hx2,by
   rw[ta2]
   exact ah.2 ⟨fun g2=>ah.2 ⟨fun g3=>ho1 (by rw[hinv,h3t f3,g1,g2,g3];simp),fun g3=>ah.2 ⟨fun f7=>ho1 (by rw[hinv,h3t f3,g1,g2,g3,f7];simp),fun f7=>an.2 ⟨hbnd2,(a,(aE (aF a) done b)),rfl,⟨h1,h2,e1,e2i⟩,(strs (cV (aF a) (aE (aF a) done b).toNat),bQ b),rfl,hsd,nx (by rw[hinv,h3t f3,g1,g2,g3,f7];simp)⟩⟩⟩,fun g2=>ah.2 ⟨fun f7=>ho1 (by rw[hinv,h3t f3,g1,g2,f7];simp),fun f7=>an.2 ⟨hbnd2,(a,(aE (aF a) done b)),rfl,⟨h1,h2,e1,e2i⟩,(strs (cV (aF a) (aE (aF a) done b).toNat),bQ b),rfl,hsd,nx (by rw[hinv,h3t f3,g1,g2,f7];simp)⟩⟩⟩⟩⟩⟩,fun f3=>ah.2 ⟨fun f7=>ho1 (by rw[hinv,h3f f3,f7];simp),fun f7=>an.2 ⟨hbnd2,(a,(aE (aF a) done b)),rfl,⟨h1,h2,e1,e2i⟩,(strs (cV (aF a) (aE (aF a) done b).toNat),bQ b),rfl,hsd,nx (by rw[hinv,h3f f3,f7];simp)⟩⟩⟩
 ·rw[show a.bl.length - i.toNat=0 by omega] at ho
  exact(ho.2 rfl false trivial).2 rfl
noncomputable def U8(κ:Kp):Env:=(Ou κ).ak 186 3 (aO 6 (NP κ) Dq (Bz κ))
theorem e8l(κ:Kp):aB (U8 κ):=(e10 κ).ak (YP κ) (l8 κ)
theorem Zm(κ:Kp):aj (U8 κ):=(YP κ).ak aG
theorem y8(κ:Kp)(a:cm)(K:AV->List Dn.Obj->Prop):(ba (U8 κ) 12 74 [ar a] [] K)=(
 letI z1:=a.bl.length
 letI z2:=K (AV.bh [AV.bool false,AV.int 0]) []
 letI z3:=Pg.toProgram (Env.P (Ou κ))
 letI z4:=AV.bool false
 letI z5:=Int.toNat (↑z1:Int)
 ∃(e2:cm),([ar a],aI)=([ar e2],aI)/\(aZ (aa (bk 56 e2.hl e2.bl))<=100000/\e2.bl.length<=100000)/\aD (aM (aF e2)) (aD (jb (aF e2)) (a7 (true&&
 decide ((↑z1:Int)<=(↑z1:Int))&&decide ((Int.toNat (↑z1:Int)+1)*2<=70368744177664)&&true) (af z3 186 3=af z3 186 3/\∃(e1:A8),sp 38 [(0,
 AV.cD 5),(1,AV.ptr 4 0 [] 0),(3,AV.mp 6),(4,AV.aq 7 0 z5),(13,AV.int (↑z1:Int)),(14,AV.int 0)] [Obj.box 66 (ar a),Obj.box 4 z4,Obj.box 29 (AV.int
 0),Obj.row 3 (ints (b8 (aF e2))),Obj.box 66 (ar a),Dn.Obj.loop (gh Tryz.prog 74 5 LoopState.ready none (fV (bF 63) [(0,ar a),(1,AV.ptr 0 0 [] 0),(2,
 AV.ptr 1 0 [] 0),(3,AV.ptr 2 0 [] 0),(4,AV.aq 3 0 (List.length (b8 (aF e2)))),(5,AV.int 0),(10,AV.bh [AV.aq 3 0 (List.length (b8 (aF e2))),AV.int 0]),
 (11,ar a),(12,AV.bh [AV.aq 3 0 (List.length (b8 (aF e2))),AV.int 0]),(13,AV.aq 3 0 (List.length (b8 (aF e2)))),(14,AV.int 0),(15,AV.int 0),(16,
 AV.bool false),(18,ar a),(19,AV.bL 186 [AV.ptr 4 0 [] 0])])),Dn.Obj.map 9 4 [],Obj.row 4 (fM z4 z5)]=sp 38 [(0,AV.cD 5),(1,AV.ptr 4 0 [] 0),(3,
 AV.mp 6),(4,AV.aq 7 0 (List.length (cd e1.done))),(13,AV.int (↑(List.length e1.a.bl):Int)),(14,AV.int e1.i)] [Obj.box 66 (ar e1.a),Obj.box 4 z4,
 Obj.box 29 (AV.int 0),Obj.row 3 e1.ws,Obj.box 66 (ar e1.a),Dn.Obj.loop (gh Tryz.prog 74 5 LoopState.ready none (fV (bF 63) [(0,ar e1.a),(1,AV.ptr 0 0 []
 0),(2,AV.ptr 1 0 [] 0),(3,AV.ptr 2 0 [] 0),(4,AV.aq 3 0 e1.ws.length),(5,AV.int 0),(10,AV.bh [AV.aq 3 0 e1.ws.length,AV.int 0]),(11,ar e1.a),(12,
 AV.bh [AV.aq 3 0 e1.ws.length,AV.int 0]),(13,AV.aq 3 0 e1.ws.length),(14,AV.int 0),(15,AV.int 0),(16,AV.bool false),(18,ar e1.a),(19,AV.bL 186
 [AV.ptr 4 0 [] 0])])),Dn.Obj.map 9 4 (bQ e1.b),Obj.row 4 (cd e1.done)]/\(aM (aF e1.a)=true/\(aZ (aa (bk 56 e1.a.hl e1.a.bl))<=100000/\List.length
 e1.a.bl<=100000)/\(0:Int)<=e1.i/\e1.i<=(↑(List.length e1.a.bl):Int)/\e1.done.length=List.length e1.a.bl)/\aD (HT e1) (K (AV.bh [AV.bool true,
 AV.int 0]) []) (∀(e0:Bool),True->aD e0 z2 z2))) (K (AV.bh [AV.bool false,AV.int 60]) [])) (K (AV.bh [AV.bool false,AV.int 30]) [])):=by kernel_rfl
def Qg(a:cm):Out (AV×List Dn.Obj):= .aD (aM (aF a)) (.aD (jb (aF a)) (.one (.bh [.bool (JK (aF a)), .int 0],[])) (.one (.bh [.bool false, .int 60],[]))) (.one (.bh [.bool false, .int 30],[]))
theorem c8(κ:Kp):bu (U8 κ) 12 74 (aL CA de Qg):=by
 refine aX ?_
 rintro a K h2 ho
 refine Eq.mpr (y8 κ a K) ?_
 simp only[Qg,Out.run,ah] at ho
 have hl:=h2.2
 refine⟨a,rfl,h2,?_⟩
 rw[ah]
 refine⟨fun e1=>?_,fun e1=>ho.2 e1⟩
 rw[ah]
 refine⟨fun e2=>?_,fun e2=>(ho.1 e1).2 e2⟩
 have hw:=oK e2
 have ho1:=(ho.1 e1).1 e2
 simp only[an,aa2,aa1,Int.toNat_natCast]
 have hi:HT ⟨a,ints (b8 (aF a)),List.replicate a.bl.length false,[],0⟩=JK (aF a):=by
  unfold HT JK
  rw[fW];rfl
 refine⟨⟨⟨⟨trivial,by omega⟩,by omega⟩,trivial⟩,trivial,⟨a,ints (b8 (aF a)),List.replicate a.bl.length false,[],0⟩,?_,⟨e1,h2,by simp only;omega,by simp only;omega,by simp⟩,?_⟩
 ·simp only[si,jo,n9,List.length_replicate];rfl
 ·rw[hi,ah]
  refine⟨fun e=>by rw[e] at ho1;exact ho1,fun e y _=>?_⟩
  rw[e] at ho1
  cases y
  ·exact ho1
  ·exact ho1
noncomputable def E8(κ:Kp):Env:=(U8 κ).aw 74 (aL CA de Qg)
theorem e8(κ:Kp):aB (E8 κ):=(e8l κ).aw (Zm κ) (c8 κ)
theorem m8(κ:Kp):aj (E8 κ):=(Zm κ).aw aJ
def Q5:List AV->Option (Bool×AV)
 |[.agg [.lit (.int .i64 op), .lit (.string s), .lit (.int .i64 n), .ad 56 l], .lit (.int .i64 left)]=>some (decide (0<=left)&&decide (left<=100000), .int ((Tm.mk op s n (aa l)).size left))
 |_=>none
def Ee:List AV->Nat
 |[.agg [_,_,_, .ad _ l],_]=>aZ (aa l)
 |_=>0
noncomputable def zo(κ:Kp)(n:Nat):Env:=(E8 κ).aH 94 (below Q5 Ee n)
structure Vx where
 op:Int
 s:ByteArray
 n:Int
 l:List AV
 left:Int
 i:Int
abbrev J6(a:Vx):S:=sp 31 [(1, .int a.left),(2, .ptr 0 0 [] 0),(5, .int a.i)] [.box 56 (.agg [.int a.op, .lit (.string a.s), .int a.n, .ad 56 a.l])]
theorem x54(κ:Kp)(r:Nat)(a:Vx)(I:Nat->S->Prop)(n:Nat)(K:Exit->S->Prop):(vc (zo κ r) 12 94 none 0 (af (Pr κ).toProgram 94 5) (J6 a) (bJ (zo κ r) 94 5 0 I n K))=(
 letI z1:=nth a.l a.i.toNat
 letI z2:=K (Exit.exit 0) (sp 31 [(1,AV.int a.left)] [])
 letI z3:=a.i<(↑(a.l.length):Int)
 aD (decide z3) (aD (decide (a.left>=(0:Int))) (a7 (decide ((0:Int)<=a.i)&&decide z3) (a7 (decide ((0:Int)<=a.left)&&decide (a.left<=(100000:
 Int))&&Nat.blt (Ee [AV.agg [AV.int (toInt (ae z1 0)),AV.str (toStr (ae z1 1)),AV.int (toInt (ae z1 2)),AV.ad 56 (ai (ae z1 3))],AV.int a.left]) r) (∃(e0
 :Nat),e0<n/\I e0 (sp 31 [(1,AV.int (Tm.size (Tm.mk (toInt (ae z1 0)) (toStr (ae z1 1)) (toInt (ae z1 2)) (aa (ai (ae z1 3)))) a.left)),(2,AV.ptr 0 0 []
 0),(5,AV.int (IntKind.wrap IntKind.i64 (a.i+(1:Int))))] [Obj.box 56 (AV.agg [AV.int a.op,AV.str a.s,AV.int a.n,AV.ad 56 a.l])])))) z2) z2):=by kernel_rfl
def F4(r:Nat)(a:Vx):Prop:= -1<=a.left/\a.i+a.left<=100000/\0<=a.i/\a.i<=a.l.length/\aZ (aa (a.l.drop a.i.toNat))<=r
def z8(a:Vx):Out (Exit×S):= .one (.exit 0,sp 31 [(1, .int (iY (aa (a.l.drop a.i.toNat)) a.left))] [])
theorem l54(κ:Kp)(r:Nat):bj (zo κ r) 12 94 5 (aO 0 J6 (F4 r) z8):=by
 refine aK (fun a=>a.l.length - a.i.toNat) ?_
 rintro⟨op,s,n,l,left,i⟩ K ⟨h1,h2,h3,h4,h5⟩ ho
 simp only at h1 h2 h3 h4 h5
 rw[show(zo κ r).P=Pr κ from rfl]
 refine Eq.mpr (x54 κ r ⟨op,s,n,l,left,i⟩ _ _ K) ?_
 simp only[z8,Out.run] at ho
 simp only[ah,an,aa1,aa3,aa2,Nat.blt_eq,←dh]
 refine⟨fun hi=>⟨fun hl=>⟨⟨h3,hi⟩,?_⟩,fun hl=>?_⟩,fun hi=>?_⟩
 ·have hc:=ve l i.toNat (by omega)
  have hz:=Tm.size_le (cR (nth l i.toNat)) left hl
  have hp:(cR (nth l i.toNat)).iZ=1+aZ (aa (ai (ae (nth l i.toNat) 3))):=by rw[dh,Tm.iZ]
  rw[eH l i.toNat (by omega),iY,aa7 hl,aa8] at ho
  rw[aV (n:=i+1) (by omega) (by omega)]
  refine⟨⟨⟨hl,by omega⟩,by simp only[Ee];omega⟩,_,?_,⟨op,s,n,l,(cR (nth l i.toNat)).size left,i+1⟩,rfl,⟨by simp only;omega,by simp only;omega,by simp only;omega,by simp only;omega,?_⟩,rfl,?_⟩
  ·simp only;omega
  ·simp only[show(i+1).toNat=i.toNat+1 by omega];omega
  ·simp only[z8,Out.run,show(i+1).toNat=i.toNat+1 by omega]
   exact ho
 ·rw[eH l i.toNat (by omega),iY,aa5 (show ¬ 0<=left from hl),aa6] at ho
  exact ho
 ·rw[aa9 (by omega)] at ho
  exact ho
noncomputable def Ia(κ:Kp)(r:Nat):Env:=(zo κ r).ak 94 5 (aO 0 J6 (F4 r) z8)
theorem y54(κ:Kp)(r:Nat)(op:Int)(s:ByteArray)(n:Int)(l:List AV)(left:Int)(K:AV->List Dn.Obj->Prop):(ba (Ia κ r) 12 94 [.agg [.int op, .lit (.string s), .int n, .ad 56 l], .int left] [] K)=(
 aD (decide ((↑(ByteArray.size s):Int)>(1000:Int))) (K (AV.int (-1)) []) (af (Pg.toProgram (Env.P (zo κ r))) 94 5=af (Pg.toProgram (Env.P
 (zo κ r))) 94 5/\∃(a:Vx),sp 31 [(1,AV.int (IntKind.wrap IntKind.i64 (left - (1:Int)))),(2,AV.ptr 0 0 [] 0),(5,AV.int 0)] [Obj.box 56 (AV.agg
 [AV.int op,AV.str s,AV.int n,AV.ad 56 l])]=sp 31 [(1,AV.int a.left),(2,AV.ptr 0 0 [] 0),(5,AV.int a.i)] [Obj.box 56 (AV.agg [AV.int a.op,AV.str
 a.s,AV.int a.n,AV.ad 56 a.l])]/\((-1:Int)<=a.left/\a.i+a.left<=(100000:Int)/\(0:Int)<=a.i/\a.i<=(↑(a.l.length):Int)/\aZ (aa
 (List.drop a.i.toNat a.l))<=r)/\K (AV.int (iY (aa (List.drop a.i.toNat a.l)) a.left)) [])):=by kernel_rfl
theorem WX(κ:Kp)(r:Nat)(hp:iu (Pr κ) 94 (below Q5 Ee r)):aB (Ia κ r)/\aj (Ia κ r)/\(Ia κ r).P=Pr κ:=
 have h:aB (zo κ r):=(e8 κ).fj hp
 have hm:aj (zo κ r):=(m8 κ).aH
 ⟨h.ak hm (l54 κ r),hm.ak aG,rfl⟩
theorem p54(κ:Kp)(r:Nat):cQ (Ia κ r) 12 94 (fun xs=>bif Nat.beq (Ee xs) r then Q5 xs else none):=by
 intro args x hh
 cases hb:Nat.beq (Ee args) r with
 |false=>simp only[hb] at hh;cases hh
 | true=>
  simp only[hb,aa8] at hh
  unfold Q5 at hh
  split at hh
  ·rename_i op s n l left
   simp only[aa4,ab0,aa2,aa1] at hh
   obtain⟨⟨h1,h2⟩,rfl⟩:=hh
   have hr:aZ (aa l)=r:=Nat.eq_of_beq_eq_true hb
   refine⟨_,rfl,rfl,?_⟩
   refine Eq.mpr (y54 κ r op s n l left _) ?_
   rw[ah,aa1,aa3]
   refine⟨fun e=>?_,fun e=>?_⟩
   ·unfold Tm.size;rw[aa7 (show(1000:Int)<s.size from e)];rfl
   ·rw[aV (n:=left - 1) (by omega) (by omega)]
    refine⟨rfl,⟨op,s,n,l,left - 1,0⟩,rfl,⟨by simp only;omega,by simp only;omega,by simp only;omega,by simp only;omega,?_⟩,?_⟩
    ·simp only[ab8,ab1];omega
    ·unfold Tm.size;rw[aa5 (show ¬ (1000:Int)<s.size from e)];rfl
  ·cases hh
theorem q54(κ:Kp):iu (Pr κ) 94 Q5:=aB.vH Q5 Ee (Ia κ) (WX κ) (p54 κ)
noncomputable def NS(κ:Kp):Env:=(E8 κ).aH 94 Q5
theorem e54(κ:Kp):aB (NS κ):=(e8 κ).fj (q54 κ)
theorem Yp(κ:Kp):aj (NS κ):=(m8 κ).aH
structure Vu where
 s:ByteArray
 l:List AV
 left:Int
 i:Int
abbrev Jp(a:Vu):S:=sp 29 [(1, .int a.left),(2, .ptr 0 0 [] 0),(5, .int a.i)] [.box 63 (.agg [.lit (.string a.s), .ad 56 a.l])]
theorem x53(κ:Kp)(a:Vu)(I:Nat->S->Prop)(n:Nat)(K:Exit->S->Prop):(vc (NS κ) 12 93 none 0 (af (Pr κ).toProgram 93 4) (Jp a) (bJ (NS κ) 93 4 0 I n K))=(
 letI z1:=nth a.l a.i.toNat
 letI z2:=K (Exit.exit 0) (sp 29 [(1,AV.int a.left)] [])
 letI z3:=a.i<(↑(a.l.length):Int)
 aD (decide z3) (aD (decide (a.left>=(0:Int))) (a7 (decide ((0:Int)<=a.i)&&decide z3) (a7 (decide ((0:Int)<=a.left)&&decide (a.left<=(100000:
 Int))) (∃(e0:Nat),e0<n/\I e0 (sp 29 [(1,AV.int (Tm.size (Tm.mk (toInt (ae z1 0)) (toStr (ae z1 1)) (toInt (ae z1 2)) (aa (ai (ae z1 3)))) a.left)),(2,
 AV.ptr 0 0 [] 0),(5,AV.int (IntKind.wrap IntKind.i64 (a.i+(1:Int))))] [Obj.box 63 (AV.agg [AV.str a.s,AV.ad 56 a.l])])))) z2) z2):=by kernel_rfl
def Fh(a:Vu):Prop:= -1<=a.left/\a.i+a.left<=100000/\0<=a.i/\a.i<=a.l.length
def zl(a:Vu):Out (Exit×S):= .one (.exit 0,sp 29 [(1, .int (iY (aa (a.l.drop a.i.toNat)) a.left))] [])
theorem l53(κ:Kp):bj (NS κ) 12 93 4 (aO 0 Jp Fh zl):=by
 refine aK (fun a=>a.l.length - a.i.toNat) ?_
 rintro⟨s,l,left,i⟩ K ⟨h1,h2,h3,h4⟩ ho
 simp only at h1 h2 h3 h4
 rw[show(NS κ).P=Pr κ from rfl]
 refine Eq.mpr (x53 κ ⟨s,l,left,i⟩ _ _ K) ?_
 simp only[zl,Out.run] at ho
 simp only[ah,an,aa1,aa3,aa2,←dh]
 refine⟨fun hi=>⟨fun hl=>⟨⟨h3,hi⟩,?_⟩,fun hl=>?_⟩,fun hi=>?_⟩
 ·have hz:=Tm.size_le (cR (nth l i.toNat)) left hl
  rw[eH l i.toNat (by omega),iY,aa7 hl,aa8] at ho
  rw[aV (n:=i+1) (by omega) (by omega)]
  refine⟨⟨hl,by omega⟩,_,?_,⟨s,l,(cR (nth l i.toNat)).size left,i+1⟩,rfl,⟨by simp only;omega,by simp only;omega,by simp only;omega,by simp only;omega⟩,rfl,?_⟩
  ·simp only;omega
  ·simp only[zl,Out.run,show(i+1).toNat=i.toNat+1 by omega]
   exact ho
 ·rw[eH l i.toNat (by omega),iY,aa5 (show ¬ 0<=left from hl),aa6] at ho
  exact ho
 ·rw[aa9 (by omega)] at ho
  exact ho
noncomputable def JZ(κ:Kp):Env:=(NS κ).ak 93 4 (aO 0 Jp Fh zl)
theorem WT(κ:Kp):aB (JZ κ):=(e54 κ).ak (Yp κ) (l53 κ)
theorem U4(κ:Kp):aj (JZ κ):=(Yp κ).ak aG
theorem y53(κ:Kp)(s:ByteArray)(l:List AV)(left:Int)(K:AV->List Dn.Obj->Prop):(ba (JZ κ) 12 93 [.agg [.lit (.string s), .ad 56 l], .int left] [] K)=(
 letI z1:=Pg.toProgram (Env.P (NS κ))
 aD (decide ((↑(ByteArray.size s):Int)>(1000:Int))) (K (AV.int (-1)) []) (af z1 93 4=af z1 93 4/\∃(e0:Vu),sp 29 [(1,AV.int left),(2,AV.ptr 0 0 []
 0),(5,AV.int 0)] [Obj.box 63 (AV.agg [AV.str s,AV.ad 56 l])]=sp 29 [(1,AV.int e0.left),(2,AV.ptr 0 0 [] 0),(5,AV.int e0.i)] [Obj.box 63 (AV.agg
 [AV.str e0.s,AV.ad 56 e0.l])]/\((-1:Int)<=e0.left/\e0.i+e0.left<=(100000:Int)/\(0:Int)<=e0.i/\e0.i<=(↑(e0.l.length):Int))/\K (AV.int (iY (aa
 (List.drop e0.i.toNat e0.l)) e0.left)) [])):=by kernel_rfl
def WA:List AV->Option (Bool×AV)
 |[.agg [.lit (.string s), .ad 56 l], .lit (.int .i64 left)]=>some (decide (-1<=left)&&decide (left<=100000), .int (dA ⟨s,aa l⟩ left))
 |_=>none
theorem p53(κ:Kp):cQ (JZ κ) 12 93 WA:=by
 intro args x hh
 unfold WA at hh
 split at hh
 ·rename_i s l left
  simp only[aa4,ab0,aa2,aa1] at hh
  obtain⟨⟨h1,h2⟩,rfl⟩:=hh
  refine⟨_,rfl,rfl,?_⟩
  refine Eq.mpr (y53 κ s l left _) ?_
  rw[ah,aa1,aa3]
  refine⟨fun e=>?_,fun e=>?_⟩
  ·unfold dA;rw[aa7 (show(1000:Int)<s.size from e)];rfl
  ·refine⟨rfl,⟨s,l,left,0⟩,rfl,⟨h1,by simp only;omega,by simp only;omega,by simp only;omega⟩,?_⟩
   unfold dA;rw[aa5 (show ¬ (1000:Int)<s.size from e)];rfl
 ·cases hh
noncomputable def Oh(κ:Kp):Env:=(JZ κ).aH 93 WA
theorem e53(κ:Kp):aB (Oh κ):=(WT κ).aH (U4 κ) (p53 κ)
theorem ZV(κ:Kp):aj (Oh κ):=(U4 κ).aH
structure SB where
 a:cm
 left:Int
 i:Int
abbrev Co(a:SB):S:=sp 52 [(1, .int a.left),(2, .ptr 0 0 [] 0),(5, .int a.i)] [.box 66 (ar a.a)]
theorem x38(κ:Kp)(a:SB)(I:Nat->S->Prop)(n:Nat)(K:Exit->S->Prop):(vc (Oh κ) 12 55 none 0 (af (Pr κ).toProgram 55 3) (Co a) (bJ (Oh κ) 55 3 0 I n K))=(
 letI z1:=nth a.a.bl a.i.toNat
 letI z3:=Tm.mk (toInt (ae (ae z1 2) 0)) (toStr (ae (ae z1 2) 1)) (toInt (ae (ae z1 2) 2)) (aa (ai (ae (ae z1 2) 3)))
 letI z4:=AV.agg [AV.agg [AV.str a.a.rel,AV.ad 56 a.a.hl],AV.ad 72 a.a.bl,AV.int a.a.line]
 letI z6:=ai (ae (ae z1 1) 1)
 letI z7:=ae (ae z1 1) 0
 letI z9:=IntKind.wrap IntKind.i64 (a.i+(1:Int))
 letI z10:=Tm.mk (toInt (ae (ae z1 3) 0)) (toStr (ae (ae z1 3) 1)) (toInt (ae (ae z1 3) 2)) (aa (ai (ae (ae z1 3) 3)))
 letI z13:=K (Exit.exit 0) (sp 52 [(1,AV.int a.left)] [])
 letI z14:=a.i<(↑(List.length a.a.bl):Int)
 letI z5:=decide ((0:Int)<=a.i)&&decide z14
 letI z15:=a.left - (1:Int)
 letI z2:=IntKind.wrap IntKind.i64 z15
 letI z11:=dA {rel:=toStr z7,l:=aa z6} z2
 letI z12:=dA {rel:=toStr z7,l:=aa z6} z2
 letI z16:=(100000:Int)
 letI z8:=decide ((0:Int)<=dA {rel:=toStr z7,l:=aa z6} z2)&&decide (dA {rel:=toStr z7,l:=aa z6} z2<=z16)
 aD (decide z14) (aD (decide (a.left>=(0:Int))) (a7 z5 (a7 (decide ((-1:Int)<=IntKind.wrap IntKind.i64 z15)&&decide (IntKind.wrap IntKind.i64 z15<=z16)) (aD (decide (dA {rel:=toStr z7,l:=aa z6} z2>=(0:Int))) (a7 z5 (a7 z8 (aD (decide (Tm.size z3 z11>=(0:Int))) (a7 z5 (a7 (decide ((0:Int)<=Tm.size z3 z12)&&decide (Tm.size z3 z11<=z16)) (∃(e0:Nat),e0<n/\I e0 (sp 52 [(1,AV.lit (Value.int IntKind.i64 (Tm.size z10 (Tm.size z3 z11)))),(2,AV.ptr 0 0 [] 0),(5,AV.int z9)] [Obj.box 66 z4])))) (∃(e0:Nat),e0<n/\I e0 (sp 52 [(1,AV.lit (Value.int IntKind.i64 (Tm.size z3 z12))),(2,AV.ptr 0 0 [] 0),(5,AV.int z9)] [Obj.box 66 z4]))))) (aD (decide (dA {rel:=toStr z7,l:=aa z6} z2>=(0:Int))) (a7 z5 (a7 z8 (∃(e0:Nat),e0<n/\I e0 (sp 52 [(1,AV.lit (Value.int IntKind.i64 (Tm.size z10 z12))),(2,AV.ptr 0 0 [] 0),(5,AV.int z9)] [Obj.box 66 z4])))) (∃(e0:Nat),e0<n/\I e0 (sp 52 [(1,AV.lit (Value.int IntKind.i64 z11)),(2,AV.ptr 0 0 [] 0),(5,AV.int z9)] [Obj.box 66 z4])))))) z13) z13):=by kernel_rfl
def AN(a:SB):Prop:= -1<=a.left/\a.i+a.left<=100000/\0<=a.i/\a.i<=a.a.bl.length
def we(a:SB):Out (Exit×S):= .one (.exit 0,sp 52 [(1, .int (lf (dg (a.a.bl.drop a.i.toNat)) a.left))] [])
theorem l38(κ:Kp):bj (Oh κ) 12 55 3 (aO 0 Co AN we):=by
 refine aK (fun a=>a.a.bl.length - a.i.toNat) ?_
 rintro⟨a,left,i⟩ K ⟨h1,h2,h3,h4⟩ ho
 simp only at h1 h2 h3 h4
 rw[show(Oh κ).P=Pr κ from rfl]
 refine Eq.mpr (x38 κ ⟨a,left,i⟩ _ _ K) ?_
 simp only[we,Out.run] at ho
 by_cases hi:i<a.bl.length
 ·by_cases hl:left>=0
  ·have hk:i.toNat<a.bl.length:=by omega
   rw[nT a.bl i.toNat hk,lf,aa7 hl,aa8] at ho
   have hA:(⟨toStr (ae (ae (nth a.bl i.toNat) 1) 0),aa (ai (ae (ae (nth a.bl i.toNat) 1) 1))⟩:At)=(cE (nth a.bl i.toNat)).a:=rfl
   have hX:cR (ae (nth a.bl i.toNat) 2)=(cE (nth a.bl i.toNat)).x:=rfl
   have hY:cR (ae (nth a.bl i.toNat) 3)=(cE (nth a.bl i.toNat)).y:=rfl
   have hz:=rG (cE (nth a.bl i.toNat)) left hl
   have hz1:=lS (cE (nth a.bl i.toNat)).a (left - 1) (by omega)
   have hz2:=Tm.size_le (cE (nth a.bl i.toNat)).x (dA (cE (nth a.bl i.toNat)).a (left - 1))
   have go: ∀z,sizeLt (cE (nth a.bl i.toNat)) left=z->∃m,m<a.bl.length - i.toNat/\fm Co AN we (fun a=>a.a.bl.length - a.i.toNat) K m (Co ⟨a,z,i+1⟩):=by
    rintro z rfl
    refine⟨_,?_,⟨a,sizeLt (cE (nth a.bl i.toNat)) left,i+1⟩,rfl,⟨by simp only;omega,by simp only;omega,by simp only;omega,by simp only;omega⟩,rfl,?_⟩
    ·simp only;omega
    ·simp only[we,Out.run,show(i+1).toNat=i.toNat+1 by omega]
     exact ho
   simp only[aV (n:=i+1) (by omega) (by omega),aV (n:=left - 1) (by omega) (by omega),hA,←dh,hX,hY]
   simp only[ah,an,aa1,aa3,aa2]
   refine⟨fun _=>⟨fun _=>⟨⟨h3,hi⟩,⟨by omega,by omega⟩,fun e1=>⟨⟨h3,hi⟩,⟨e1,by omega⟩,fun e2=>⟨⟨h3,hi⟩,⟨e2,by have:=hz2 e1;omega⟩,go _ ?_⟩,fun e2=>go _ ?_⟩,fun e1=>⟨fun e=>absurd e e1,fun _=>go _ ?_⟩⟩,fun e=>absurd hl e⟩,fun e=>absurd hi e⟩
   ·unfold sizeLt;rw[aa7 (show 0<=dA (cE (nth a.bl i.toNat)).a (left - 1) from e1),aa8,aa7 (show 0<=(cE (nth a.bl i.toNat)).x.size _ from e2),aa8]
   ·unfold sizeLt;rw[aa7 (show 0<=dA (cE (nth a.bl i.toNat)).a (left - 1) from e1),aa8,aa5 (show ¬ 0<=(cE (nth a.bl i.toNat)).x.size _ from e2),aa6]
   ·unfold sizeLt;rw[aa5 (show ¬ 0<=dA (cE (nth a.bl i.toNat)).a (left - 1) from e1),aa6];rfl
  ·rw[nT a.bl i.toNat (by omega),lf,aa5 (show ¬ 0<=left from hl),aa6] at ho
   rw[aa7 (show i<(a.bl.length:Int) from hi),aa5 hl]
   exact ho
 ·rw[aa9 (by omega)] at ho
  rw[aa5 (show ¬ i<(a.bl.length:Int) from hi)]
  exact ho
noncomputable def My(κ:Kp):Env:=(Oh κ).ak 55 3 (aO 0 Co AN we)
theorem Yl(κ:Kp):aB (My κ):=(e53 κ).ak (ZV κ) (l38 κ)
theorem SF(κ:Kp):aj (My κ):=(ZV κ).ak aG
theorem y38(κ:Kp)(a:cm)(left:Int)(K:AV->List Dn.Obj->Prop):(ba (My κ) 12 55 [ar a, .int left] [] K)=(
 letI z1:=left - (1:Int)
 letI z2:=Pg.toProgram (Env.P (Oh κ))
 a7 (decide ((-1:Int)<=IntKind.wrap IntKind.i64 z1)&&decide (IntKind.wrap IntKind.i64 z1<=(100000:Int))) (af z2 55 3=af z2 55 3/\∃(e0:SB),sp 52 [(1,AV.lit (Value.int IntKind.i64 (dA {rel:=a.rel,l:=aa a.hl} (IntKind.wrap IntKind.i64 z1)))),(2,AV.ptr 0 0 [] 0),(5,AV.int 0)] [Obj.box 66 (AV.agg [AV.agg [AV.str a.rel,AV.ad 56 a.hl],AV.ad 72 a.bl,AV.int a.line])]=sp 52 [(1,AV.int e0.left),(2,AV.ptr 0 0 [] 0),(5,AV.int e0.i)] [Obj.box 66 (AV.agg [AV.agg [AV.str e0.a.rel,AV.ad 56 e0.a.hl],AV.ad 72 e0.a.bl,AV.int e0.a.line])]/\((-1:Int)<=e0.left/\e0.i+e0.left<=(100000:Int)/\(0:Int)<=e0.i/\e0.i<=(↑(List.length e0.a.bl):Int))/\K (AV.lit (Value.int IntKind.i64 (lf (dg (List.drop e0.i.toNat e0.a.bl)) e0.left))) [])):=by kernel_rfl
def Wc:List AV->Option (Bool×AV)
 |[.agg [.agg [.lit (.string rel), .ad 56 hl], .ad 72 bl, .lit (.int .i64 _)], .lit (.int .i64 left)]=>some (decide (0<=left)&&decide (left<=100000), .int (lQ ⟨⟨rel,aa hl⟩,dg bl⟩ left))
 |_=>none
theorem p38(κ:Kp):cQ (My κ) 12 55 Wc:=by
 intro args x hh
 unfold Wc at hh
 split at hh
 ·rename_i rel hl bl line left
  simp only[aa4,ab0,aa2,aa1] at hh
  obtain⟨⟨h1,h2⟩,rfl⟩:=hh
  refine⟨_,rfl,rfl,?_⟩
  refine Eq.mpr (y38 κ ⟨[],[],rel,hl,bl,line,0⟩ left _) ?_
  have hz1:=lS ⟨rel,aa hl⟩ (left - 1) (by omega)
  simp only[aV (n:=left - 1) (by omega) (by omega)]
  rw[an,aa2,aa1,aa1]
  exact⟨⟨by omega,by omega⟩,trivial,⟨⟨[],[],rel,hl,bl,line,0⟩,dA ⟨rel,aa hl⟩ (left - 1),0⟩,rfl,⟨by simp only;omega,by simp only;omega,by simp only;omega,by simp only;omega⟩,rfl⟩
 ·cases hh
noncomputable def MW(κ:Kp):Env:=(My κ).aH 55 Wc
theorem e38(κ:Kp):aB (MW κ):=(Yl κ).aH (SF κ) (p38 κ)
theorem YE(κ:Kp):aj (MW κ):=(SF κ).aH
abbrev Jw(a:List AV×Int):S:=sp 16 [(0, .ad 9 a.1),(3, .int a.2)] []
theorem x37(κ:Kp)(l:List AV)(i:Int)(I:Nat->S->Prop)(n:Nat)(K:Exit->S->Prop):(vc (MW κ) 12 54 none 0 (af (Pr κ).toProgram 54 2) (Jw (l,i)) (bJ (MW κ) 54 2 0 I n K))=(
 letI z1:=i<(↑(l.length):Int)
 aD (decide z1) (a7 (decide ((0:Int)<=i)&&decide z1) (aD (decide ((↑(ByteArray.size (toStr (nth l i.toNat))):Int)>(1000:Int))) (K Exit.ret (sp 16 [(2,
 AV.bool true)] [])) (∃(e0:Nat),e0<n/\I e0 (sp 16 [(0,AV.ad 9 l),(3,AV.int (IntKind.wrap IntKind.i64 (i+(1:Int))))] [])))) (K (Exit.exit 0) (sp 16
 [] []))):=by kernel_rfl
def Gd(a:List AV×Int):Prop:=a.1.length<=aR/\0<=a.2/\a.2<=a.1.length
def Ae(a:List AV×Int):Out (Exit×S):= .aD (sR (a.1.drop a.2.toNat)) (.one (.ret,sp 16 [(2, .bool true)] [])) (.one (.exit 0,sp 16 [] []))
theorem l37(κ:Kp):bj (MW κ) 12 54 2 (aO 0 Jw Gd Ae):=by
 refine aK (fun a=>a.1.length - a.2.toNat) ?_
 rintro⟨l,i⟩ K ⟨h1,h2,h3⟩ ho
 simp only at h1 h2 h3
 rw[show(MW κ).P=Pr κ from rfl]
 refine Eq.mpr (x37 κ l i _ _ K) ?_
 simp only[aR] at h1
 simp only[Ae,Out.run,ah] at ho
 simp only[ah,an,aa1,aa3,aa2]
 refine⟨fun hi=>⟨⟨h2,hi⟩,?_⟩,fun hi=>?_⟩
 ·rw[ab2 (show i.toNat<l.length by omega),←bf l i.toNat (by omega)] at ho
  simp only[sR,List.any_cons] at ho
  refine⟨fun e=>ho.1 (by rw[aa7 (show(1000:Int)<_ from e)];rfl),fun e=>?_⟩
  rw[aa5 (show ¬ (1000:Int)<_ from e),Bool.false_or] at ho
  rw[aV (n:=i+1) (by omega) (by omega)]
  refine⟨_,?_,(l,i+1),rfl,⟨by simpa[aR] using h1,by simp only;omega,by simp only;omega⟩,rfl,?_⟩
  ·simp only;omega
  ·simp only[Ae,Out.run,ah,show(i+1).toNat=i.toNat+1 by omega]
   exact ho
 ·rw[aa9 (by omega)] at ho
  exact ho.2 rfl
noncomputable def LK(κ:Kp):Env:=(MW κ).ak 54 2 (aO 0 Jw Gd Ae)
theorem Yi(κ:Kp):aB (LK κ):=(e38 κ).ak (YE κ) (l37 κ)
theorem UY(κ:Kp):aj (LK κ):=(YE κ).ak aG
theorem y37(κ:Kp)(l:List AV)(K:AV->List Dn.Obj->Prop):(ba (LK κ) 12 54 [.ad 9 l] [] K)=(
 letI z1:=Pg.toProgram (Env.P (MW κ))
 af z1 54 2=af z1 54 2/\∃(e0:List AV×Int),sp 16 [(0,AV.ad 9 l),(3,AV.int 0)] []=sp 16 [(0,AV.ad 9 e0.1),(3,AV.int e0.2)] []/\(e0.1.length<=
 9223372036854775807/\(0:Int)<=e0.2/\e0.2<=(↑(e0.1.length):Int))/\aD (sR (List.drop e0.2.toNat e0.1)) (K (AV.bool true) []) (K (AV.bool false) [])):=by kernel_rfl
def Xr:List AV->Option (Bool×AV)
 |[.ad 9 l]=>some (decide (l.length<=aR), .bool (sR l))
 |_=>none
theorem p37(κ:Kp):cQ (LK κ) 12 54 Xr:=by
 intro args x hh
 unfold Xr at hh
 split at hh
 ·rename_i l
  simp only[aa4,ab0,aa1] at hh
  obtain⟨h1,rfl⟩:=hh
  refine⟨_,rfl,rfl,?_⟩
  refine Eq.mpr (y37 κ l _) ?_
  refine⟨rfl,(l,0),rfl,⟨h1,by simp only;omega,by simp only;omega⟩,?_⟩
  rw[ah]
  exact⟨fun e=>by rw[show sR l=true from e],fun e=>by rw[show sR l=false from e]⟩
 ·cases hh
noncomputable def Om(κ:Kp):Env:=(LK κ).aH 54 Xr
theorem e37(κ:Kp):aB (Om κ):=(Yi κ).aH (UY κ) (p37 κ)
theorem ZW(κ:Kp):aj (Om κ):=(UY κ).aH
structure L7 where
 ds:List AV
 rs:List AV
 left:Int
 i:Int
abbrev Ij(a:L7):AV:= .agg [.ad 61 a.ds, .ad 66 a.rs]
abbrev Gl(a:L7):S:=sp 62 [(1, .ptr 0 0 [] 0),(3, .int a.left),(4, .int a.i)] [.box 25 (Ij a)]
theorem X3(κ:Kp)(a:L7)(I:Nat->S->Prop)(n:Nat)(K:Exit->S->Prop):(vc (Om κ) 12 26 none 0 (af (Pr κ).toProgram 26 3) (Gl a) (bJ (Om κ) 26 3 0 I n K))=(
 letI z2:=K Exit.ret (sp 62 [(2,AV.int 0)] [])
 letI z3:=AV.agg [AV.ad 61 a.ds,AV.ad 66 a.rs]
 letI z4:=nth a.ds a.i.toNat
 letI z5:=a.i<(↑(a.ds.length):Int)
 letI z1:=decide ((0:Int)<=a.i)&&decide z5
 aD (decide z5) (a7 z1 (aD (decide ((↑(ByteArray.size (toStr (ae z4 0))):Int)>(1000:Int))) z2 (a7 z1 (a7 (decide (List.length (ai (ae z4 1))<=
 9223372036854775807)) (aD (sR (ai (ae z4 1))) z2 (∃(e0:Nat),e0<n/\I e0 (sp 62 [(1,AV.ptr 0 0 [] 0),(3,AV.int a.left),(4,AV.int (IntKind.wrap
 IntKind.i64 (a.i+(1:Int))))] [Obj.box 25 z3]))))))) (K (Exit.exit 0) (sp 62 [(1,AV.ptr 0 0 [] 0),(3,AV.int a.left)] [Obj.box 25 z3]))):=by kernel_rfl
def Ak(a:L7):Prop:=a.ds.length<=aR/\(∀d,d∈a.ds->(ai (ae d 1)).length<=aR)/\0<=a.i/\a.i<=a.ds.length
def vu(a:L7):Out (Exit×S):= .aD ((a.ds.drop a.i.toNat).any HN) (.one (.ret,sp 62 [(2, .int 0)] [])) (.one (.exit 0,sp 62 [(1, .ptr 0 0 [] 0),(3, .int a.left)] [.box 25 (Ij a)]))
theorem Xs(κ:Kp):bj (Om κ) 12 26 3 (aO 0 Gl Ak vu):=by
 refine aK (fun a=>a.ds.length - a.i.toNat) ?_
 rintro⟨ds,rs,left,i⟩ K ⟨h1,h1',h2,h3⟩ ho
 simp only at h1 h1' h2 h3
 rw[show(Om κ).P=Pr κ from rfl]
 refine Eq.mpr (X3 κ ⟨ds,rs,left,i⟩ _ _ K) ?_
 simp only[aR] at h1
 simp only[vu,Out.run,ah] at ho
 simp only[ah,an,aa2,aa1,aa3]
 refine⟨fun hi=>⟨⟨h2,hi⟩,?_⟩,fun hi=>?_⟩
 ·have hi':i.toNat<ds.length:=by omega
  have hm:nth ds i.toNat∈ds:=by rw[bf ds _ hi'];exact List.getElem_mem _
  rw[ab2 hi',←bf ds i.toNat hi'] at ho
  simp only[List.any_cons,HN] at ho
  have go:(∀h:((ds.drop (i.toNat+1)).any HN=true->K .ret (sp 62 [(2, .int 0)] []))/\((ds.drop (i.toNat+1)).any HN=false->K (.exit 0) (sp 62 [(1, .ptr 0 0 [] 0),(3, .int left)] [.box 25 (Ij ⟨ds,rs,left,i⟩)])),∃m,m<ds.length - i.toNat/\fm Gl Ak vu (fun a=>a.ds.length - a.i.toNat) K m (sp 62 [(1, .ptr 0 0 [] 0),(3, .int left),(4, .int (IntKind.wrap .i64 (i+1)))] [.box 25 (Ij ⟨ds,rs,left,i⟩)])):=by
   intro h
   rw[aV (n:=i+1) (by omega) (by omega)]
   refine⟨_,?_,⟨ds,rs,left,i+1⟩,rfl,⟨by simpa[aR] using h1,h1',by simp only;omega,by simp only;omega⟩,rfl,?_⟩
   ·simp only;omega
   ·simp only[vu,Out.run,ah,show(i+1).toNat=i.toNat+1 by omega]
    exact h
  refine⟨fun e1=>ho.1 (by rw[aa7 (show(1000:Int)<_ from e1)];rfl),fun e1=>⟨⟨h2,hi⟩,h1' _ hm,fun e2=>ho.1 (by rw[e2];simp),fun e2=>go ?_⟩⟩
  rw[aa5 (show ¬ (1000:Int)<_ from e1),e2] at ho
  exact ho
 ·rw[aa9 (by omega)] at ho
  exact ho.2 rfl
noncomputable def AL(κ:Kp):Env:=(Om κ).ak 26 3 (aO 0 Gl Ak vu)
theorem Wb(κ:Kp):aB (AL κ):=(e37 κ).ak (ZW κ) (Xs κ)
theorem U2(κ:Kp):aj (AL κ):=(ZW κ).ak aG
abbrev Ki(a:L7):S:=sp 62 [(1, .ptr 0 0 [] 0),(3, .int a.left),(5, .int a.i)] [.box 25 (Ij a)]
theorem Xw(κ:Kp)(a:L7)(I:Nat->S->Prop)(n:Nat)(K:Exit->S->Prop):(vc (AL κ) 12 26 none 0 (af (Pr κ).toProgram 26 8) (Ki a) (bJ (AL κ) 26 8 0 I n K))=(
 letI z2:=AV.agg [AV.ad 61 a.ds,AV.ad 66 a.rs]
 letI z1:=K (Exit.exit 2) (sp 62 [(1,AV.ptr 0 0 [] 0),(3,AV.int a.left)] [Obj.box 25 z2])
 letI z3:=nth a.rs a.i.toNat
 letI z4:=a.i<(↑(a.rs.length):Int)
 aD (decide z4) (aD (decide (a.left>=(0:Int))) (a7 (decide ((0:Int)<=a.i)&&decide z4) (a7 (decide ((0:Int)<=a.left)&&decide (a.left<=(100000:Int))) (∃(e0:Nat),e0<n/\I e0 (sp 62 [(1,AV.ptr 0 0 [] 0),(3,AV.lit (Value.int IntKind.i64 (lQ {head:={rel:=toStr (ae (ae z3 0) 0),l:=aa (ai (ae (ae z3 0) 1))},body:=dg (ai (ae z3 1))} a.left))),(5,AV.int (IntKind.wrap IntKind.i64 (a.i+(1:Int))))] [Obj.box 25 z2])))) z1) z1):=by kernel_rfl
def FC(a:L7):Prop:= -1<=a.left/\a.i+a.left<=100000/\0<=a.i/\a.i<=a.rs.length
def zM(a:L7):Out (Exit×S):= .one (.exit 2,sp 62 [(1, .ptr 0 0 [] 0),(3, .int (lL ((a.rs.drop a.i.toNat).map s6) a.left))] [.box 25 (Ij a)])
theorem XC(κ:Kp):bj (AL κ) 12 26 8 (aO 0 Ki FC zM):=by
 refine aK (fun a=>a.rs.length - a.i.toNat) ?_
 rintro⟨ds,rs,left,i⟩ K ⟨h1,h2,h3,h4⟩ ho
 simp only at h1 h2 h3 h4
 rw[show(AL κ).P=Pr κ from rfl]
 refine Eq.mpr (Xw κ ⟨ds,rs,left,i⟩ _ _ K) ?_
 simp only[zM,Out.run] at ho
 by_cases hi:i<rs.length
 ·have hi':i.toNat<rs.length:=by omega
  rw[ab2 hi',←bf rs i.toNat hi',ac1,lL] at ho
  by_cases hl:left>=0
  ·have hz:=wE (s6 (nth rs i.toNat)) left hl
   rw[aa7 (show 0<=left from hl),aa8] at ho
   rw[aa7 (show i<(rs.length:Int) from hi),aa7 hl,aV (n:=i+1) (by omega) (by omega)]
   simp only[aD,an,aa2,aa1]
   refine⟨⟨h3,trivial⟩,⟨trivial,by omega⟩,_,?_,⟨ds,rs,lQ (s6 (nth rs i.toNat)) left,i+1⟩,rfl,⟨by simp only;omega,by simp only;omega,by simp only;omega,by simp only;omega⟩,rfl,?_⟩
   ·simp only;omega
   ·simp only[zM,Out.run,show(i+1).toNat=i.toNat+1 by omega]
    exact ho
  ·rw[aa5 (show ¬ 0<=left from hl),aa6] at ho
   rw[aa7 (show i<(rs.length:Int) from hi),aa5 hl]
   exact ho
 ·rw[aa9 (by omega)] at ho
  rw[aa5 (show ¬ i<(rs.length:Int) from hi)]
  exact ho
noncomputable def LR(κ:Kp):Env:=(AL κ).ak 26 8 (aO 0 Ki FC zM)
theorem WC(κ:Kp):aB (LR κ):=(Wb κ).ak (U2 κ) (XC κ)
theorem TD(κ:Kp):aj (LR κ):=(U2 κ).ak aG
theorem y22(κ:Kp)(ds rs:List AV)(K:AV->List Dn.Obj->Prop):(ba (LR κ) 12 26 [.agg [.ad 61 ds, .ad 66 rs]] [] K)=(
 letI z1:=K (AV.int 0) []
 letI z2:=Pg.toProgram (Env.P (Om κ))
 letI z3:=Pg.toProgram (Env.P (AL κ))
 af z2 26 3=af z2 26 3/\∃(e1:L7),sp 62 [(1,AV.ptr 0 0 [] 0),(3,AV.int 2000),(4,AV.int 0)] [Obj.box 25 (AV.agg [AV.ad 61 ds,AV.ad 66 rs])]=sp 62
 [(1,AV.ptr 0 0 [] 0),(3,AV.int e1.left),(4,AV.int e1.i)] [Obj.box 25 (AV.agg [AV.ad 61 e1.ds,AV.ad 66 e1.rs])]/\(e1.ds.length<=9223372036854775807/\(∀
 (e0:AV),List.Mem e0 e1.ds->List.length (ai (ae e0 1))<=9223372036854775807)/\(0:Int)<=e1.i/\e1.i<=(↑(e1.ds.length):Int))/\aD (List.any (List.drop
 e1.i.toNat e1.ds) HN) z1 (af z3 26 8=af z3 26 8/\∃(e0:L7),sp 62 [(1,AV.ptr 0 0 [] 0),(3,AV.int e1.left),(5,AV.int 0)] [Obj.box 25 (AV.agg [AV.ad 61
 e1.ds,AV.ad 66 e1.rs])]=sp 62 [(1,AV.ptr 0 0 [] 0),(3,AV.int e0.left),(5,AV.int e0.i)] [Obj.box 25 (AV.agg [AV.ad 61 e0.ds,AV.ad 66 e0.rs])]/\((-1:
 Int)<=e0.left/\e0.i+e0.left<=(100000:Int)/\(0:Int)<=e0.i/\e0.i<=(↑(e0.rs.length):Int))/\aD (decide (lL (List.map s6 (List.drop e0.i.toNat
 e0.rs)) e0.left<(0:Int))) z1 (aD (decide ((↑(e0.ds.length):Int)>(100:Int))) z1 (aD (decide ((↑(e0.rs.length):Int)>(300:Int))) z1 (K (AV.int 1)
 []))))):=by kernel_rfl
def g22:List AV->Option (Bool×AV)
 |[.agg [.ad 61 ds, .ad 66 rs]]=>some (decide (ds.length<=aR)&&ds.all (fun d=>decide ((ai (ae d 1)).length<=aR)), .int (bif jM ds rs then 1 else 0))
 |_=>none
theorem p22(κ:Kp):cQ (LR κ) 12 26 g22:=by
 intro args x hh
 unfold g22 at hh
 split at hh
 ·rename_i ds rs
  simp only[aa4,ab0,aa2,aa1,List.all_eq_true] at hh
  obtain⟨⟨h1,h2⟩,rfl⟩:=hh
  refine⟨_,rfl,rfl,?_⟩
  refine Eq.mpr (y22 κ ds rs _) ?_
  refine⟨rfl,⟨ds,rs,2000,0⟩,rfl,⟨h1,h2,by simp only;omega,by simp only;omega⟩,?_⟩
  simp only[ab8,ab1,ah]
  refine⟨fun e=>?_,fun e=>⟨trivial,⟨ds,rs,2000,0⟩,rfl,⟨by simp only;omega,by simp only;omega,by simp only;omega,by simp only;omega⟩,?_⟩⟩
  ·unfold jM;rw[e];rfl
  ·simp only[ab8,ab1,aa1,aa3]
   refine⟨fun e1=>?_,fun e1=>⟨fun e2=>?_,fun e2=>⟨fun e3=>?_,fun e3=>?_⟩⟩⟩
   ·unfold jM;rw[e,aa5 (show ¬ 0<=lL (rs.map s6) 2000 by omega)];rfl
   ·unfold jM;rw[aa5 (show ¬ ds.length<=100 by omega)];simp
   ·unfold jM;rw[aa5 (show ¬ rs.length<=300 by omega)];simp
   ·unfold jM;rw[e,aa7 (show 0<=lL (rs.map s6) 2000 by omega),aa7 (show ds.length<=100 by omega),aa7 (show rs.length<=300 by omega)];rfl
 ·cases hh
noncomputable def Ye(κ:Kp):Env:=(LR κ).aH 26 g22
theorem e22(κ:Kp):aB (Ye κ):=(WC κ).aH (TD κ) (p22 κ)
theorem m22(κ:Kp):aj (Ye κ):=(TD κ).aH
noncomputable abbrev E9(κ:Kp):Env:=Ye κ
theorem e9(κ:Kp):aB (E9 κ):=e22 κ
theorem m9(κ:Kp):aj (E9 κ):=m22 κ
abbrev W5(s:ByteArray):AV:= .agg [.int 1, .lit (.string s), .int 0, .ad 56 []]
theorem y13(κ:Kp)(s:ByteArray)(K:AV->List Dn.Obj->Prop):(ba (E9 κ) 12 92 [.lit (.string s)] [] K)=(
 K (AV.agg [AV.int 1,AV.str s,AV.int 0,AV.ad 56 []]) []):=by kernel_rfl
def g13:List AV->Option (Bool×AV)
 |[.lit (.string s)]=>some (true,W5 s)
 |_=>none
theorem c13(κ:Kp):qP (E9 κ) 12 92 g13:=by
 intro args x hh
 unfold g13 at hh
 split at hh
 ·rename_i s
  simp only[aa4,ab0,true_and] at hh
  subst hh
  exact⟨rfl,Eq.mpr (y13 κ s _) rfl⟩
 ·cases hh
noncomputable def Vf(κ:Kp):Env:=(E9 κ).fe 92 g13
theorem e13(κ:Kp):aB (Vf κ):=(e9 κ).fe (m9 κ) (c13 κ)
theorem ZD(κ:Kp):aj (Vf κ):=(m9 κ).fe
theorem y14(κ:Kp)(r s t:ByteArray)(K:AV->List Dn.Obj->Prop):(ba (Vf κ) 12 53 [.lit (.string r), .lit (.string s), .lit (.string t)] [] K)=(
 K (AV.agg [AV.str r,AV.ad 56 [AV.agg [AV.int 1,AV.str s,AV.int 0,AV.ad 56 []],AV.agg [AV.int 1,AV.str t,AV.int 0,AV.ad 56 []]]]) []):=by kernel_rfl
def g14:List AV->Option (Bool×AV)
 |[.lit (.string r), .lit (.string s), .lit (.string t)]=>some (true, .agg [.lit (.string r), .ad 56 [W5 s,W5 t]])
 |_=>none
theorem c14(κ:Kp):qP (Vf κ) 12 53 g14:=by
 intro args x hh
 unfold g14 at hh
 split at hh
 ·rename_i r s t
  simp only[aa4,ab0,true_and] at hh
  subst hh
  exact⟨rfl,Eq.mpr (y14 κ r s t _) rfl⟩
 ·cases hh
noncomputable def NM(κ:Kp):Env:=(Vf κ).fe 53 g14
theorem e14(κ:Kp):aB (NM κ):=(e13 κ).fe (ZD κ) (c14 κ)
theorem Zl(κ:Kp):aj (NM κ):=(ZD κ).fe
theorem x15(κ:Kp)(l m:List AV)(i:Int)(I:Nat->S->Prop)(n:Nat)(K:Exit->S->Prop):(vc (NM κ) 12 16 none 0 (af (Pr κ).toProgram 16 4) (sp 26 [(0, .ad 3 l),(1, .ad 3 m),(5, .int i)] []) (bJ (NM κ) 16 4 0 I n K))=(
 letI z1:=i<(↑(l.length):Int)
 aD (decide z1) (a7 (decide ((0:Int)<=i)&&decide z1) (a7 (decide ((0:Int)<=i)&&decide (i<(↑(m.length):Int))) (aD (toInt (nth l i.toNat) != toInt
 (nth m i.toNat)) (K Exit.ret (sp 26 [(4,AV.bool false)] [])) (∃(e0:Nat),e0<n/\I e0 (sp 26 [(0,AV.ad 3 l),(1,AV.ad 3 m),(5,AV.int (IntKind.wrap
 IntKind.i64 (i+(1:Int))))] []))))) (K (Exit.exit 0) (sp 26 [] []))):=by kernel_rfl
def wQ(l m:List AV):Bool:=decide (l.map toInt=m.map toInt)
abbrev PR(a:List AV×List AV×Int):S:=sp 26 [(0, .ad 3 a.1),(1, .ad 3 a.2.1),(5, .int a.2.2)] []
def Gz(a:List AV×List AV×Int):Prop:=a.1.length=a.2.1.length/\a.1.length<=aR/\0<=a.2.2/\a.2.2<=a.1.length
def yx(a:List AV×List AV×Int):Out (Exit×S):= .aD (wQ (a.1.drop a.2.2.toNat) (a.2.1.drop a.2.2.toNat)) (.one (.exit 0,sp 26 [] [])) (.one (.ret,sp 26 [(4, .bool false)] []))
theorem l15(κ:Kp):bj (NM κ) 12 16 4 (aO 0 PR Gz yx):=by
 refine aK (fun a=>a.1.length - a.2.2.toNat) ?_
 rintro⟨l,m,i⟩ K ⟨h1,h2,h3,h4⟩ ho
 simp only at h1 h2 h3 h4
 rw[show(NM κ).P=Pr κ from rfl]
 refine Eq.mpr (x15 κ l m i _ _ K) ?_
 simp only[aR] at h2
 simp only[yx,Out.run,ah] at ho
 simp only[ah,an,aa1,aa3,aa2,bne_iff_ne,bne_eq_false_iff_eq]
 refine⟨fun hi=>⟨⟨h3,hi⟩,⟨h3,by omega⟩,?_⟩,fun hi=>?_⟩
 ·rw[ab2 (show i.toNat<l.length by omega),←bf l i.toNat (by omega),ab2 (show i.toNat<m.length by omega),←bf m i.toNat (by omega)] at ho
  simp only[wQ,ac1,List.cons.injEq] at ho
  refine⟨fun e=>ho.2 (by simp[e]),fun e=>?_⟩
  rw[aV (n:=i+1) (by omega) (by omega)]
  refine⟨_,?_,(l,m,i+1),rfl,⟨h1,by simpa[aR] using h2,by simp only;omega,by simp only;omega⟩,rfl,?_⟩
  ·simp only;omega
  ·simp only[yx,Out.run,ah,show(i+1).toNat=i.toNat+1 by omega,wQ]
   simpa[e] using ho
 ·rw[aa9 (by omega),aa9 (by omega)] at ho
  exact ho.1 rfl
noncomputable def Kb(κ:Kp):Env:=(NM κ).ak 16 4 (aO 0 PR Gz yx)
theorem XP(κ:Kp):aB (Kb κ):=(e14 κ).ak (Zl κ) (l15 κ)
theorem Su(κ:Kp):aj (Kb κ):=(Zl κ).ak aG
theorem y15(κ:Kp)(l m:List AV)(K:AV->List Dn.Obj->Prop):(ba (Kb κ) 12 16 [.ad 3 l, .ad 3 m] [] K)=(
 letI z1:=Pg.toProgram (Env.P (NM κ))
 aD ((↑(l.length):Int) != (↑(m.length):Int)) (K (AV.bool false) []) (af z1 16 4=af z1 16 4/\∃(e0:List AV×List AV×Int),sp 26 [(0,AV.ad 3 l),(1,
 AV.ad 3 m),(5,AV.int 0)] []=sp 26 [(0,AV.ad 3 e0.1),(1,AV.ad 3 e0.2.1),(5,AV.int e0.2.2)] []/\(e0.1.length=e0.2.1.length/\e0.1.length<=
 9223372036854775807/\(0:Int)<=e0.2.2/\e0.2.2<=(↑(e0.1.length):Int))/\aD (wQ (List.drop (Int.toNat e0.2.2) e0.1) (List.drop (Int.toNat e0.2.2) e0.2.1))
 (K (AV.bool true) []) (K (AV.bool false) []))):=by kernel_rfl
def g15:List AV->Option (Bool×AV)
 |[.ad 3 l, .ad 3 m]=>some (decide (l.length<=aR), .bool (wQ l m))
 |_=>none
theorem p15(κ:Kp):cQ (Kb κ) 12 16 g15:=by
 intro args x hh
 unfold g15 at hh
 split at hh
 ·rename_i l m
  simp only[aa4,ab0,aa1] at hh
  obtain⟨h1,rfl⟩:=hh
  refine⟨_,rfl,rfl,?_⟩
  refine Eq.mpr (y15 κ l m _) ?_
  simp only[ah,bne_iff_ne,bne_eq_false_iff_eq]
  refine⟨fun e=>?_,fun e=>⟨trivial,(l,m,0),rfl,⟨by simp only;omega,h1,by simp only;omega,by simp only;omega⟩,?_⟩⟩
  ·have:wQ l m=false:=by
    unfold wQ
    rw[aa5]
    intro h
    have:=congrArg List.length h
    simp at this;omega
   rw[this]
  ·simp only[ab8,ab1]
   exact⟨fun e=>by rw[e],fun e=>by rw[e]⟩
 ·cases hh
noncomputable def Wm(κ:Kp):Env:=(Kb κ).aH 16 g15
theorem e15(κ:Kp):aB (Wm κ):=(XP κ).aH (Su κ) (p15 κ)
theorem m15(κ:Kp):aj (Wm κ):=(Su κ).aH
end Go.Proofs.YthaiinlfnommnaaGreatDoor
namespace Go.Proofs.YthaiinlfnommnaaGreatDoor
open Go Go.Dn Go.Rl Go.Proofs
theorem og{b c:Bool}(h:b=c):AV.bool b= .lit (.bool c):=by rw[h]
theorem Pf(a b:Int):(a==b)=decide (a=b):=by by_cases h:a=b<;>simp[h]
theorem Lf(a b:Int):(a != b)= !decide (a=b):=by by_cases h:a=b<;>simp[h]
structure AT where
 op:Int
 s:ByteArray
 n:Int
 l:List AV
def AT.tm(a:AT):Tm:= .mk a.op a.s a.n (aa a.l)
def xd(x:AV):AT:=⟨toInt (ae x 0),toStr (ae x 1),toInt (ae x 2),ai (ae x 3)⟩
theorem nI(x:AV):(xd x).tm=cR x:=by rw[dh];rfl
abbrev cz(a:AT):AV:= .agg [.int a.op, .lit (.string a.s), .int a.n, .ad 56 a.l]
theorem xh{a:cm}(h:de a):(cW (aF a)).length<=100000:=by
 have h6:=cx (aa (bk 56 a.hl a.bl))
 rw[iG 56 a.rel a.hl a.bl] at h6
 have h7:=kz (fo (aF a)) []
 unfold cW
 cases aM (aF a)
 ·exact Nat.zero_le _
 ·rw[aa8];exact Nat.le_trans h7 (Nat.le_trans h6 h.1)
end Go.Proofs.YthaiinlfnommnaaGreatDoor
