import Derived.Test.YtioeffnadipbaaaGreatDoorDeM4
import Derived.Test.YtioeffnadipbaaaGreatDoorDeM1
namespace Go.Proofs.YtioeffnadipbaaaGreatDoor
open Go Go.Dn Go.Rl Go.Proofs
attribute [local irreducible] ba vc
set_option maxRecDepth 20000
noncomputable abbrev lp8(a:cf)(ws:List AV)(κ:Kp)(st:LoopState)(p:Option Code):Dn.Obj:=
 .loop (iw (Pr κ).toProgram 89 5 st p (ic (bM 63) [(0,au a),(1, .ptr 0 0 [] 0),(2, .ptr 1 0 [] 0),(3, .ptr 2 0 [] 0),(4, .aB 3 0 ws.length),(5, .int 0),(10, .aX [.aB 3 0 ws.length, .int 0]),(11,au a),(12, .aX [.aB 3 0 ws.length, .int 0]),(13, .aB 3 0 ws.length),(14, .int 0),(15, .int 0),(16, .bool false),(18,au a),(19, .bq 169 [.ptr 4 0 [] 0])]))
noncomputable abbrev Ct(κ:Kp)(a:cf)(ws:List AV)(b:Bool)(st:LoopState)(p:Option Code):List Dn.Obj:=[.box 48 (au a), .box 4 (.bool b), .box 32 (.int 0), .row 3 ws, .box 48 (au a),lp8 a ws κ st p]
theorem x8(κ:Kp)(a:cf)(ws:List AV)(es:List (Value×AV))(done:List AV)(i:Int)(I:Nat->S->Prop)(n:Nat)(K:Exit->S->Prop):(vc (MJ κ) 12 169 none 6 (ag (Pr κ).toProgram 169 3) (sp 38 [(0, .de 5),(1, .ptr 4 0 [] 0),(3, .mp 6),(4, .aB 7 0 done.length),(13, .int a.bl.length),(14, .int i)] (Ct κ a ws false .ready none++[.map 9 4 es, .row 4 done])) (bB (MJ κ) 169 3 6 I n K))=(
 letI z1:=ic (bM 63) [(0,au a),(1,AV.ptr 0 0 [] 0),(2,AV.ptr 1 0 [] 0),(3,AV.ptr 2 0 [] 0),(4,AV.aB 3 0 ws.length),(5,AV.int 0),(10,AV.aX [AV.aB 3
  0 ws.length,AV.int 0]),(11,au a),(12,AV.aX [AV.aB 3 0 ws.length,AV.int 0]),(13,AV.aB 3 0 ws.length),(14,AV.int 0),(15,AV.int 0),(16,AV.bool
  false),(18,au a),(19,AV.bq 169 [AV.ptr 4 0 [] 0])]
 letI z3:=iw Tryz.prog 89 5 LoopState.ready none z1
 letI z4:=IntKind.wrap IntKind.i64 (i+(1:Int))
 letI z6:=a.bl.length
 letI z7:=AV.bool false
 letI z5:=sp 38 [] [Obj.box 48 (au a),Obj.box 4 z7,Obj.box 32 (AV.int 0),Obj.row 3 ws,Obj.box 48 (au a),Dn.Obj.loop z3]
 letI z8:=AV.bool true
 letI z2:=K Exit.ret (sp 38 [] [Obj.box 48 (au a),Obj.box 4 z8,Obj.box 32 (AV.int 0),Obj.row 3 ws,Obj.box 48 (au a),Dn.Obj.loop (iw Tryz.prog 89 5
  LoopState.done (some Code.ret) z1)])
 letI z9:=done.length
 letI z10:=Value×AV
 aw (decide (i<(↑z6:Int))) (∃(e5:HY),([au a,AV.aB 0 0 done.length,AV.mp 1],[Obj.row 4 done,Dn.Obj.map 9 4 es])=([au e5.a,AV.aB 0 0 (List.length
 (bV e5.done)),AV.mp 1],[Obj.row 4 (bV e5.done),Dn.Obj.map 9 4 (bL e5.b)])/\(aV (aF e5.a)=true/\(aI (aa (bh 38 e5.a.hl e5.a.bl))<=100000/\List.length
 e5.a.bl<=100000)/\e5.done.length=List.length e5.a.bl)/\aw (decide (aD (aF e5.a) e5.done e5.b<(0:Int))) (K Exit.ret z5) (aP (decide ((0:Int)<=aD (aF
 e5.a) e5.done e5.b)&&decide (aD (aF e5.a) e5.done e5.b<(↑z6:Int))) (aw (toInt (af (nth a.bl (Int.toNat (aD (aF e5.a) e5.done e5.b))) 0)==(3:Int)) (∃
 (e4:TA),([AV.mp 0,AV.agg [AV.int (toInt (af (af (nth a.bl (Int.toNat (aD (aF e5.a) e5.done e5.b))) 2) 0)),AV.str (toStr (af (af (nth a.bl (Int.toNat (aD
 (aF e5.a) e5.done e5.b))) 2) 1)),AV.int (toInt (af (af (nth a.bl (Int.toNat (aD (aF e5.a) e5.done e5.b))) 2) 2)),AV.ad 38 (ah (af (af (nth a.bl (Int.toNat (aD
 (aF e5.a) e5.done e5.b))) 2) 3))],AV.agg [AV.int (toInt (af (af (nth a.bl (Int.toNat (aD (aF e5.a) e5.done e5.b))) 3) 0)),AV.str (toStr (af (af (nth a.bl
 (Int.toNat (aD (aF e5.a) e5.done e5.b))) 3) 1)),AV.int (toInt (af (af (nth a.bl (Int.toNat (aD (aF e5.a) e5.done e5.b))) 3) 2)),AV.ad 38 (ah (af (af (nth a.bl
 (Int.toNat (aD (aF e5.a) e5.done e5.b))) 3) 3))]],[Dn.Obj.map 9 4 (bL e5.b)])=([AV.mp 0,AV.agg [AV.int e4.o1,AV.str e4.s1,AV.int e4.n1,AV.ad 38 e4.l1],
 AV.agg [AV.int e4.o2,AV.str e4.s2,AV.int e4.n2,AV.ad 38 e4.l2]],[Dn.Obj.map 9 4 e4.es])/\iF e4/\aw (lj e4.es (TA.x e4) (TA.y e4)) (aw (decide (toInt (af
 (af (nth a.bl (Int.toNat (aD (aF e5.a) e5.done e5.b))) 3) 0)>=(5:Int))) z2 (∃(e3:TA),([AV.mp 0,AV.agg [AV.int (toInt (af (af (nth a.bl (Int.toNat (aD
 (aF e5.a) e5.done e5.b))) 3) 0)),AV.str (toStr (af (af (nth a.bl (Int.toNat (aD (aF e5.a) e5.done e5.b))) 3) 1)),AV.int (toInt (af (af (nth a.bl (Int.toNat
 (aD (aF e5.a) e5.done e5.b))) 3) 2)),AV.ad 38 (ah (af (af (nth a.bl (Int.toNat (aD (aF e5.a) e5.done e5.b))) 3) 3))],AV.agg [AV.int (toInt (af (af (nth a.bl
 (Int.toNat (aD (aF e5.a) e5.done e5.b))) 2) 0)),AV.str (toStr (af (af (nth a.bl (Int.toNat (aD (aF e5.a) e5.done e5.b))) 2) 1)),AV.int (toInt (af (af (nth
 a.bl (Int.toNat (aD (aF e5.a) e5.done e5.b))) 2) 2)),AV.ad 38 (ah (af (af (nth a.bl (Int.toNat (aD (aF e5.a) e5.done e5.b))) 2) 3))]],[Dn.Obj.map 9 4 e4.es])
 =([AV.mp 0,AV.agg [AV.int e3.o1,AV.str e3.s1,AV.int e3.n1,AV.ad 38 e3.l1],AV.agg [AV.int e3.o2,AV.str e3.s2,AV.int e3.n2,AV.ad 38 e3.l2]],[Dn.Obj.map
 9 4 e3.es])/\iF e3/\aw (lj e3.es (TA.x e3) (TA.y e3)) (aw (decide (toInt (af (af (nth a.bl (Int.toNat (aD (aF e5.a) e5.done e5.b))) 2) 0)>=(5:Int))) z2 (aw
 (decide ((7:Int)<=toInt (af (nth a.bl (Int.toNat (aD (aF e5.a) e5.done e5.b))) 0))) z2 (aP (decide ((0:Int)<=aD (aF e5.a) e5.done e5.b)&&decide (aD (aF
 e5.a) e5.done e5.b<(↑z9:Int))) (∃(e2:cf×Int),([au a,AV.int (aD (aF e5.a) e5.done e5.b)],aJ)=([au e2.1,AV.int e2.2],aJ)/\(aV (aF e2.1)=true/\
 (aI (aa (bh 38 e2.1.hl e2.1.bl))<=100000/\e2.1.bl.length<=100000)/\(0:Int)<=e2.2/\e2.2<(↑(e2.1.bl.length):Int))/\∃(e1:List AV×List z10),
 ([AV.mp 0,AV.ad 9 (strs (cU (aF e2.1) e2.2.toNat))],[Dn.Obj.map 9 4 e3.es])=([AV.mp 0,AV.ad 9 e1.1],[Dn.Obj.map 9 4 e1.2])/\bj e1/\∃(e0:Nat),e0<n
 /\I e0 (sp 38 [(0,AV.de 5),(1,AV.ptr 4 0 [] 0),(3,AV.mp 6),(4,AV.aB 7 0 done.length),(13,AV.int (↑z6:Int)),(14,AV.int z4)] [Obj.box 48 (au a),
 Obj.box 4 z7,Obj.box 32 (AV.int 0),Obj.row 3 ws,Obj.box 48 (au a),Dn.Obj.loop z3,Dn.Obj.map 9 4 (fo e1.2 e1.1),Obj.row 4 (bJ (bV e5.done) (0+Int.toNat
 (aD (aF e5.a) e5.done e5.b)) z8)]))))) (aw (decide ((7:Int)<=toInt (af (nth a.bl (Int.toNat (aD (aF e5.a) e5.done e5.b))) 0))) z2 (aP (decide ((0:Int)<=aD
 (aF e5.a) e5.done e5.b)&&decide (aD (aF e5.a) e5.done e5.b<(↑z9:Int))) (∃(e2:cf×Int),([au a,AV.int (aD (aF e5.a) e5.done e5.b)],aJ)=([au e2.1,
 AV.int e2.2],aJ)/\(aV (aF e2.1)=true/\(aI (aa (bh 38 e2.1.hl e2.1.bl))<=100000/\e2.1.bl.length<=100000)/\(0:Int)<=e2.2/\e2.2<(↑(e2.1.bl.length):
 Int))/\∃(e1:List AV×List z10),([AV.mp 0,AV.ad 9 (strs (cU (aF e2.1) e2.2.toNat))],[Dn.Obj.map 9 4 e3.es])=([AV.mp 0,AV.ad 9 e1.1],[Dn.Obj.map 9 4
 e1.2])/\bj e1/\∃(e0:Nat),e0<n/\I e0 (sp 38 [(0,AV.de 5),(1,AV.ptr 4 0 [] 0),(3,AV.mp 6),(4,AV.aB 7 0 done.length),(13,AV.int (↑z6:Int)),
 (14,AV.int z4)] [Obj.box 48 (au a),Obj.box 4 z7,Obj.box 32 (AV.int 0),Obj.row 3 ws,Obj.box 48 (au a),Dn.Obj.loop z3,Dn.Obj.map 9 4 (fo e1.2 e1.1),
 Obj.row 4 (bJ (bV e5.done) (0+Int.toNat (aD (aF e5.a) e5.done e5.b)) z8)])))))) (∃(e3:TA),([AV.mp 0,AV.agg [AV.int (toInt (af (af (nth a.bl (Int.toNat
 (aD (aF e5.a) e5.done e5.b))) 3) 0)),AV.str (toStr (af (af (nth a.bl (Int.toNat (aD (aF e5.a) e5.done e5.b))) 3) 1)),AV.int (toInt (af (af (nth a.bl
 (Int.toNat (aD (aF e5.a) e5.done e5.b))) 3) 2)),AV.ad 38 (ah (af (af (nth a.bl (Int.toNat (aD (aF e5.a) e5.done e5.b))) 3) 3))],AV.agg [AV.int (toInt (af (af
 (nth a.bl (Int.toNat (aD (aF e5.a) e5.done e5.b))) 2) 0)),AV.str (toStr (af (af (nth a.bl (Int.toNat (aD (aF e5.a) e5.done e5.b))) 2) 1)),AV.int (toInt (af
 (af (nth a.bl (Int.toNat (aD (aF e5.a) e5.done e5.b))) 2) 2)),AV.ad 38 (ah (af (af (nth a.bl (Int.toNat (aD (aF e5.a) e5.done e5.b))) 2) 3))]],[Dn.Obj.map 9 4
 e4.es])=([AV.mp 0,AV.agg [AV.int e3.o1,AV.str e3.s1,AV.int e3.n1,AV.ad 38 e3.l1],AV.agg [AV.int e3.o2,AV.str e3.s2,AV.int e3.n2,AV.ad 38 e3.l2]],
 [Dn.Obj.map 9 4 e3.es])/\iF e3/\aw (lj e3.es (TA.x e3) (TA.y e3)) (aw (decide (toInt (af (af (nth a.bl (Int.toNat (aD (aF e5.a) e5.done e5.b))) 2) 0)>=(5:
 Int))) z2 (aw (decide ((7:Int)<=toInt (af (nth a.bl (Int.toNat (aD (aF e5.a) e5.done e5.b))) 0))) z2 (aP (decide ((0:Int)<=aD (aF e5.a) e5.done e5.b)&&
 decide (aD (aF e5.a) e5.done e5.b<(↑z9:Int))) (∃(e2:cf×Int),([au a,AV.int (aD (aF e5.a) e5.done e5.b)],aJ)=([au e2.1,AV.int e2.2],aJ)/\(aV (aF
 e2.1)=true/\(aI (aa (bh 38 e2.1.hl e2.1.bl))<=100000/\e2.1.bl.length<=100000)/\(0:Int)<=e2.2/\e2.2<(↑(e2.1.bl.length):Int))/\∃(e1:List AV×
 List z10),([AV.mp 0,AV.ad 9 (strs (cU (aF e2.1) e2.2.toNat))],[Dn.Obj.map 9 4 e3.es])=([AV.mp 0,AV.ad 9 e1.1],[Dn.Obj.map 9 4 e1.2])/\bj e1/\∃(e0:
 Nat),e0<n/\I e0 (sp 38 [(0,AV.de 5),(1,AV.ptr 4 0 [] 0),(3,AV.mp 6),(4,AV.aB 7 0 done.length),(13,AV.int (↑z6:Int)),(14,AV.int z4)] [Obj.box 48
 (au a),Obj.box 4 z7,Obj.box 32 (AV.int 0),Obj.row 3 ws,Obj.box 48 (au a),Dn.Obj.loop z3,Dn.Obj.map 9 4 (fo e1.2 e1.1),Obj.row 4 (bJ (bV e5.done) (0+
 Int.toNat (aD (aF e5.a) e5.done e5.b)) z8)]))))) (aw (decide ((7:Int)<=toInt (af (nth a.bl (Int.toNat (aD (aF e5.a) e5.done e5.b))) 0))) z2 (aP (decide ((0:
 Int)<=aD (aF e5.a) e5.done e5.b)&&decide (aD (aF e5.a) e5.done e5.b<(↑z9:Int))) (∃(e2:cf×Int),([au a,AV.int (aD (aF e5.a) e5.done e5.b)],aJ)=
 ([au e2.1,AV.int e2.2],aJ)/\(aV (aF e2.1)=true/\(aI (aa (bh 38 e2.1.hl e2.1.bl))<=100000/\e2.1.bl.length<=100000)/\(0:Int)<=e2.2/\e2.2<
 (↑(e2.1.bl.length):Int))/\∃(e1:List AV×List z10),([AV.mp 0,AV.ad 9 (strs (cU (aF e2.1) e2.2.toNat))],[Dn.Obj.map 9 4 e3.es])=([AV.mp 0,AV.ad 9
 e1.1],[Dn.Obj.map 9 4 e1.2])/\bj e1/\∃(e0:Nat),e0<n/\I e0 (sp 38 [(0,AV.de 5),(1,AV.ptr 4 0 [] 0),(3,AV.mp 6),(4,AV.aB 7 0 done.length),(13,
 AV.int (↑z6:Int)),(14,AV.int z4)] [Obj.box 48 (au a),Obj.box 4 z7,Obj.box 32 (AV.int 0),Obj.row 3 ws,Obj.box 48 (au a),Dn.Obj.loop z3,Dn.Obj.map 9 4
 (fo e1.2 e1.1),Obj.row 4 (bJ (bV e5.done) (0+Int.toNat (aD (aF e5.a) e5.done e5.b)) z8)])))))) (aw (decide ((7:Int)<=toInt (af (nth a.bl (Int.toNat (aD
 (aF e5.a) e5.done e5.b))) 0))) z2 (aP (decide ((0:Int)<=aD (aF e5.a) e5.done e5.b)&&decide (aD (aF e5.a) e5.done e5.b<(↑z9:Int))) (∃(e2:cf×Int),
 ([au a,AV.int (aD (aF e5.a) e5.done e5.b)],aJ)=([au e2.1,AV.int e2.2],aJ)/\(aV (aF e2.1)=true/\(aI (aa (bh 38 e2.1.hl e2.1.bl))<=100000/\
 e2.1.bl.length<=100000)/\(0:Int)<=e2.2/\e2.2<(↑(e2.1.bl.length):Int))/\∃(e1:List AV×List z10),([AV.mp 0,AV.ad 9 (strs (cU (aF e2.1)
 e2.2.toNat))],[Dn.Obj.map 9 4 (bL e5.b)])=([AV.mp 0,AV.ad 9 e1.1],[Dn.Obj.map 9 4 e1.2])/\bj e1/\∃(e0:Nat),e0<n/\I e0 (sp 38 [(0,AV.de 5),(1,
 AV.ptr 4 0 [] 0),(3,AV.mp 6),(4,AV.aB 7 0 done.length),(13,AV.int (↑z6:Int)),(14,AV.int z4)] [Obj.box 48 (au a),Obj.box 4 z7,Obj.box 32 (AV.int 0),
 Obj.row 3 ws,Obj.box 48 (au a),Dn.Obj.loop z3,Dn.Obj.map 9 4 (fo e1.2 e1.1),Obj.row 4 (bJ (bV e5.done) (0+Int.toNat (aD (aF e5.a) e5.done e5.b))
 z8)]))))))) (K (Exit.exit 0) z5)):=by kernel_rfl
structure A8 where
 a:cf
 ws:List AV
 done:List Bool
 b:List ByteArray
 i:Int
noncomputable abbrev Nr(κ:Kp)(a:A8):S:=sp 38 [(0, .de 5),(1, .ptr 4 0 [] 0),(3, .mp 6),(4, .aB 7 0 (bV a.done).length),(13, .int a.a.bl.length),(14, .int a.i)] (Ct κ a.a a.ws false .ready none++[.map 9 4 (bL a.b), .row 4 (bV a.done)])
def DE(a:A8):Prop:=aV (aF a.a)=true/\da a.a/\0<=a.i/\a.i<=a.a.bl.length/\a.done.length=a.a.bl.length
noncomputable def GP(a:A8):Bool:=Ja (aF a.a) (a.a.bl.length - a.i.toNat) a.done a.b
noncomputable def Bs(κ:Kp)(a:A8):Out (Exit×S):= .aw (GP a) (.one (.ret,sp 38 [] (Ct κ a.a a.ws true .done (some .ret)))) (.all (fun _:Bool=>True) fun e=> .aw e (.one (.ret,sp 38 [] (Ct κ a.a a.ws false .ready none))) (.one (.exit 0,sp 38 [] (Ct κ a.a a.ws false .ready none))))
theorem G2(r:Rl)(n:Nat)(done:List Bool)(b:List ByteArray):Ja r (n+1) done b=
  bif decide (aD r done b<0) then false else G1 r b (aD r done b).toNat||Ja r n (done.set (aD r done b).toNat true) (b++cU r (aD r done b).toNat):=rfl
theorem l8(κ:Kp):bf (MJ κ) 12 169 3 (aR 6 (Nr κ) DE (Bs κ)):=by
 refine aG (fun a=>a.a.bl.length - a.i.toNat) ?_
 rintro⟨a,ws,done,b,i⟩ K ⟨h1,h2,h3,h4,h5⟩ ho
 simp only at h1 h2 h3 h4 h5
 rw[show(MJ κ).P=Pr κ from rfl]
 refine Eq.mpr (x8 κ a ws (bL b) (bV done) i _ _ K) ?_
 simp only[Bs,Out.run,ae,GP] at ho
 simp only[and_self]
 have hbl:=iV done
 have hl:=h2.2
 rw[ae,aa0,aa2]
 refine⟨fun hi=>⟨⟨a,done,b,0,0⟩,rfl,⟨h1,h2,h5⟩,?_⟩,fun hi=>?_⟩
 ·have hw:=G2 (aF a) (a.bl.length - (i.toNat+1)) done b
  rw[show a.bl.length - (i.toNat+1)+1=a.bl.length - i.toNat by omega] at hw
  rw[ae,aa0,aa2]
  refine⟨fun e=>?_,fun e=>?_⟩
  ·rw[hw,aa6 e] at ho
   exact(ho.2 rfl true trivial).1 rfl
  ·rw[hw,aa4 e,aa5] at ho
   rcases pH (aF a) done b with e0|⟨e1,e2,e3,_⟩
   ·rw[e0] at e;omega
   have e2':=e2
   rw[fp] at e2'
   have hg:=rA h2 e2'
   have hlit:=kr h2 e2'
   have e2i:aD (aF a) done b<a.bl.length:=by omega
   have hsd:bj (strs (cU (aF a) (aD (aF a) done b).toNat),bL b):=by simp only[bj,aO,aL];omega
   have hbnd:(decide (0<=aD (aF a) done b)&&decide (aD (aF a) done b<(a.bl.length:Int)))=true:=by simp[e1,e2i]
   have hbnd2:(decide (0<=aD (aF a) done b)&&decide (aD (aF a) done b<((bV done).length:Int)))=true:=by rw[hbl,h5];exact hbnd
   have hlc:iH (cR (nth a.bl (aD (aF a) done b).toNat))=aI [cI (af (nth a.bl (aD (aF a) done b).toNat) 2),cI (af (nth a.bl (aD (aF a) done b).toNat) 3)]+aI (aa (ah (af (af (nth a.bl (aD (aF a) done b).toNat) 1) 1))):=rfl
   have hcx:aI [cI (af (nth a.bl (aD (aF a) done b).toNat) 2)]<=100000/\aI [cI (af (nth a.bl (aD (aF a) done b).toNat) 3)]<=100000:=by
    simp only[aI] at hlc⊢;omega
   have hx1:iF (lp (af (nth a.bl (aD (aF a) done b).toNat) 2) (af (nth a.bl (aD (aF a) done b).toNat) 3) (bL b)):=by unfold iF lp;rw[nw];exact hcx.2
   have hx2:iF (lp (af (nth a.bl (aD (aF a) done b).toNat) 3) (af (nth a.bl (aD (aF a) done b).toNat) 2) (bL b)):=by unfold iF lp;rw[nw];exact hcx.1
   have ta1:lj (lp (af (nth a.bl (aD (aF a) done b).toNat) 2) (af (nth a.bl (aD (aF a) done b).toNat) 3) (bL b)).es (lp (af (nth a.bl (aD (aF a) done b).toNat) 2) (af (nth a.bl (aD (aF a) done b).toNat) 3) (bL b)).x (lp (af (nth a.bl (aD (aF a) done b).toNat) 2) (af (nth a.bl (aD (aF a) done b).toNat) 3) (bL b)).y=ld b (cI (af (nth a.bl (aD (aF a) done b).toNat) 2)) (cI (af (nth a.bl (aD (aF a) done b).toNat) 3)):=by
    unfold lp;rw[yD,nw,oi]
   have ta2:lj (lp (af (nth a.bl (aD (aF a) done b).toNat) 3) (af (nth a.bl (aD (aF a) done b).toNat) 2) (bL b)).es (lp (af (nth a.bl (aD (aF a) done b).toNat) 3) (af (nth a.bl (aD (aF a) done b).toNat) 2) (bL b)).x (lp (af (nth a.bl (aD (aF a) done b).toNat) 3) (af (nth a.bl (aD (aF a) done b).toNat) 2) (bL b)).y=ld b (cI (af (nth a.bl (aD (aF a) done b).toNat) 3)) (cI (af (nth a.bl (aD (aF a) done b).toNat) 2)):=by
    unfold lp;rw[yD,nw,oi]
   have hinv:G1 (aF a) b (aD (aF a) done b).toNat=((decide (toInt (af (nth a.bl (aD (aF a) done b).toNat) 0)=3)&&(ld b (cI (af (nth a.bl (aD (aF a) done b).toNat) 2)) (cI (af (nth a.bl (aD (aF a) done b).toNat) 3))&&decide (toInt (af (af (nth a.bl (aD (aF a) done b).toNat) 3) 0)>=5)||ld b (cI (af (nth a.bl (aD (aF a) done b).toNat) 3)) (cI (af (nth a.bl (aD (aF a) done b).toNat) 2))&&decide (toInt (af (af (nth a.bl (aD (aF a) done b).toNat) 2) 0)>=5)))||decide (7<=toInt (af (nth a.bl (aD (aF a) done b).toNat) 0))):=by
    have o1:(cI (af (nth a.bl (aD (aF a) done b).toNat) 2)).op=toInt (af (af (nth a.bl (aD (aF a) done b).toNat) 2) 0):=by rw[cP];rfl
    have o2:(cI (af (nth a.bl (aD (aF a) done b).toNat) 3)).op=toInt (af (af (nth a.bl (aD (aF a) done b).toNat) 3) 0):=by rw[cP];rfl
    unfold G1
    rw[show(aF a).body=dh a.bl from rfl,j4 _ e2',show(cR (nth a.bl (aD (aF a) done b).toNat)).op=toInt (af (nth a.bl (aD (aF a) done b).toNat) 0) from rfl,show(cR (nth a.bl (aD (aF a) done b).toNat)).x=cI (af (nth a.bl (aD (aF a) done b).toNat) 2) from rfl,show(cR (nth a.bl (aD (aF a) done b).toNat)).y=cI (af (nth a.bl (aD (aF a) done b).toNat) 3) from rfl,o1,o2]
   have h3t:(toInt (af (nth a.bl (aD (aF a) done b).toNat) 0)==3)=true->decide (toInt (af (nth a.bl (aD (aF a) done b).toNat) 0)=3)=true:=fun e=>by simpa using e
   have h3f:(toInt (af (nth a.bl (aD (aF a) done b).toNat) 0)==3)=false->decide (toInt (af (nth a.bl (aD (aF a) done b).toNat) 0)=3)=false:=fun e=>by simpa using e
   have ho1:G1 (aF a) b (aD (aF a) done b).toNat=true->K .ret (sp 38 [] (Ct κ a ws true .done (some .ret))):=fun e=>ho.1 (by rw[e];rfl)
   have nx:G1 (aF a) b (aD (aF a) done b).toNat=false->∃m,m<a.bl.length - i.toNat/\ig (Nr κ) DE (Bs κ) (fun a=>a.a.bl.length - a.i.toNat) K m (sp 38 [(0, .de 5),(1, .ptr 4 0 [] 0),(3, .mp 6),(4, .aB 7 0 (bV done).length),(13, .int a.bl.length),(14, .int (IntKind.wrap .i64 (i+1)))] (Ct κ a ws false .ready none++[.map 9 4 (fo (bL b) (strs (cU (aF a) (aD (aF a) done b).toNat))), .row 4 (bJ (bV done) (0+(aD (aF a) done b).toNat) (.lit (.bool true)))])):=by
    intro e
    rw[e,Bool.false_or] at ho
    rw[aC (n:=i+1) (by omega) (by omega)]
    refine⟨_,?_,⟨a,ws,done.set (aD (aF a) done b).toNat true,b++cU (aF a) (aD (aF a) done b).toNat,i+1⟩,?_,⟨h1,h2,by simp only;omega,by simp only;omega,by simpa using h5⟩,rfl,?_⟩
    ·simp only;omega
    ·simp only[Nr,Nat.zero_add,pw,lF,iV,List.length_set]
    ·simp only[Bs,Out.run,ae,GP,show(i+1).toNat=i.toNat+1 by omega]
     exact ho
   rw[ai]
   refine⟨hbnd,?_⟩
   rw[ae]
   exact⟨fun f3=>⟨lp (af (nth a.bl (aD (aF a) done b).toNat) 2) (af (nth a.bl (aD (aF a) done b).toNat) 3) (bL b),rfl,hx1,by
   rw[ta1]
   exact ae.2 ⟨fun g1=>ae.2 ⟨fun g4=>ho1 (by rw[hinv,h3t f3,g1,g4];simp),fun g4=>⟨lp (af (nth a.bl (aD (aF a) done b).toNat) 3) (af (nth a.bl (aD (aF a) done b).toNat) 2) (bL b),rfl,hx2,by
   rw[ta2]
   exact ae.2 ⟨fun g2=>ae.2 ⟨fun g3=>ho1 (by rw[hinv,h3t f3,g1,g4,g2,g3];simp),fun g3=>ae.2 ⟨fun f7=>ho1 (by rw[hinv,h3t f3,g1,g4,g2,g3,f7];simp),fun f7=>ai.2 ⟨hbnd2,(a,(aD (aF a) done b)),rfl,⟨h1,h2,e1,e2i⟩,(strs (cU (aF a) (aD (aF a) done b).toNat),bL b),rfl,hsd,nx (by rw[hinv,h3t f3,g1,g4,g2,g3,f7];simp)⟩⟩⟩,fun g2=>ae.2 ⟨fun f7=>ho1 (by rw[hinv,h3t f3,g1,g4,g2,f7];simp),fun f7=>ai.2 ⟨hbnd2,(a,(aD (aF a) done b)),rfl,⟨h1,h2,e1,e2i⟩,(strs (cU (aF a) (aD (aF a) done b).toNat),bL b),rfl,hsd,nx (by rw[hinv,h3t f3,g1,g4,g2,f7];simp)⟩⟩⟩⟩⟩,fun g1=>⟨lp (af (nth a.bl (aD (aF a) done b).toNat) 3) (af (nth a.bl (aD (aF a) done b).toNat) 2) (bL b),rfl,hx2,by
   rw[ta2]
   exact ae.2 ⟨fun g2=>ae.2 ⟨fun g3=>ho1 (by rw[hinv,h3t f3,g1,g2,g3];simp),fun g3=>ae.2 ⟨fun f7=>ho1 (by rw[hinv,h3t f3,g1,g2,g3,f7];simp),fun f7=>ai.2 ⟨hbnd2,(a,(aD (aF a) done b)),rfl,⟨h1,h2,e1,e2i⟩,(strs (cU (aF a) (aD (aF a) done b).toNat),bL b),rfl,hsd,nx (by rw[hinv,h3t f3,g1,g2,g3,f7];simp)⟩⟩⟩,fun g2=>ae.2 ⟨fun f7=>ho1 (by rw[hinv,h3t f3,g1,g2,f7];simp),fun f7=>ai.2 ⟨hbnd2,(a,(aD (aF a) done b)),rfl,⟨h1,h2,e1,e2i⟩,(strs (cU (aF a) (aD (aF a) done b).toNat),bL b),rfl,hsd,nx (by rw[hinv,h3t f3,g1,g2,f7];simp)⟩⟩⟩⟩⟩⟩,fun f3=>ae.2 ⟨fun f7=>ho1 (by rw[hinv,h3f f3,f7];simp),fun f7=>ai.2 ⟨hbnd2,(a,(aD (aF a) done b)),rfl,⟨h1,h2,e1,e2i⟩,(strs (cU (aF a) (aD (aF a) done b).toNat),bL b),rfl,hsd,nx (by rw[hinv,h3f f3,f7];simp)⟩⟩⟩
 ·rw[show a.bl.length - i.toNat=0 by omega] at ho
  exact(ho.2 rfl false trivial).2 rfl
noncomputable def SH(κ:Kp):Env:=(MJ κ).ar 169 3 (aR 6 (Nr κ) DE (Bs κ))
theorem e8l(κ:Kp):aE (SH κ):=(e10 κ).ar (YO κ) (l8 κ)
theorem Zh(κ:Kp):aj (SH κ):=(YO κ).ar aW
theorem y8(κ:Kp)(a:cf)(K:AV->List Dn.Obj->Prop):(ba (SH κ) 12 89 [au a] [] K)=(
 letI z1:=a.bl.length
 letI z2:=K (AV.aX [AV.bool false,AV.int 0]) []
 letI z3:=Pg.toProgram (Env.P (MJ κ))
 letI z4:=AV.bool false
 letI z5:=Int.toNat (↑z1:Int)
 ∃(e2:cf),([au a],aJ)=([au e2],aJ)/\(aI (aa (bh 38 e2.hl e2.bl))<=100000/\e2.bl.length<=100000)/\aw (aV (aF e2)) (aw (jI (aF e2)) (aP (true&&
 decide ((↑z1:Int)<=(↑z1:Int))&&decide ((Int.toNat (↑z1:Int)+1)*2<=70368744177664)&&true) (ag z3 169 3=ag z3 169 3/\∃(e1:A8),sp 38 [(0,
 AV.de 5),(1,AV.ptr 4 0 [] 0),(3,AV.mp 6),(4,AV.aB 7 0 z5),(13,AV.int (↑z1:Int)),(14,AV.int 0)] [Obj.box 48 (au a),Obj.box 4 z4,Obj.box 32 (AV.int
 0),Obj.row 3 (ints (bP (aF e2))),Obj.box 48 (au a),Dn.Obj.loop (iw Tryz.prog 89 5 LoopState.ready none (ic (bM 63) [(0,au a),(1,AV.ptr 0 0 [] 0),(2,
 AV.ptr 1 0 [] 0),(3,AV.ptr 2 0 [] 0),(4,AV.aB 3 0 (List.length (bP (aF e2)))),(5,AV.int 0),(10,AV.aX [AV.aB 3 0 (List.length (bP (aF e2))),AV.int 0]),
 (11,au a),(12,AV.aX [AV.aB 3 0 (List.length (bP (aF e2))),AV.int 0]),(13,AV.aB 3 0 (List.length (bP (aF e2)))),(14,AV.int 0),(15,AV.int 0),(16,
 AV.bool false),(18,au a),(19,AV.bq 169 [AV.ptr 4 0 [] 0])])),Dn.Obj.map 9 4 [],Obj.row 4 (eM z4 z5)]=sp 38 [(0,AV.de 5),(1,AV.ptr 4 0 [] 0),(3,
 AV.mp 6),(4,AV.aB 7 0 (List.length (bV e1.done))),(13,AV.int (↑(List.length e1.a.bl):Int)),(14,AV.int e1.i)] [Obj.box 48 (au e1.a),Obj.box 4 z4,
 Obj.box 32 (AV.int 0),Obj.row 3 e1.ws,Obj.box 48 (au e1.a),Dn.Obj.loop (iw Tryz.prog 89 5 LoopState.ready none (ic (bM 63) [(0,au e1.a),(1,AV.ptr 0 0 []
 0),(2,AV.ptr 1 0 [] 0),(3,AV.ptr 2 0 [] 0),(4,AV.aB 3 0 e1.ws.length),(5,AV.int 0),(10,AV.aX [AV.aB 3 0 e1.ws.length,AV.int 0]),(11,au e1.a),(12,
 AV.aX [AV.aB 3 0 e1.ws.length,AV.int 0]),(13,AV.aB 3 0 e1.ws.length),(14,AV.int 0),(15,AV.int 0),(16,AV.bool false),(18,au e1.a),(19,AV.bq 169
 [AV.ptr 4 0 [] 0])])),Dn.Obj.map 9 4 (bL e1.b),Obj.row 4 (bV e1.done)]/\(aV (aF e1.a)=true/\(aI (aa (bh 38 e1.a.hl e1.a.bl))<=100000/\List.length
 e1.a.bl<=100000)/\(0:Int)<=e1.i/\e1.i<=(↑(List.length e1.a.bl):Int)/\e1.done.length=List.length e1.a.bl)/\aw (GP e1) (K (AV.aX [AV.bool true,
 AV.int 0]) []) (∀(e0:Bool),True->aw e0 z2 z2))) (K (AV.aX [AV.bool false,AV.int 60]) [])) (K (AV.aX [AV.bool false,AV.int 30]) [])):=by kernel_rfl
def Qf(a:cf):Out (AV×List Dn.Obj):= .aw (aV (aF a)) (.aw (jI (aF a)) (.one (.aX [.bool (OV (aF a)), .int 0],[])) (.one (.aX [.bool false, .int 60],[]))) (.one (.aX [.bool false, .int 30],[]))
theorem c8(κ:Kp):bG (SH κ) 12 89 (a0 AM da Qf):=by
 refine bc ?_
 rintro a K h2 ho
 refine Eq.mpr (y8 κ a K) ?_
 simp only[Qf,Out.run,ae] at ho
 have hl:=h2.2
 refine⟨a,rfl,h2,?_⟩
 rw[ae]
 refine⟨fun e1=>?_,fun e1=>ho.2 e1⟩
 rw[ae]
 refine⟨fun e2=>?_,fun e2=>(ho.1 e1).2 e2⟩
 have hw:=lC e2
 have ho1:=(ho.1 e1).1 e2
 simp only[ai,aa1,aa0,Int.toNat_natCast]
 have hi:GP ⟨a,ints (bP (aF a)),List.replicate a.bl.length false,[],0⟩=OV (aF a):=by
  unfold GP OV
  rw[fp];rfl
 refine⟨⟨⟨⟨trivial,by omega⟩,by omega⟩,trivial⟩,trivial,⟨a,ints (bP (aF a)),List.replicate a.bl.length false,[],0⟩,?_,⟨e1,h2,by simp only;omega,by simp only;omega,by simp⟩,?_⟩
 ·simp only[sO,iV,og,List.length_replicate];rfl
 ·rw[hi,ae]
  refine⟨fun e=>by rw[e] at ho1;exact ho1,fun e y _=>?_⟩
  rw[e] at ho1
  cases y
  ·exact ho1
  ·exact ho1
noncomputable def E8(κ:Kp):Env:=(SH κ).az 89 (a0 AM da Qf)
theorem e8(κ:Kp):aE (E8 κ):=(e8l κ).az (Zh κ) (c8 κ)
theorem m8(κ:Kp):aj (E8 κ):=(Zh κ).az aZ
def Pl:List AV->Option (Bool×AV)
 |[.agg [.lit (.int .i64 op), .lit (.string s), .lit (.int .i64 n), .ad 38 l], .lit (.int .i64 left)]=>some (decide (0<=left)&&decide (left<=100000), .int ((Tm.mk op s n (aa l)).size left))
 |_=>none
def CG:List AV->Nat
 |[.agg [_,_,_, .ad _ l],_]=>aI (aa l)
 |_=>0
noncomputable def zJ(κ:Kp)(n:Nat):Env:=(E8 κ).aK 105 (below Pl CG n)
structure Rp where
 op:Int
 s:ByteArray
 n:Int
 l:List AV
 left:Int
 i:Int
abbrev IE(a:Rp):S:=sp 31 [(1, .int a.left),(2, .ptr 0 0 [] 0),(5, .int a.i)] [.box 38 (.agg [.int a.op, .lit (.string a.s), .int a.n, .ad 38 a.l])]
theorem Z4(κ:Kp)(r:Nat)(a:Rp)(I:Nat->S->Prop)(n:Nat)(K:Exit->S->Prop):(vc (zJ κ r) 12 105 none 0 (ag (Pr κ).toProgram 105 5) (IE a) (bB (zJ κ r) 105 5 0 I n K))=(
 letI z1:=nth a.l a.i.toNat
 letI z2:=K (Exit.exit 0) (sp 31 [(1,AV.int a.left)] [])
 letI z3:=a.i<(↑(a.l.length):Int)
 aw (decide z3) (aw (decide (a.left>=(0:Int))) (aP (decide ((0:Int)<=a.i)&&decide z3) (aP (decide ((0:Int)<=a.left)&&decide (a.left<=(100000:
 Int))&&Nat.blt (CG [AV.agg [AV.int (toInt (af z1 0)),AV.str (toStr (af z1 1)),AV.int (toInt (af z1 2)),AV.ad 38 (ah (af z1 3))],AV.int a.left]) r) (∃(e0
 :Nat),e0<n/\I e0 (sp 31 [(1,AV.int (Tm.size (Tm.mk (toInt (af z1 0)) (toStr (af z1 1)) (toInt (af z1 2)) (aa (ah (af z1 3)))) a.left)),(2,AV.ptr 0 0 []
 0),(5,AV.int (IntKind.wrap IntKind.i64 (a.i+(1:Int))))] [Obj.box 38 (AV.agg [AV.int a.op,AV.str a.s,AV.int a.n,AV.ad 38 a.l])])))) z2) z2):=by kernel_rfl
def Ev(r:Nat)(a:Rp):Prop:= -1<=a.left/\a.i+a.left<=100000/\0<=a.i/\a.i<=a.l.length/\aI (aa (a.l.drop a.i.toNat))<=r
def yY(a:Rp):Out (Exit×S):= .one (.exit 0,sp 31 [(1, .int (iL (aa (a.l.drop a.i.toNat)) a.left))] [])
theorem l54(κ:Kp)(r:Nat):bf (zJ κ r) 12 105 5 (aR 0 IE (Ev r) yY):=by
 refine aG (fun a=>a.l.length - a.i.toNat) ?_
 rintro⟨op,s,n,l,left,i⟩ K ⟨h1,h2,h3,h4,h5⟩ ho
 simp only at h1 h2 h3 h4 h5
 rw[show(zJ κ r).P=Pr κ from rfl]
 refine Eq.mpr (Z4 κ r ⟨op,s,n,l,left,i⟩ _ _ K) ?_
 simp only[yY,Out.run] at ho
 simp only[ae,ai,aa0,aa2,aa1,Nat.blt_eq,←cP]
 refine⟨fun hi=>⟨fun hl=>⟨⟨h3,hi⟩,?_⟩,fun hl=>?_⟩,fun hi=>?_⟩
 ·have hc:=uJ l i.toNat (by omega)
  have hz:=Tm.size_le (cI (nth l i.toNat)) left hl
  have hp:(cI (nth l i.toNat)).fS=1+aI (aa (ah (af (nth l i.toNat) 3))):=by rw[cP,Tm.fS]
  rw[dR l i.toNat (by omega),iL,aa6 hl,aa7] at ho
  rw[aC (n:=i+1) (by omega) (by omega)]
  refine⟨⟨⟨hl,by omega⟩,by simp only[CG];omega⟩,_,?_,⟨op,s,n,l,(cI (nth l i.toNat)).size left,i+1⟩,rfl,⟨by simp only;omega,by simp only;omega,by simp only;omega,by simp only;omega,?_⟩,rfl,?_⟩
  ·simp only;omega
  ·simp only[show(i+1).toNat=i.toNat+1 by omega];omega
  ·simp only[yY,Out.run,show(i+1).toNat=i.toNat+1 by omega]
   exact ho
 ·rw[dR l i.toNat (by omega),iL,aa4 (show ¬ 0<=left from hl),aa5] at ho
  exact ho
 ·rw[aa8 (by omega)] at ho
  exact ho
noncomputable def HM(κ:Kp)(r:Nat):Env:=(zJ κ r).ar 105 5 (aR 0 IE (Ev r) yY)
theorem y54(κ:Kp)(r:Nat)(op:Int)(s:ByteArray)(n:Int)(l:List AV)(left:Int)(K:AV->List Dn.Obj->Prop):(ba (HM κ r) 12 105 [.agg [.int op, .lit (.string s), .int n, .ad 38 l], .int left] [] K)=(
 aw (decide ((↑(ByteArray.size s):Int)>(1000:Int))) (K (AV.int (-1)) []) (ag (Pg.toProgram (Env.P (zJ κ r))) 105 5=ag (Pg.toProgram (Env.P
 (zJ κ r))) 105 5/\∃(a:Rp),sp 31 [(1,AV.int (IntKind.wrap IntKind.i64 (left - (1:Int)))),(2,AV.ptr 0 0 [] 0),(5,AV.int 0)] [Obj.box 38 (AV.agg
 [AV.int op,AV.str s,AV.int n,AV.ad 38 l])]=sp 31 [(1,AV.int a.left),(2,AV.ptr 0 0 [] 0),(5,AV.int a.i)] [Obj.box 38 (AV.agg [AV.int a.op,AV.str
 a.s,AV.int a.n,AV.ad 38 a.l])]/\((-1:Int)<=a.left/\a.i+a.left<=(100000:Int)/\(0:Int)<=a.i/\a.i<=(↑(a.l.length):Int)/\aI (aa
 (List.drop a.i.toNat a.l))<=r)/\K (AV.int (iL (aa (List.drop a.i.toNat a.l)) a.left)) [])):=by kernel_rfl
theorem WZ(κ:Kp)(r:Nat)(hp:fg (Pr κ) 105 (below Pl CG r)):aE (HM κ r)/\aj (HM κ r)/\(HM κ r).P=Pr κ:=
 have h:aE (zJ κ r):=(e8 κ).dZ hp
 have hm:aj (zJ κ r):=(m8 κ).aK
 ⟨h.ar hm (l54 κ r),hm.ar aW,rfl⟩
theorem p54(κ:Kp)(r:Nat):cj (HM κ r) 12 105 (fun xs=>bif Nat.beq (CG xs) r then Pl xs else none):=by
 intro args x hh
 cases hb:Nat.beq (CG args) r with
 |false=>simp only[hb] at hh;cases hh
 | true=>
  simp only[hb,aa7] at hh
  unfold Pl at hh
  split at hh
  ·rename_i op s n l left
   simp only[aa3,aa9,aa1,aa0] at hh
   obtain⟨⟨h1,h2⟩,rfl⟩:=hh
   have hr:aI (aa l)=r:=Nat.eq_of_beq_eq_true hb
   refine⟨_,rfl,rfl,?_⟩
   refine Eq.mpr (y54 κ r op s n l left _) ?_
   rw[ae,aa0,aa2]
   refine⟨fun e=>?_,fun e=>?_⟩
   ·unfold Tm.size;rw[aa6 (show(1000:Int)<s.size from e)];rfl
   ·rw[aC (n:=left - 1) (by omega) (by omega)]
    refine⟨rfl,⟨op,s,n,l,left - 1,0⟩,rfl,⟨by simp only;omega,by simp only;omega,by simp only;omega,by simp only;omega,?_⟩,?_⟩
    ·simp only[ab7,ab0];omega
    ·unfold Tm.size;rw[aa4 (show ¬ (1000:Int)<s.size from e)];rfl
  ·cases hh
theorem q54(κ:Kp):fg (Pr κ) 105 Pl:=aE.pT Pl CG (HM κ) (WZ κ) (p54 κ)
noncomputable def Lr(κ:Kp):Env:=(E8 κ).aK 105 Pl
theorem e54(κ:Kp):aE (Lr κ):=(e8 κ).dZ (q54 κ)
theorem XX(κ:Kp):aj (Lr κ):=(m8 κ).aK
structure R4 where
 s:ByteArray
 l:List AV
 left:Int
 i:Int
abbrev J2(a:R4):S:=sp 29 [(1, .int a.left),(2, .ptr 0 0 [] 0),(5, .int a.i)] [.box 45 (.agg [.lit (.string a.s), .ad 38 a.l])]
theorem x53(κ:Kp)(a:R4)(I:Nat->S->Prop)(n:Nat)(K:Exit->S->Prop):(vc (Lr κ) 12 104 none 0 (ag (Pr κ).toProgram 104 4) (J2 a) (bB (Lr κ) 104 4 0 I n K))=(
 letI z1:=nth a.l a.i.toNat
 letI z2:=K (Exit.exit 0) (sp 29 [(1,AV.int a.left)] [])
 letI z3:=a.i<(↑(a.l.length):Int)
 aw (decide z3) (aw (decide (a.left>=(0:Int))) (aP (decide ((0:Int)<=a.i)&&decide z3) (aP (decide ((0:Int)<=a.left)&&decide (a.left<=(100000:
 Int))) (∃(e0:Nat),e0<n/\I e0 (sp 29 [(1,AV.int (Tm.size (Tm.mk (toInt (af z1 0)) (toStr (af z1 1)) (toInt (af z1 2)) (aa (ah (af z1 3)))) a.left)),(2,
 AV.ptr 0 0 [] 0),(5,AV.int (IntKind.wrap IntKind.i64 (a.i+(1:Int))))] [Obj.box 45 (AV.agg [AV.str a.s,AV.ad 38 a.l])])))) z2) z2):=by kernel_rfl
def D8(a:R4):Prop:= -1<=a.left/\a.i+a.left<=100000/\0<=a.i/\a.i<=a.l.length
def yM(a:R4):Out (Exit×S):= .one (.exit 0,sp 29 [(1, .int (iL (aa (a.l.drop a.i.toNat)) a.left))] [])
theorem l53(κ:Kp):bf (Lr κ) 12 104 4 (aR 0 J2 D8 yM):=by
 refine aG (fun a=>a.l.length - a.i.toNat) ?_
 rintro⟨s,l,left,i⟩ K ⟨h1,h2,h3,h4⟩ ho
 simp only at h1 h2 h3 h4
 rw[show(Lr κ).P=Pr κ from rfl]
 refine Eq.mpr (x53 κ ⟨s,l,left,i⟩ _ _ K) ?_
 simp only[yM,Out.run] at ho
 simp only[ae,ai,aa0,aa2,aa1,←cP]
 refine⟨fun hi=>⟨fun hl=>⟨⟨h3,hi⟩,?_⟩,fun hl=>?_⟩,fun hi=>?_⟩
 ·have hz:=Tm.size_le (cI (nth l i.toNat)) left hl
  rw[dR l i.toNat (by omega),iL,aa6 hl,aa7] at ho
  rw[aC (n:=i+1) (by omega) (by omega)]
  refine⟨⟨hl,by omega⟩,_,?_,⟨s,l,(cI (nth l i.toNat)).size left,i+1⟩,rfl,⟨by simp only;omega,by simp only;omega,by simp only;omega,by simp only;omega⟩,rfl,?_⟩
  ·simp only;omega
  ·simp only[yM,Out.run,show(i+1).toNat=i.toNat+1 by omega]
   exact ho
 ·rw[dR l i.toNat (by omega),iL,aa4 (show ¬ 0<=left from hl),aa5] at ho
  exact ho
 ·rw[aa8 (by omega)] at ho
  exact ho
noncomputable def JS(κ:Kp):Env:=(Lr κ).ar 104 4 (aR 0 J2 D8 yM)
theorem VL(κ:Kp):aE (JS κ):=(e54 κ).ar (XX κ) (l53 κ)
theorem QN(κ:Kp):aj (JS κ):=(XX κ).ar aW
theorem y53(κ:Kp)(s:ByteArray)(l:List AV)(left:Int)(K:AV->List Dn.Obj->Prop):(ba (JS κ) 12 104 [.agg [.lit (.string s), .ad 38 l], .int left] [] K)=(
 letI z1:=Pg.toProgram (Env.P (Lr κ))
 aw (decide ((↑(ByteArray.size s):Int)>(1000:Int))) (K (AV.int (-1)) []) (ag z1 104 4=ag z1 104 4/\∃(e0:R4),sp 29 [(1,AV.int left),(2,AV.ptr 0 0
 [] 0),(5,AV.int 0)] [Obj.box 45 (AV.agg [AV.str s,AV.ad 38 l])]=sp 29 [(1,AV.int e0.left),(2,AV.ptr 0 0 [] 0),(5,AV.int e0.i)] [Obj.box 45 (AV.agg
 [AV.str e0.s,AV.ad 38 e0.l])]/\((-1:Int)<=e0.left/\e0.i+e0.left<=(100000:Int)/\(0:Int)<=e0.i/\e0.i<=(↑(e0.l.length):Int))/\K (AV.int (iL (aa
 (List.drop e0.i.toNat e0.l)) e0.left)) [])):=by kernel_rfl
def VM:List AV->Option (Bool×AV)
 |[.agg [.lit (.string s), .ad 38 l], .lit (.int .i64 left)]=>some (decide (-1<=left)&&decide (left<=100000), .int (dp ⟨s,aa l⟩ left))
 |_=>none
theorem p53(κ:Kp):cj (JS κ) 12 104 VM:=by
 intro args x hh
 unfold VM at hh
 split at hh
 ·rename_i s l left
  simp only[aa3,aa9,aa1,aa0] at hh
  obtain⟨⟨h1,h2⟩,rfl⟩:=hh
  refine⟨_,rfl,rfl,?_⟩
  refine Eq.mpr (y53 κ s l left _) ?_
  rw[ae,aa0,aa2]
  refine⟨fun e=>?_,fun e=>?_⟩
  ·unfold dp;rw[aa6 (show(1000:Int)<s.size from e)];rfl
  ·refine⟨rfl,⟨s,l,left,0⟩,rfl,⟨h1,by simp only;omega,by simp only;omega,by simp only;omega⟩,?_⟩
   unfold dp;rw[aa4 (show ¬ (1000:Int)<s.size from e)];rfl
 ·cases hh
noncomputable def Mm(κ:Kp):Env:=(JS κ).aK 104 VM
theorem e53(κ:Kp):aE (Mm κ):=(VL κ).aK (QN κ) (p53 κ)
theorem Ys(κ:Kp):aj (Mm κ):=(QN κ).aK
structure RP where
 a:cf
 left:Int
 i:Int
abbrev BG(a:RP):S:=sp 52 [(1, .int a.left),(2, .ptr 0 0 [] 0),(5, .int a.i)] [.box 48 (au a.a)]
theorem x38(κ:Kp)(a:RP)(I:Nat->S->Prop)(n:Nat)(K:Exit->S->Prop):(vc (Mm κ) 12 60 none 0 (ag (Pr κ).toProgram 60 3) (BG a) (bB (Mm κ) 60 3 0 I n K))=(
 letI z1:=nth a.a.bl a.i.toNat
 letI z3:=Tm.mk (toInt (af (af z1 2) 0)) (toStr (af (af z1 2) 1)) (toInt (af (af z1 2) 2)) (aa (ah (af (af z1 2) 3)))
 letI z4:=AV.agg [AV.agg [AV.str a.a.rel,AV.ad 38 a.a.hl],AV.ad 80 a.a.bl,AV.int a.a.line]
 letI z6:=ah (af (af z1 1) 1)
 letI z7:=af (af z1 1) 0
 letI z9:=IntKind.wrap IntKind.i64 (a.i+(1:Int))
 letI z10:=Tm.mk (toInt (af (af z1 3) 0)) (toStr (af (af z1 3) 1)) (toInt (af (af z1 3) 2)) (aa (ah (af (af z1 3) 3)))
 letI z13:=K (Exit.exit 0) (sp 52 [(1,AV.int a.left)] [])
 letI z14:=a.i<(↑(List.length a.a.bl):Int)
 letI z5:=decide ((0:Int)<=a.i)&&decide z14
 letI z15:=a.left - (1:Int)
 letI z2:=IntKind.wrap IntKind.i64 z15
 letI z11:=dp {rel:=toStr z7,l:=aa z6} z2
 letI z12:=dp {rel:=toStr z7,l:=aa z6} z2
 letI z16:=(100000:Int)
 letI z8:=decide ((0:Int)<=dp {rel:=toStr z7,l:=aa z6} z2)&&decide (dp {rel:=toStr z7,l:=aa z6} z2<=z16)
 aw (decide z14) (aw (decide (a.left>=(0:Int))) (aP z5 (aP (decide ((-1:Int)<=IntKind.wrap IntKind.i64 z15)&&decide (IntKind.wrap IntKind.i64 z15<=z16)) (aw (decide (dp {rel:=toStr z7,l:=aa z6} z2>=(0:Int))) (aP z5 (aP z8 (aw (decide (Tm.size z3 z11>=(0:Int))) (aP z5 (aP (decide ((0:Int)<=Tm.size z3 z12)&&decide (Tm.size z3 z11<=z16)) (∃(e0:Nat),e0<n/\I e0 (sp 52 [(1,AV.lit (Value.int IntKind.i64 (Tm.size z10 (Tm.size z3 z11)))),(2,AV.ptr 0 0 [] 0),(5,AV.int z9)] [Obj.box 48 z4])))) (∃(e0:Nat),e0<n/\I e0 (sp 52 [(1,AV.lit (Value.int IntKind.i64 (Tm.size z3 z12))),(2,AV.ptr 0 0 [] 0),(5,AV.int z9)] [Obj.box 48 z4]))))) (aw (decide (dp {rel:=toStr z7,l:=aa z6} z2>=(0:Int))) (aP z5 (aP z8 (∃(e0:Nat),e0<n/\I e0 (sp 52 [(1,AV.lit (Value.int IntKind.i64 (Tm.size z10 z12))),(2,AV.ptr 0 0 [] 0),(5,AV.int z9)] [Obj.box 48 z4])))) (∃(e0:Nat),e0<n/\I e0 (sp 52 [(1,AV.lit (Value.int IntKind.i64 z11)),(2,AV.ptr 0 0 [] 0),(5,AV.int z9)] [Obj.box 48 z4])))))) z13) z13):=by kernel_rfl
def yW(a:RP):Prop:= -1<=a.left/\a.i+a.left<=100000/\0<=a.i/\a.i<=a.a.bl.length
def tW(a:RP):Out (Exit×S):= .one (.exit 0,sp 52 [(1, .int (kF (dh (a.a.bl.drop a.i.toNat)) a.left))] [])
theorem Zo(κ:Kp):bf (Mm κ) 12 60 3 (aR 0 BG yW tW):=by
 refine aG (fun a=>a.a.bl.length - a.i.toNat) ?_
 rintro⟨a,left,i⟩ K ⟨h1,h2,h3,h4⟩ ho
 simp only at h1 h2 h3 h4
 rw[show(Mm κ).P=Pr κ from rfl]
 refine Eq.mpr (x38 κ ⟨a,left,i⟩ _ _ K) ?_
 simp only[tW,Out.run] at ho
 by_cases hi:i<a.bl.length
 ·by_cases hl:left>=0
  ·have hk:i.toNat<a.bl.length:=by omega
   rw[nO a.bl i.toNat hk,kF,aa6 hl,aa7] at ho
   have hA:(⟨toStr (af (af (nth a.bl i.toNat) 1) 0),aa (ah (af (af (nth a.bl i.toNat) 1) 1))⟩:At)=(cR (nth a.bl i.toNat)).a:=rfl
   have hX:cI (af (nth a.bl i.toNat) 2)=(cR (nth a.bl i.toNat)).x:=rfl
   have hY:cI (af (nth a.bl i.toNat) 3)=(cR (nth a.bl i.toNat)).y:=rfl
   have hz:=rS (cR (nth a.bl i.toNat)) left hl
   have hz1:=lH (cR (nth a.bl i.toNat)).a (left - 1) (by omega)
   have hz2:=Tm.size_le (cR (nth a.bl i.toNat)).x (dp (cR (nth a.bl i.toNat)).a (left - 1))
   have go: ∀z,sizeLt (cR (nth a.bl i.toNat)) left=z->∃m,m<a.bl.length - i.toNat/\ig BG yW tW (fun a=>a.a.bl.length - a.i.toNat) K m (BG ⟨a,z,i+1⟩):=by
    rintro z rfl
    refine⟨_,?_,⟨a,sizeLt (cR (nth a.bl i.toNat)) left,i+1⟩,rfl,⟨by simp only;omega,by simp only;omega,by simp only;omega,by simp only;omega⟩,rfl,?_⟩
    ·simp only;omega
    ·simp only[tW,Out.run,show(i+1).toNat=i.toNat+1 by omega]
     exact ho
   simp only[aC (n:=i+1) (by omega) (by omega),aC (n:=left - 1) (by omega) (by omega),hA,←cP,hX,hY]
   simp only[ae,ai,aa0,aa2,aa1]
   refine⟨fun _=>⟨fun _=>⟨⟨h3,hi⟩,⟨by omega,by omega⟩,fun e1=>⟨⟨h3,hi⟩,⟨e1,by omega⟩,fun e2=>⟨⟨h3,hi⟩,⟨e2,by have:=hz2 e1;omega⟩,go _ ?_⟩,fun e2=>go _ ?_⟩,fun e1=>⟨fun e=>absurd e e1,fun _=>go _ ?_⟩⟩,fun e=>absurd hl e⟩,fun e=>absurd hi e⟩
   ·unfold sizeLt;rw[aa6 (show 0<=dp (cR (nth a.bl i.toNat)).a (left - 1) from e1),aa7,aa6 (show 0<=(cR (nth a.bl i.toNat)).x.size _ from e2),aa7]
   ·unfold sizeLt;rw[aa6 (show 0<=dp (cR (nth a.bl i.toNat)).a (left - 1) from e1),aa7,aa4 (show ¬ 0<=(cR (nth a.bl i.toNat)).x.size _ from e2),aa5]
   ·unfold sizeLt;rw[aa4 (show ¬ 0<=dp (cR (nth a.bl i.toNat)).a (left - 1) from e1),aa5];rfl
  ·rw[nO a.bl i.toNat (by omega),kF,aa4 (show ¬ 0<=left from hl),aa5] at ho
   rw[aa6 (show i<(a.bl.length:Int) from hi),aa4 hl]
   exact ho
 ·rw[aa8 (by omega)] at ho
  rw[aa4 (show ¬ i<(a.bl.length:Int) from hi)]
  exact ho
noncomputable def Ji(κ:Kp):Env:=(Mm κ).ar 60 3 (aR 0 BG yW tW)
theorem Wf(κ:Kp):aE (Ji κ):=(e53 κ).ar (Ys κ) (Zo κ)
theorem RR(κ:Kp):aj (Ji κ):=(Ys κ).ar aW
theorem y38(κ:Kp)(a:cf)(left:Int)(K:AV->List Dn.Obj->Prop):(ba (Ji κ) 12 60 [au a, .int left] [] K)=(
 letI z1:=left - (1:Int)
 letI z2:=Pg.toProgram (Env.P (Mm κ))
 aP (decide ((-1:Int)<=IntKind.wrap IntKind.i64 z1)&&decide (IntKind.wrap IntKind.i64 z1<=(100000:Int))) (ag z2 60 3=ag z2 60 3/\∃(e0:RP),sp 52 [(1,AV.lit (Value.int IntKind.i64 (dp {rel:=a.rel,l:=aa a.hl} (IntKind.wrap IntKind.i64 z1)))),(2,AV.ptr 0 0 [] 0),(5,AV.int 0)] [Obj.box 48 (AV.agg [AV.agg [AV.str a.rel,AV.ad 38 a.hl],AV.ad 80 a.bl,AV.int a.line])]=sp 52 [(1,AV.int e0.left),(2,AV.ptr 0 0 [] 0),(5,AV.int e0.i)] [Obj.box 48 (AV.agg [AV.agg [AV.str e0.a.rel,AV.ad 38 e0.a.hl],AV.ad 80 e0.a.bl,AV.int e0.a.line])]/\((-1:Int)<=e0.left/\e0.i+e0.left<=(100000:Int)/\(0:Int)<=e0.i/\e0.i<=(↑(List.length e0.a.bl):Int))/\K (AV.lit (Value.int IntKind.i64 (kF (dh (List.drop e0.i.toNat e0.a.bl)) e0.left))) [])):=by kernel_rfl
def Xw:List AV->Option (Bool×AV)
 |[.agg [.agg [.lit (.string rel), .ad 38 hl], .ad 80 bl, .lit (.int .i64 _)], .lit (.int .i64 left)]=>some (decide (0<=left)&&decide (left<=100000), .int (lP ⟨⟨rel,aa hl⟩,dh bl⟩ left))
 |_=>none
theorem p38(κ:Kp):cj (Ji κ) 12 60 Xw:=by
 intro args x hh
 unfold Xw at hh
 split at hh
 ·rename_i rel hl bl line left
  simp only[aa3,aa9,aa1,aa0] at hh
  obtain⟨⟨h1,h2⟩,rfl⟩:=hh
  refine⟨_,rfl,rfl,?_⟩
  refine Eq.mpr (y38 κ ⟨[],[],rel,hl,bl,line,0⟩ left _) ?_
  have hz1:=lH ⟨rel,aa hl⟩ (left - 1) (by omega)
  simp only[aC (n:=left - 1) (by omega) (by omega)]
  rw[ai,aa1,aa0,aa0]
  exact⟨⟨by omega,by omega⟩,trivial,⟨⟨[],[],rel,hl,bl,line,0⟩,dp ⟨rel,aa hl⟩ (left - 1),0⟩,rfl,⟨by simp only;omega,by simp only;omega,by simp only;omega,by simp only;omega⟩,rfl⟩
 ·cases hh
noncomputable def L5(κ:Kp):Env:=(Ji κ).aK 60 Xw
theorem e38(κ:Kp):aE (L5 κ):=(Wf κ).aK (RR κ) (p38 κ)
theorem Yd(κ:Kp):aj (L5 κ):=(RR κ).aK
abbrev K5(a:List AV×Int):S:=sp 16 [(0, .ad 9 a.1),(3, .int a.2)] []
theorem Zn(κ:Kp)(l:List AV)(i:Int)(I:Nat->S->Prop)(n:Nat)(K:Exit->S->Prop):(vc (L5 κ) 12 59 none 0 (ag (Pr κ).toProgram 59 2) (K5 (l,i)) (bB (L5 κ) 59 2 0 I n K))=(
 letI z1:=i<(↑(l.length):Int)
 aw (decide z1) (aP (decide ((0:Int)<=i)&&decide z1) (aw (decide ((↑(ByteArray.size (toStr (nth l i.toNat))):Int)>(1000:Int))) (K Exit.ret (sp 16 [(2,
 AV.bool true)] [])) (∃(e0:Nat),e0<n/\I e0 (sp 16 [(0,AV.ad 9 l),(3,AV.int (IntKind.wrap IntKind.i64 (i+(1:Int))))] [])))) (K (Exit.exit 0) (sp 16
 [] []))):=by kernel_rfl
def FO(a:List AV×Int):Prop:=a.1.length<=aL/\0<=a.2/\a.2<=a.1.length
def zN(a:List AV×Int):Out (Exit×S):= .aw (sL (a.1.drop a.2.toNat)) (.one (.ret,sp 16 [(2, .bool true)] [])) (.one (.exit 0,sp 16 [] []))
theorem l37(κ:Kp):bf (L5 κ) 12 59 2 (aR 0 K5 FO zN):=by
 refine aG (fun a=>a.1.length - a.2.toNat) ?_
 rintro⟨l,i⟩ K ⟨h1,h2,h3⟩ ho
 simp only at h1 h2 h3
 rw[show(L5 κ).P=Pr κ from rfl]
 refine Eq.mpr (Zn κ l i _ _ K) ?_
 simp only[aL] at h1
 simp only[zN,Out.run,ae] at ho
 simp only[ae,ai,aa0,aa2,aa1]
 refine⟨fun hi=>⟨⟨h2,hi⟩,?_⟩,fun hi=>?_⟩
 ·rw[ab1 (show i.toNat<l.length by omega),←a7 l i.toNat (by omega)] at ho
  simp only[sL,List.any_cons] at ho
  refine⟨fun e=>ho.1 (by rw[aa6 (show(1000:Int)<_ from e)];rfl),fun e=>?_⟩
  rw[aa4 (show ¬ (1000:Int)<_ from e),Bool.false_or] at ho
  rw[aC (n:=i+1) (by omega) (by omega)]
  refine⟨_,?_,(l,i+1),rfl,⟨by simpa[aL] using h1,by simp only;omega,by simp only;omega⟩,rfl,?_⟩
  ·simp only;omega
  ·simp only[zN,Out.run,ae,show(i+1).toNat=i.toNat+1 by omega]
   exact ho
 ·rw[aa8 (by omega)] at ho
  exact ho.2 rfl
noncomputable def Kr(κ:Kp):Env:=(L5 κ).ar 59 2 (aR 0 K5 FO zN)
theorem Vb(κ:Kp):aE (Kr κ):=(e38 κ).ar (Yd κ) (l37 κ)
theorem Uf(κ:Kp):aj (Kr κ):=(Yd κ).ar aW
theorem y37(κ:Kp)(l:List AV)(K:AV->List Dn.Obj->Prop):(ba (Kr κ) 12 59 [.ad 9 l] [] K)=(
 letI z1:=Pg.toProgram (Env.P (L5 κ))
 ag z1 59 2=ag z1 59 2/\∃(e0:List AV×Int),sp 16 [(0,AV.ad 9 l),(3,AV.int 0)] []=sp 16 [(0,AV.ad 9 e0.1),(3,AV.int e0.2)] []/\(e0.1.length<=
 9223372036854775807/\(0:Int)<=e0.2/\e0.2<=(↑(e0.1.length):Int))/\aw (sL (List.drop e0.2.toNat e0.1)) (K (AV.bool true) []) (K (AV.bool false) [])):=by kernel_rfl
def VO:List AV->Option (Bool×AV)
 |[.ad 9 l]=>some (decide (l.length<=aL), .bool (sL l))
 |_=>none
theorem p37(κ:Kp):cj (Kr κ) 12 59 VO:=by
 intro args x hh
 unfold VO at hh
 split at hh
 ·rename_i l
  simp only[aa3,aa9,aa0] at hh
  obtain⟨h1,rfl⟩:=hh
  refine⟨_,rfl,rfl,?_⟩
  refine Eq.mpr (y37 κ l _) ?_
  refine⟨rfl,(l,0),rfl,⟨h1,by simp only;omega,by simp only;omega⟩,?_⟩
  rw[ae]
  exact⟨fun e=>by rw[show sL l=true from e],fun e=>by rw[show sL l=false from e]⟩
 ·cases hh
noncomputable def L3(κ:Kp):Env:=(Kr κ).aK 59 VO
theorem e37(κ:Kp):aE (L3 κ):=(Vb κ).aK (Uf κ) (p37 κ)
theorem Zd(κ:Kp):aj (L3 κ):=(Uf κ).aK
structure It where
 ds:List AV
 rs:List AV
 left:Int
 i:Int
abbrev Gg(a:It):AV:= .agg [.ad 43 a.ds, .ad 48 a.rs]
abbrev Fy(a:It):S:=sp 62 [(1, .ptr 0 0 [] 0),(3, .int a.left),(4, .int a.i)] [.box 25 (Gg a)]
theorem WH(κ:Kp)(a:It)(I:Nat->S->Prop)(n:Nat)(K:Exit->S->Prop):(vc (L3 κ) 12 29 none 0 (ag (Pr κ).toProgram 29 3) (Fy a) (bB (L3 κ) 29 3 0 I n K))=(
 letI z2:=K Exit.ret (sp 62 [(2,AV.int 0)] [])
 letI z3:=AV.agg [AV.ad 43 a.ds,AV.ad 48 a.rs]
 letI z4:=nth a.ds a.i.toNat
 letI z5:=a.i<(↑(a.ds.length):Int)
 letI z1:=decide ((0:Int)<=a.i)&&decide z5
 aw (decide z5) (aP z1 (aw (decide ((↑(ByteArray.size (toStr (af z4 0))):Int)>(1000:Int))) z2 (aP z1 (aP (decide (List.length (ah (af z4 1))<=
 9223372036854775807)) (aw (sL (ah (af z4 1))) z2 (∃(e0:Nat),e0<n/\I e0 (sp 62 [(1,AV.ptr 0 0 [] 0),(3,AV.int a.left),(4,AV.int (IntKind.wrap
 IntKind.i64 (a.i+(1:Int))))] [Obj.box 25 z3]))))))) (K (Exit.exit 0) (sp 62 [(1,AV.ptr 0 0 [] 0),(3,AV.int a.left)] [Obj.box 25 z3]))):=by kernel_rfl
def yH(a:It):Prop:=a.ds.length<=aL/\(∀d,d∈a.ds->(ah (af d 1)).length<=aL)/\0<=a.i/\a.i<=a.ds.length
def uV(a:It):Out (Exit×S):= .aw ((a.ds.drop a.i.toNat).any Hs) (.one (.ret,sp 62 [(2, .int 0)] [])) (.one (.exit 0,sp 62 [(1, .ptr 0 0 [] 0),(3, .int a.left)] [.box 25 (Gg a)]))
theorem Vf(κ:Kp):bf (L3 κ) 12 29 3 (aR 0 Fy yH uV):=by
 refine aG (fun a=>a.ds.length - a.i.toNat) ?_
 rintro⟨ds,rs,left,i⟩ K ⟨h1,h1',h2,h3⟩ ho
 simp only at h1 h1' h2 h3
 rw[show(L3 κ).P=Pr κ from rfl]
 refine Eq.mpr (WH κ ⟨ds,rs,left,i⟩ _ _ K) ?_
 simp only[aL] at h1
 simp only[uV,Out.run,ae] at ho
 simp only[ae,ai,aa1,aa0,aa2]
 refine⟨fun hi=>⟨⟨h2,hi⟩,?_⟩,fun hi=>?_⟩
 ·have hi':i.toNat<ds.length:=by omega
  have hm:nth ds i.toNat∈ds:=by rw[a7 ds _ hi'];exact List.getElem_mem _
  rw[ab1 hi',←a7 ds i.toNat hi'] at ho
  simp only[List.any_cons,Hs] at ho
  have go:(∀h:((ds.drop (i.toNat+1)).any Hs=true->K .ret (sp 62 [(2, .int 0)] []))/\((ds.drop (i.toNat+1)).any Hs=false->K (.exit 0) (sp 62 [(1, .ptr 0 0 [] 0),(3, .int left)] [.box 25 (Gg ⟨ds,rs,left,i⟩)])),∃m,m<ds.length - i.toNat/\ig Fy yH uV (fun a=>a.ds.length - a.i.toNat) K m (sp 62 [(1, .ptr 0 0 [] 0),(3, .int left),(4, .int (IntKind.wrap .i64 (i+1)))] [.box 25 (Gg ⟨ds,rs,left,i⟩)])):=by
   intro h
   rw[aC (n:=i+1) (by omega) (by omega)]
   refine⟨_,?_,⟨ds,rs,left,i+1⟩,rfl,⟨by simpa[aL] using h1,h1',by simp only;omega,by simp only;omega⟩,rfl,?_⟩
   ·simp only;omega
   ·simp only[uV,Out.run,ae,show(i+1).toNat=i.toNat+1 by omega]
    exact h
  refine⟨fun e1=>ho.1 (by rw[aa6 (show(1000:Int)<_ from e1)];rfl),fun e1=>⟨⟨h2,hi⟩,h1' _ hm,fun e2=>ho.1 (by rw[e2];simp),fun e2=>go ?_⟩⟩
  rw[aa4 (show ¬ (1000:Int)<_ from e1),e2] at ho
  exact ho
 ·rw[aa8 (by omega)] at ho
  exact ho.2 rfl
noncomputable def z0(κ:Kp):Env:=(L3 κ).ar 29 3 (aR 0 Fy yH uV)
theorem XO(κ:Kp):aE (z0 κ):=(e37 κ).ar (Zd κ) (Vf κ)
theorem S6(κ:Kp):aj (z0 κ):=(Zd κ).ar aW
abbrev IH(a:It):S:=sp 62 [(1, .ptr 0 0 [] 0),(3, .int a.left),(5, .int a.i)] [.box 25 (Gg a)]
theorem WO(κ:Kp)(a:It)(I:Nat->S->Prop)(n:Nat)(K:Exit->S->Prop):(vc (z0 κ) 12 29 none 0 (ag (Pr κ).toProgram 29 8) (IH a) (bB (z0 κ) 29 8 0 I n K))=(
 letI z2:=AV.agg [AV.ad 43 a.ds,AV.ad 48 a.rs]
 letI z1:=K (Exit.exit 2) (sp 62 [(1,AV.ptr 0 0 [] 0),(3,AV.int a.left)] [Obj.box 25 z2])
 letI z3:=nth a.rs a.i.toNat
 letI z4:=a.i<(↑(a.rs.length):Int)
 aw (decide z4) (aw (decide (a.left>=(0:Int))) (aP (decide ((0:Int)<=a.i)&&decide z4) (aP (decide ((0:Int)<=a.left)&&decide (a.left<=(100000:Int))) (∃(e0:Nat),e0<n/\I e0 (sp 62 [(1,AV.ptr 0 0 [] 0),(3,AV.lit (Value.int IntKind.i64 (lP {head:={rel:=toStr (af (af z3 0) 0),l:=aa (ah (af (af z3 0) 1))},body:=dh (ah (af z3 1))} a.left))),(5,AV.int (IntKind.wrap IntKind.i64 (a.i+(1:Int))))] [Obj.box 25 z2])))) z1) z1):=by kernel_rfl
def EA(a:It):Prop:= -1<=a.left/\a.i+a.left<=100000/\0<=a.i/\a.i<=a.rs.length
def zh(a:It):Out (Exit×S):= .one (.exit 2,sp 62 [(1, .ptr 0 0 [] 0),(3, .int (lA ((a.rs.drop a.i.toNat).map uU) a.left))] [.box 25 (Gg a)])
theorem VB(κ:Kp):bf (z0 κ) 12 29 8 (aR 0 IH EA zh):=by
 refine aG (fun a=>a.rs.length - a.i.toNat) ?_
 rintro⟨ds,rs,left,i⟩ K ⟨h1,h2,h3,h4⟩ ho
 simp only at h1 h2 h3 h4
 rw[show(z0 κ).P=Pr κ from rfl]
 refine Eq.mpr (WO κ ⟨ds,rs,left,i⟩ _ _ K) ?_
 simp only[zh,Out.run] at ho
 by_cases hi:i<rs.length
 ·have hi':i.toNat<rs.length:=by omega
  rw[ab1 hi',←a7 rs i.toNat hi',ac0,lA] at ho
  by_cases hl:left>=0
  ·have hz:=ue (uU (nth rs i.toNat)) left hl
   rw[aa6 (show 0<=left from hl),aa7] at ho
   rw[aa6 (show i<(rs.length:Int) from hi),aa6 hl,aC (n:=i+1) (by omega) (by omega)]
   simp only[aw,ai,aa1,aa0]
   refine⟨⟨h3,trivial⟩,⟨trivial,by omega⟩,_,?_,⟨ds,rs,lP (uU (nth rs i.toNat)) left,i+1⟩,rfl,⟨by simp only;omega,by simp only;omega,by simp only;omega,by simp only;omega⟩,rfl,?_⟩
   ·simp only;omega
   ·simp only[zh,Out.run,show(i+1).toNat=i.toNat+1 by omega]
    exact ho
  ·rw[aa4 (show ¬ 0<=left from hl),aa5] at ho
   rw[aa6 (show i<(rs.length:Int) from hi),aa4 hl]
   exact ho
 ·rw[aa8 (by omega)] at ho
  rw[aa4 (show ¬ i<(rs.length:Int) from hi)]
  exact ho
noncomputable def JY(κ:Kp):Env:=(z0 κ).ar 29 8 (aR 0 IH EA zh)
theorem VA(κ:Kp):aE (JY κ):=(XO κ).ar (S6 κ) (VB κ)
theorem Q6(κ:Kp):aj (JY κ):=(S6 κ).ar aW
theorem y22(κ:Kp)(ds rs:List AV)(K:AV->List Dn.Obj->Prop):(ba (JY κ) 12 29 [.agg [.ad 43 ds, .ad 48 rs]] [] K)=(
 letI z1:=K (AV.int 0) []
 letI z2:=Pg.toProgram (Env.P (L3 κ))
 letI z3:=Pg.toProgram (Env.P (z0 κ))
 ag z2 29 3=ag z2 29 3/\∃(e1:It),sp 62 [(1,AV.ptr 0 0 [] 0),(3,AV.int 2000),(4,AV.int 0)] [Obj.box 25 (AV.agg [AV.ad 43 ds,AV.ad 48 rs])]=sp 62
 [(1,AV.ptr 0 0 [] 0),(3,AV.int e1.left),(4,AV.int e1.i)] [Obj.box 25 (AV.agg [AV.ad 43 e1.ds,AV.ad 48 e1.rs])]/\(e1.ds.length<=9223372036854775807/\(∀
 (e0:AV),List.Mem e0 e1.ds->List.length (ah (af e0 1))<=9223372036854775807)/\(0:Int)<=e1.i/\e1.i<=(↑(e1.ds.length):Int))/\aw (List.any (List.drop
 e1.i.toNat e1.ds) Hs) z1 (ag z3 29 8=ag z3 29 8/\∃(e0:It),sp 62 [(1,AV.ptr 0 0 [] 0),(3,AV.int e1.left),(5,AV.int 0)] [Obj.box 25 (AV.agg [AV.ad 43
 e1.ds,AV.ad 48 e1.rs])]=sp 62 [(1,AV.ptr 0 0 [] 0),(3,AV.int e0.left),(5,AV.int e0.i)] [Obj.box 25 (AV.agg [AV.ad 43 e0.ds,AV.ad 48 e0.rs])]/\((-1:
 Int)<=e0.left/\e0.i+e0.left<=(100000:Int)/\(0:Int)<=e0.i/\e0.i<=(↑(e0.rs.length):Int))/\aw (decide (lA (List.map uU (List.drop e0.i.toNat
 e0.rs)) e0.left<(0:Int))) z1 (aw (decide ((↑(e0.ds.length):Int)>(100:Int))) z1 (aw (decide ((↑(e0.rs.length):Int)>(300:Int))) z1 (K (AV.int 1)
 []))))):=by kernel_rfl
def Xp:List AV->Option (Bool×AV)
 |[.agg [.ad 43 ds, .ad 48 rs]]=>some (decide (ds.length<=aL)&&ds.all (fun d=>decide ((ah (af d 1)).length<=aL)), .int (bif ju ds rs then 1 else 0))
 |_=>none
theorem p22(κ:Kp):cj (JY κ) 12 29 Xp:=by
 intro args x hh
 unfold Xp at hh
 split at hh
 ·rename_i ds rs
  simp only[aa3,aa9,aa1,aa0,List.all_eq_true] at hh
  obtain⟨⟨h1,h2⟩,rfl⟩:=hh
  refine⟨_,rfl,rfl,?_⟩
  refine Eq.mpr (y22 κ ds rs _) ?_
  refine⟨rfl,⟨ds,rs,2000,0⟩,rfl,⟨h1,h2,by simp only;omega,by simp only;omega⟩,?_⟩
  simp only[ab7,ab0,ae]
  refine⟨fun e=>?_,fun e=>⟨trivial,⟨ds,rs,2000,0⟩,rfl,⟨by simp only;omega,by simp only;omega,by simp only;omega,by simp only;omega⟩,?_⟩⟩
  ·unfold ju;rw[e];rfl
  ·simp only[ab7,ab0,aa0,aa2]
   refine⟨fun e1=>?_,fun e1=>⟨fun e2=>?_,fun e2=>⟨fun e3=>?_,fun e3=>?_⟩⟩⟩
   ·unfold ju;rw[e,aa4 (show ¬ 0<=lA (rs.map uU) 2000 by omega)];rfl
   ·unfold ju;rw[aa4 (show ¬ ds.length<=100 by omega)];simp
   ·unfold ju;rw[aa4 (show ¬ rs.length<=300 by omega)];simp
   ·unfold ju;rw[e,aa6 (show 0<=lA (rs.map uU) 2000 by omega),aa6 (show ds.length<=100 by omega),aa6 (show rs.length<=300 by omega)];rfl
 ·cases hh
noncomputable def WX(κ:Kp):Env:=(JY κ).aK 29 Xp
theorem e22(κ:Kp):aE (WX κ):=(VA κ).aK (Q6 κ) (p22 κ)
theorem m22(κ:Kp):aj (WX κ):=(Q6 κ).aK
end Go.Proofs.YtioeffnadipbaaaGreatDoor
namespace Go.Proofs.YtioeffnadipbaaaGreatDoor
open Go Go.Dn Go.Rl Go.Proofs
noncomputable abbrev Vi(κ:Kp):Env:=WX κ
theorem e15(κ:Kp):aE (Vi κ):=e22 κ
theorem m15(κ:Kp):aj (Vi κ):=m22 κ
theorem n8{b c:Bool}(h:b=c):AV.bool b= .lit (.bool c):=by rw[h]
theorem UB(a b:Int):(a==b)=decide (a=b):=by by_cases h:a=b<;>simp[h]
theorem Kb(a b:Int):(a != b)= !decide (a=b):=by by_cases h:a=b<;>simp[h]
structure AT where
 op:Int
 s:ByteArray
 n:Int
 l:List AV
def AT.tm(a:AT):Tm:= .mk a.op a.s a.n (aa a.l)
def sQ(x:AV):AT:=⟨toInt (af x 0),toStr (af x 1),toInt (af x 2),ah (af x 3)⟩
theorem j8(x:AV):(sQ x).tm=cI x:=by rw[cP];rfl
abbrev cz(a:AT):AV:= .agg [.int a.op, .lit (.string a.s), .int a.n, .ad 38 a.l]
theorem xO{a:cf}(h:da a):(dc (aF a)).length<=100000:=by
 have h6:=cy (aa (bh 38 a.hl a.bl))
 rw[ir 38 a.rel a.hl a.bl] at h6
 have h7:=kg (ff (aF a)) []
 unfold dc
 cases aV (aF a)
 ·exact Nat.zero_le _
 ·rw[aa7];exact Nat.le_trans h7 (Nat.le_trans h6 h.1)
end Go.Proofs.YtioeffnadipbaaaGreatDoor
