import Derived.Test.YtioeffnadipbaaaGreatDoorDeP4
import Derived.Test.YtioeffnadipbaaaGreatDoorDeP1
namespace Go.Proofs.YtioeffnadipbaaaGreatDoor
open Go Go.Dn Go.Rl Go.Proofs
attribute [local irreducible] a8 vc
set_option maxRecDepth 20000
noncomputable abbrev lp8(a:dt)(b:List AV)(κ:Kp)(st:LoopState)(p:Option Code):Dn.Obj:=
 .loop (iE (Pr κ).toProgram 89 5 st p (ig (bL 63) [(0,aw a),(1, .ptr 0 0 [] 0),(2, .ptr 1 0 [] 0),(3, .ptr 2 0 [] 0),(4, .ax 3 0 b.length),(5, .int 0),(10, .aK [.ax 3 0 b.length, .int 0]),(11,aw a),(12, .aK [.ax 3 0 b.length, .int 0]),(13, .ax 3 0 b.length),(14, .int 0),(15, .int 0),(16, .bool false),(18,aw a),(19, .bp 169 [.ptr 4 0 [] 0])]))
noncomputable abbrev Gg κ a c b st p:=[.box 48 (aw a), .box 4 (.bool b), .box 32 (.int 0), .row 3 c, .box 48 (aw a),lp8 a c κ st p]
theorem x8(κ:Kp)(a:dt) ws es done(i:Int) I(n:Nat) K:(vc (O6 κ) 12 169 none 6 (ah (Pr κ).toProgram 169 3) (sp 38 [(0, .bJ 5),(1, .ptr 4 0 [] 0),(3, .mp 6),(4, .ax 7 0 done.length),(13, .int a.bl.length),(14, .int i)] (Gg κ a ws false .ready none++[.map 9 4 es, .row 4 done])) (bh (O6 κ) 169 3 6 I n K))=(
 letI b:=AV.int
 letI c:=AV.ptr
 letI d:=AV.agg
 letI e:=AV.str
 letI f:=Obj.box
 letI g:=Obj.row
 letI h:=Dn.Obj.map
 letI j:=AV.ad
 letI k:=AV.ax
 letI l:=AV.mp
 letI C:=ig (bL 63) [(0,aw a),(1,c 0 0 [] 0),(2,c 1 0 [] 0),(3,c 2 0 [] 0),(4,k 3 0 ws.length),(5,b 0),(10,AV.aK [k 3
  0 ws.length,b 0]),(11,aw a),(12,AV.aK [k 3 0 ws.length,b 0]),(13,k 3 0 ws.length),(14,b 0),(15,b 0),(16,AV.bool
  false),(18,aw a),(19,AV.bp 169 [c 4 0 [] 0])]
 letI z:=iE Tryz.prog 89 5 LoopState.ready none C
 letI D:=IntKind.wrap IntKind.i64 (i+(1:Int))
 letI x:=a.bl.length
 letI A:=AV.bool false
 letI E:=sp 38 [] [f 48 (aw a),f 4 A,f 32 (b 0),g 3 ws,f 48 (aw a),Dn.Obj.loop z]
 letI F:=AV.bool true
 letI y:=K Exit.ret (sp 38 [] [f 48 (aw a),f 4 F,f 32 (b 0),g 3 ws,f 48 (aw a),Dn.Obj.loop (iE Tryz.prog 89 5
  LoopState.done (some Code.ret) C)])
 letI G:=done.length
 letI p:=Value×AV
 an (decide (i<(↑x:Int))) (∃(e5:KC),letI o:=aE (aH e5.a) e5.done e5.b;letI m:=nth a.bl (Int.toNat o);letI q:=(0:Int)<=aE (aH e5.a) e5.done e5.b;letI r:=decide q&&decide (aE (aH e5.a) e5.done e5.b<(↑G:Int));letI B:=[l 0,d [b (toInt (af (af m 3) 0)),e (toStr (af (af m 3) 1)),b (toInt (af (af m 3) 2)),j 38 (aa (af (af m 3) 3))],d [b (toInt (af (af m 2) 0)),e (toStr (af (af m 2) 1)),b (toInt (af (af m 2) 2)),j 38 (aa (af (af m 2) 3))]];letI s:=bQ (bZ e5.done) (0+Int.toNat o) F;letI t:=decide ((7:Int)<=toInt (af m 0));letI u:=[h 9 4 (bP e5.b)];([aw a,k 0 0 done.length,l 1],[g 4 done,h 9 4 es])=([aw e5.a,k 0 0 (List.length (bZ e5.done)),l 1],[g 4 (bZ e5.done),h 9 4 (bP e5.b)])/\(ba (aH e5.a)=true/\(aM (ae (bk 38 e5.a.hl e5.a.bl))<=100000/\List.length e5.a.bl<=100000)/\e5.done.length=List.length e5.a.bl)/\an (decide (aE (aH e5.a) e5.done e5.b<(0:Int))) (K Exit.ret E) (aG (decide q&&decide (aE (aH e5.a) e5.done e5.b<(↑x:Int))) (an (toInt (af m 0)==(3:Int)) (∃(e4:TA),letI v:=∃(e3:TA),letI w:=an t y (aG r (∃(e2:dt×Int),([aw a,b o],aO)=([aw e2.1,b e2.2],aO)/\(ba (aH e2.1)=true/\(aM (ae (bk 38 e2.1.hl e2.1.bl))<=100000/\e2.1.bl.length<=100000)/\(0:Int)<=e2.2/\e2.2<(↑(e2.1.bl.length):Int))/\∃(e1:List AV×List p),([l 0,j 9 (strs (cW (aH e2.1) e2.2.toNat))],[h 9 4 e3.es])=([l 0,j 9 e1.1],[h 9 4 e1.2])/\bm e1/\∃(e0:Nat),e0<n/\I e0 (sp 38 [(0,AV.bJ 5),(1,c 4 0 [] 0),(3,l 6),(4,k 7 0 done.length),(13,b (↑x:Int)),(14,b D)] [f 48 (aw a),f 4 A,f 32 (b 0),g 3 ws,f 48 (aw a),Dn.Obj.loop z,h 9 4 (fU e1.2 e1.1),g 4 s])));(B,[h 9 4 e4.es])=([l 0,d [b e3.o1,e e3.s1,b e3.n1,j 38 e3.l1],d [b e3.o2,e e3.s2,b e3.n2,j 38 e3.l2]],[h 9 4 e3.es])/\jr e3/\an (mi e3.es (TA.x e3) (TA.y e3)) (an (decide (toInt (af (af m 2) 0)>=(5:Int))) y w) w;([l 0,d [b (toInt (af (af m 2) 0)),e (toStr (af (af m 2) 1)),b (toInt (af (af m 2) 2)),j 38 (aa (af (af m 2) 3))],d [b (toInt (af (af m 3) 0)),e (toStr (af (af m 3) 1)),b (toInt (af (af m 3) 2)),j 38 (aa (af (af m 3) 3))]],u)=([l 0,d [b e4.o1,e e4.s1,b e4.n1,j 38 e4.l1],d [b e4.o2,e e4.s2,b e4.n2,j 38 e4.l2]],[h 9 4 e4.es])/\jr e4/\an (mi e4.es (TA.x e4) (TA.y e4)) (an (decide (toInt (af (af m 3) 0)>=(5:Int))) y v) v) (an t y (aG r (∃(e2:dt×Int),([aw a,b o],aO)=([aw e2.1,b e2.2],aO)/\(ba (aH e2.1)=true/\(aM (ae (bk 38 e2.1.hl e2.1.bl))<=100000/\e2.1.bl.length<=100000)/\(0:Int)<=e2.2/\e2.2<(↑(e2.1.bl.length):Int))/\∃(e1:List AV×List p),([l 0,j 9 (strs (cW (aH e2.1) e2.2.toNat))],u)=([l 0,j 9 e1.1],[h 9 4 e1.2])/\bm e1/\∃(e0:Nat),e0<n/\I e0 (sp 38 [(0,AV.bJ 5),(1,c 4 0 [] 0),(3,l 6),(4,k 7 0 done.length),(13,b (↑x:Int)),(14,b D)] [f 48 (aw a),f 4 A,f 32 (b 0),g 3 ws,f 48 (aw a),Dn.Obj.loop z,h 9 4 (fU e1.2 e1.1),g 4 s]))))))) (K (Exit.exit 0) E)):=by kernel_rfl
structure A8 where
 a:dt
 ws:List AV
 done:List Bool
 b:List ByteArray
 i:Int
noncomputable abbrev Q1 κ(a:A8):=sp 38 [(0, .bJ 5),(1, .ptr 4 0 [] 0),(3, .mp 6),(4, .ax 7 0 (bZ a.done).length),(13, .int a.a.bl.length),(14, .int a.i)] (Gg κ a.a a.ws false .ready none++[.map 9 4 (bP a.b), .row 4 (bZ a.done)])
def FV(a:A8):=ba (aH a.a)=true/\dk a.a/\0<=a.i/\a.i<=a.a.bl.length/\a.done.length=a.a.bl.length
noncomputable def Jk(a:A8):=L5 (aH a.a) (a.a.bl.length - a.i.toNat) a.done a.b
noncomputable def CZ(κ:Kp)(a:A8):Out (Exit×S):= .an (Jk a) (.one (.ret,sp 38 [] (Gg κ a.a a.ws true .done (some .ret)))) (.all (fun _=>True) fun e=> .an e (.one (.ret,sp 38 [] (Gg κ a.a a.ws false .ready none))) (.one (.exit 0,sp 38 [] (Gg κ a.a a.ws false .ready none))))
theorem Jm r n done b:L5 r (n+1) done b=
  bif decide (aE r done b<0) then false else Jl r b (aE r done b).toNat||L5 r n (done.set (aE r done b).toNat true) (b++cW r (aE r done b).toNat):=rfl
theorem l8 κ:aP (O6 κ) 12 169 3 (aI 6 (Q1 κ) FV (CZ κ)):=by
 refine aD (fun a=>a.a.bl.length - a.i.toNat) ?_;rintro⟨a,F,done,b,i⟩ K ⟨v,p,W,U,H⟩ s;simp only at v p W U H;rw[show(O6 κ).P=Pr κ from rfl];refine Eq.mpr (x8 κ a F (bP b) (bZ done) i _ _ K) ?_;simp only[CZ,Out.run,ag,Jk] at s;simp only[and_self];have I:=jF done;have hl:=p.2;rw[ag,an2,an4];refine⟨fun V=>⟨⟨a,done,b,0,0⟩,rfl,⟨v,p,H⟩,?_⟩,fun V=>?_⟩
 ·have N:=Jm (aH a) (a.bl.length - (i.toNat+1)) done b
  rw[show a.bl.length - (i.toNat+1)+1=a.bl.length - i.toNat by omega] at N;rw[ag,an2,an4];refine⟨fun e=>?_,fun e=>?_⟩
  ·rw[N,an8 e] at s
   exact(s.2 rfl true trivial).1 rfl
  ·rw[N,an6 e,an7] at s
   rcases qX (aH a) done b with e0|⟨z,X,Y,_⟩
   ·rw[e0] at e;omega
   have r:=X;rw[fK] at r;have Z:=th p r;have Q:=ly p r;have l:aE (aH a) done b<a.bl.length:=by omega
   have q:bm (strs (cW (aH a) (aE (aH a) done b).toNat),bP b):=by simp only[bm,aR,aU];omega
   have u:(decide (0<=aE (aH a) done b)&&decide (aE (aH a) done b<(a.bl.length:Int)))=true:=by simp[z,l]
   have d:(decide (0<=aE (aH a) done b)&&decide (aE (aH a) done b<((bZ done).length:Int)))=true:=by rw[I,H];exact u
   have O:jh (c9 (nth a.bl (aE (aH a) done b).toNat))=aM [bX (af (nth a.bl (aE (aH a) done b).toNat) 2),bX (af (nth a.bl (aE (aH a) done b).toNat) 3)]+aM (ae (aa (af (af (nth a.bl (aE (aH a) done b).toNat) 1) 1))):=rfl;have A:aM [bX (af (nth a.bl (aE (aH a) done b).toNat) 2)]<=100000/\aM [bX (af (nth a.bl (aE (aH a) done b).toNat) 3)]<=100000:=by
    simp only[aM] at O⊢;omega
   have L:jr (mr (af (nth a.bl (aE (aH a) done b).toNat) 2) (af (nth a.bl (aE (aH a) done b).toNat) 3) (bP b)):=by unfold jr mr;rw[px];exact A.2
   have C:jr (mr (af (nth a.bl (aE (aH a) done b).toNat) 3) (af (nth a.bl (aE (aH a) done b).toNat) 2) (bP b)):=by unfold jr mr;rw[px];exact A.1
   have J:mi (mr (af (nth a.bl (aE (aH a) done b).toNat) 2) (af (nth a.bl (aE (aH a) done b).toNat) 3) (bP b)).es (mr (af (nth a.bl (aE (aH a) done b).toNat) 2) (af (nth a.bl (aE (aH a) done b).toNat) 3) (bP b)).x (mr (af (nth a.bl (aE (aH a) done b).toNat) 2) (af (nth a.bl (aE (aH a) done b).toNat) 3) (bP b)).y=mh b (bX (af (nth a.bl (aE (aH a) done b).toNat) 2)) (bX (af (nth a.bl (aE (aH a) done b).toNat) 3)):=by
    unfold mr;rw[B0,px,pM]
   have B:mi (mr (af (nth a.bl (aE (aH a) done b).toNat) 3) (af (nth a.bl (aE (aH a) done b).toNat) 2) (bP b)).es (mr (af (nth a.bl (aE (aH a) done b).toNat) 3) (af (nth a.bl (aE (aH a) done b).toNat) 2) (bP b)).x (mr (af (nth a.bl (aE (aH a) done b).toNat) 3) (af (nth a.bl (aE (aH a) done b).toNat) 2) (bP b)).y=mh b (bX (af (nth a.bl (aE (aH a) done b).toNat) 3)) (bX (af (nth a.bl (aE (aH a) done b).toNat) 2)):=by
    unfold mr;rw[B0,px,pM]
   have c:Jl (aH a) b (aE (aH a) done b).toNat=((decide (toInt (af (nth a.bl (aE (aH a) done b).toNat) 0)=3)&&(mh b (bX (af (nth a.bl (aE (aH a) done b).toNat) 2)) (bX (af (nth a.bl (aE (aH a) done b).toNat) 3))&&decide (toInt (af (af (nth a.bl (aE (aH a) done b).toNat) 3) 0)>=5)||mh b (bX (af (nth a.bl (aE (aH a) done b).toNat) 3)) (bX (af (nth a.bl (aE (aH a) done b).toNat) 2))&&decide (toInt (af (af (nth a.bl (aE (aH a) done b).toNat) 2) 0)>=5)))||decide (7<=toInt (af (nth a.bl (aE (aH a) done b).toNat) 0))):=by
    have T:(bX (af (nth a.bl (aE (aH a) done b).toNat) 2)).op=toInt (af (af (nth a.bl (aE (aH a) done b).toNat) 2) 0):=by rw[cF];rfl
    have R:(bX (af (nth a.bl (aE (aH a) done b).toNat) 3)).op=toInt (af (af (nth a.bl (aE (aH a) done b).toNat) 3) 0):=by rw[cF];rfl
    unfold Jl;rw[show(aH a).body=dB a.bl from rfl,kJ _ r,show(c9 (nth a.bl (aE (aH a) done b).toNat)).op=toInt (af (nth a.bl (aE (aH a) done b).toNat) 0) from rfl,show(c9 (nth a.bl (aE (aH a) done b).toNat)).x=bX (af (nth a.bl (aE (aH a) done b).toNat) 2) from rfl,show(c9 (nth a.bl (aE (aH a) done b).toNat)).y=bX (af (nth a.bl (aE (aH a) done b).toNat) 3) from rfl,T,R]
   have f:(toInt (af (nth a.bl (aE (aH a) done b).toNat) 0)==3)=true->decide (toInt (af (nth a.bl (aE (aH a) done b).toNat) 0)=3)=true:=fun e=>by simpa using e
   have D:(toInt (af (nth a.bl (aE (aH a) done b).toNat) 0)==3)=false->decide (toInt (af (nth a.bl (aE (aH a) done b).toNat) 0)=3)=false:=fun e=>by simpa using e
   have h:Jl (aH a) b (aE (aH a) done b).toNat=true->K .ret (sp 38 [] (Gg κ a F true .done (some .ret))):=fun e=>s.1 (by rw[e];rfl)
   have E:Jl (aH a) b (aE (aH a) done b).toNat=false->∃m,m<a.bl.length - i.toNat/\gq (Q1 κ) FV (CZ κ) (fun a=>a.a.bl.length - a.i.toNat) K m (sp 38 [(0, .bJ 5),(1, .ptr 4 0 [] 0),(3, .mp 6),(4, .ax 7 0 (bZ done).length),(13, .int a.bl.length),(14, .int (IntKind.wrap .i64 (i+1)))] (Gg κ a F false .ready none++[.map 9 4 (fU (bP b) (strs (cW (aH a) (aE (aH a) done b).toNat))), .row 4 (bQ (bZ done) (0+(aE (aH a) done b).toNat) (.lit (.bool true)))])):=by
    intro e;rw[e,Bool.false_or] at s;rw[ay (n:=i+1) (by omega) (by omega)];refine⟨_,?_,⟨a,F,done.set (aE (aH a) done b).toNat true,b++cW (aH a) (aE (aH a) done b).toNat,i+1⟩,?_,⟨v,p,by simp only;omega,by simp only;omega,by simpa using H⟩,rfl,?_⟩
    ·simp only;omega
    ·simp only[Q1,Nat.zero_add,rm,mS,jF,List.length_set]
    ·simp only[CZ,Out.run,ag,Jk,show(i+1).toNat=i.toNat+1 by omega]
     exact s
   rw[ai];refine⟨u,?_⟩;rw[ag];exact⟨fun j=>⟨mr (af (nth a.bl (aE (aH a) done b).toNat) 2) (af (nth a.bl (aE (aH a) done b).toNat) 3) (bP b),rfl,L,by
   rw[J];exact ag.2 ⟨fun o=>ag.2 ⟨fun w=>h (by rw[c,f j,o,w];simp),fun w=>⟨mr (af (nth a.bl (aE (aH a) done b).toNat) 3) (af (nth a.bl (aE (aH a) done b).toNat) 2) (bP b),rfl,C,by
   rw[B];exact ag.2 ⟨fun k=>ag.2 ⟨fun t=>h (by rw[c,f j,o,w,k,t];simp),fun t=>ag.2 ⟨fun g=>h (by rw[c,f j,o,w,k,t,g];simp),fun g=>ai.2 ⟨d,(a,(aE (aH a) done b)),rfl,⟨v,p,z,l⟩,(strs (cW (aH a) (aE (aH a) done b).toNat),bP b),rfl,q,E (by rw[c,f j,o,w,k,t,g];simp)⟩⟩⟩,fun k=>ag.2 ⟨fun g=>h (by rw[c,f j,o,w,k,g];simp),fun g=>ai.2 ⟨d,(a,(aE (aH a) done b)),rfl,⟨v,p,z,l⟩,(strs (cW (aH a) (aE (aH a) done b).toNat),bP b),rfl,q,E (by rw[c,f j,o,w,k,g];simp)⟩⟩⟩⟩⟩,fun o=>⟨mr (af (nth a.bl (aE (aH a) done b).toNat) 3) (af (nth a.bl (aE (aH a) done b).toNat) 2) (bP b),rfl,C,by
   rw[B];exact ag.2 ⟨fun k=>ag.2 ⟨fun t=>h (by rw[c,f j,o,k,t];simp),fun t=>ag.2 ⟨fun g=>h (by rw[c,f j,o,k,t,g];simp),fun g=>ai.2 ⟨d,(a,(aE (aH a) done b)),rfl,⟨v,p,z,l⟩,(strs (cW (aH a) (aE (aH a) done b).toNat),bP b),rfl,q,E (by rw[c,f j,o,k,t,g];simp)⟩⟩⟩,fun k=>ag.2 ⟨fun g=>h (by rw[c,f j,o,k,g];simp),fun g=>ai.2 ⟨d,(a,(aE (aH a) done b)),rfl,⟨v,p,z,l⟩,(strs (cW (aH a) (aE (aH a) done b).toNat),bP b),rfl,q,E (by rw[c,f j,o,k,g];simp)⟩⟩⟩⟩⟩⟩,fun j=>ag.2 ⟨fun g=>h (by rw[c,D j,g];simp),fun g=>ai.2 ⟨d,(a,(aE (aH a) done b)),rfl,⟨v,p,z,l⟩,(strs (cW (aH a) (aE (aH a) done b).toNat),bP b),rfl,q,E (by rw[c,D j,g];simp)⟩⟩⟩
 ·rw[show a.bl.length - i.toNat=0 by omega] at s
  exact(s.2 rfl false trivial).2 rfl
noncomputable def V6 κ:=(O6 κ).aq 169 3 (aI 6 (Q1 κ) FV (CZ κ))
theorem e8l κ:aF (V6 κ):=(e10 _).aq (m10 _) (l8 _)
theorem m8l κ:aj (V6 κ):=(m10 _).aq a0
theorem y8 κ a K:(a8 (V6 κ) 12 89 [aw a] [] K)=(
 letI b:=AV.int
 letI c:=AV.ptr
 letI d:=AV.bool
 letI e:=Obj.box
 letI f:=Obj.row
 letI g:=AV.aK
 letI h:=AV.ax
 letI i:=a.bl.length
 letI l:=K (g [d false,b 0]) []
 letI m:=Pg.toProgram (Env.P (O6 κ))
 letI k:=d false
 letI n:=Int.toNat (↑i:Int)
 ∃(e2:dt),letI j:=List.length (bI (aH e2));([aw a],aO)=([aw e2],aO)/\(aM (ae (bk 38 e2.hl e2.bl))<=100000/\e2.bl.length<=100000)/\an (ba (aH e2)) (an (lv (aH e2)) (aG (true&&decide ((↑i:Int)<=(↑i:Int))&&decide ((Int.toNat (↑i:Int)+1)*2<=70368744177664)&&true) (ah m 169 3=ah m 169 3/\∃(e1:A8),letI o:=[h 3 0 e1.ws.length,b 0];sp 38 [(0,AV.bJ 5),(1,c 4 0 [] 0),(3,AV.mp 6),(4,h 7 0 n),(13,b (↑i:Int)),(14,b 0)] [e 48 (aw a),e 4 k,e 32 (b 0),f 3 (ints (bI (aH e2))),e 48 (aw a),Dn.Obj.loop (iE Tryz.prog 89 5 LoopState.ready none (ig (bL 63) [(0,aw a),(1,c 0 0 [] 0),(2,c 1 0 [] 0),(3,c 2 0 [] 0),(4,h 3 0 j),(5,b 0),(10,g [h 3 0 j,b 0]),(11,aw a),(12,g [h 3 0 j,b 0]),(13,h 3 0 j),(14,b 0),(15,b 0),(16,d false),(18,aw a),(19,AV.bp 169 [c 4 0 [] 0])])),Dn.Obj.map 9 4 [],f 4 (gm k n)]=sp 38 [(0,AV.bJ 5),(1,c 4 0 [] 0),(3,AV.mp 6),(4,h 7 0 (List.length (bZ e1.done))),(13,b (↑(List.length e1.a.bl):Int)),(14,b e1.i)] [e 48 (aw e1.a),e 4 k,e 32 (b 0),f 3 e1.ws,e 48 (aw e1.a),Dn.Obj.loop (iE Tryz.prog 89 5 LoopState.ready none (ig (bL 63) [(0,aw e1.a),(1,c 0 0 [] 0),(2,c 1 0 [] 0),(3,c 2 0 [] 0),(4,h 3 0 e1.ws.length),(5,b 0),(10,g o),(11,aw e1.a),(12,g o),(13,h 3 0 e1.ws.length),(14,b 0),(15,b 0),(16,d false),(18,aw e1.a),(19,AV.bp 169 [c 4 0 [] 0])])),Dn.Obj.map 9 4 (bP e1.b),f 4 (bZ e1.done)]/\(ba (aH e1.a)=true/\(aM (ae (bk 38 e1.a.hl e1.a.bl))<=100000/\List.length e1.a.bl<=100000)/\(0:Int)<=e1.i/\e1.i<=(↑(List.length e1.a.bl):Int)/\e1.done.length=List.length e1.a.bl)/\an (Jk e1) (K (g [d true,b 0]) []) (∀(e0:Bool),True->an e0 l l))) (K (g [d false,b 60]) [])) (K (g [d false,b 30]) [])):=by kernel_rfl
def Uj(a:dt):Out (AV×List Dn.Obj):= .an (ba (aH a)) (.an (lv (aH a)) (.one (.aK [.bool (TX (aH a)), .int 0],[])) (.one (.aK [.bool false, .int 60],[]))) (.one (.aK [.bool false, .int 30],[]))
theorem c8 κ:bq (V6 κ) 12 89 (aX DI dk Uj):=by
 refine a7 ?_;rintro a K e c;refine Eq.mpr (y8 κ a K) ?_;simp only[Uj,Out.run,ag] at c;have i:=e.2;refine⟨a,rfl,e,?_⟩;rw[ag];refine⟨fun b=>?_,fun b=>c.2 b⟩;rw[ag];refine⟨fun d=>?_,fun d=>(c.1 b).2 d⟩;have h:=mX d;have f:=(c.1 b).1 d;simp only[ai,an3,an2,Int.toNat_natCast];have g:Jk ⟨a,ints (bI (aH a)),List.replicate a.bl.length false,[],0⟩=TX (aH a):=by
  unfold Jk TX;rw[fK];rfl
 refine⟨by grind,trivial,⟨a,ints (bI (aH a)),List.replicate a.bl.length false,[],0⟩,?_,⟨b,e,by simp only;omega,by simp only;omega,by simp⟩,?_⟩
 ·simp only[uV,jF,sb,List.length_replicate];rfl
 grind [ag]
noncomputable def E8 κ:=(V6 κ).aB 89 (aX DI dk Uj)
theorem e8 κ:aF (E8 κ):=(e8l _).aB (m8l _) (c8 _)
theorem m8 κ:aj (E8 κ):=(m8l _).aB aZ
def Vx:List AV->Option (Bool×AV)
 |[.agg [.lit (.int .i64 b), .lit (.string s), .lit (.int .i64 n), .ad 38 l], .lit (.int .i64 a)]=>some (decide (0<=a)&&decide (a<=100000), .int ((Tm.mk b s n (ae l)).size a))
 |_=>none
def Kz:List AV->Nat
 |[.agg [_,_,_, .ad _ l],_]=>aM (ae l)
 |_=>0
noncomputable def En κ n:=(E8 κ).aV 105 (below Vx Kz n)
structure Zr where
 op:Int
 s:ByteArray
 n:Int
 l:List AV
 left:Int
 i:Int
abbrev Of(a:Zr):=sp 31 [(1, .int a.left),(2, .ptr 0 0 [] 0),(5, .int a.i)] [.box 38 (.agg [.int a.op, .lit (.string a.s), .int a.n, .ad 38 a.l])]
theorem x54 κ r a I n K:(vc (En κ r) 12 105 none 0 (ah (Pr κ).toProgram 105 5) (Of a) (bh (En κ r) 105 5 0 I n K))=(
 letI b:=AV.int
 letI c:=nth a.l a.i.toNat
 letI d:=K (Exit.exit 0) (sp 31 [(1,b a.left)] [])
 letI e:=a.i<(↑(a.l.length):Int)
 an (decide e) (an (decide (a.left>=(0:Int))) (aG (decide ((0:Int)<=a.i)&&decide e) (aG (decide ((0:Int)<=a.left)&&decide (a.left<=(100000:
 Int))&&Nat.blt (Kz [AV.agg [b (toInt (af c 0)),AV.str (toStr (af c 1)),b (toInt (af c 2)),AV.ad 38 (aa (af c 3))],b a.left]) r) (∃(e0
 :Nat),e0<n/\I e0 (sp 31 [(1,b (Tm.size (Tm.mk (toInt (af c 0)) (toStr (af c 1)) (toInt (af c 2)) (ae (aa (af c 3)))) a.left)),(2,AV.ptr 0 0 []
 0),(5,b (IntKind.wrap IntKind.i64 (a.i+(1:Int))))] [Obj.box 38 (AV.agg [b a.op,AV.str a.s,b a.n,AV.ad 38 a.l])])))) d) d):=by kernel_rfl
def HK r(a:Zr):= -1<=a.left/\a.i+a.left<=100000/\0<=a.i/\a.i<=a.l.length/\aM (ae (a.l.drop a.i.toNat))<=r
def Bq(a:Zr):Out (Exit×S):= .one (.exit 0,sp 31 [(1, .int (js (ae (a.l.drop a.i.toNat)) a.left))] [])
theorem l54 κ r:aP (En κ r) 12 105 5 (aI 0 Of (HK r) Bq):=by
 refine aD (fun a=>a.l.length - a.i.toNat) ?_;rintro⟨f,s,n,l,b,i⟩ K ⟨j,k,g,h,m⟩ c;simp only at j k g h m;rw[show(En κ r).P=Pr κ from rfl];refine Eq.mpr (x54 κ r ⟨f,s,n,l,b,i⟩ _ _ K) ?_;simp only[Bq,Out.run] at c;simp only[ag,ai,an2,an4,an3,Nat.blt_eq,←cF];refine⟨fun e=>⟨fun d=>⟨⟨g,e⟩,?_⟩,fun d=>?_⟩,fun e=>?_⟩
 ·have o:=wb l i.toNat (by omega)
  have p:=Tm.size_le (bX (nth l i.toNat)) b d;have q:(bX (nth l i.toNat)).eT=1+aM (ae (aa (af (nth l i.toNat) 3))):=by rw[cF,Tm.eT]
  rw[eg l i.toNat (by omega),js,an8 d,an9] at c;rw[ay (n:=i+1) (by omega) (by omega)];refine⟨⟨⟨d,by omega⟩,by simp only[Kz];omega⟩,_,?_,⟨f,s,n,l,(bX (nth l i.toNat)).size b,i+1⟩,rfl,⟨by simp only;omega,by simp only;omega,by simp only;omega,by simp only;omega,?_⟩,rfl,?_⟩
  ·simp only;omega
  ·simp only[show(i+1).toNat=i.toNat+1 by omega];omega
  ·simp only[Bq,Out.run,show(i+1).toNat=i.toNat+1 by omega]
   exact c
 ·rw[eg l i.toNat (by omega),js,an6 (show ¬ 0<=b from d),an7] at c
  exact c
 ·rw[ao0 (by omega)] at c
  exact c
noncomputable def K4 κ r:=(En κ r).aq 105 5 (aI 0 Of (HK r) Bq)
theorem y54 κ r op s n l left K:(a8 (K4 κ r) 12 105 [.agg [.int op, .lit (.string s), .int n, .ad 38 l], .int left] [] K)=(
 letI b:=AV.int
 an (decide ((↑(ByteArray.size s):Int)>(1000:Int))) (K (b (-1)) []) (ah (Pg.toProgram (Env.P (En κ r))) 105 5=ah (Pg.toProgram (Env.P (En κ r))) 105 5/\∃(a:Zr),letI c:=ae (List.drop a.i.toNat a.l);sp 31 [(1,b (IntKind.wrap IntKind.i64 (left - (1:Int)))),(2,AV.ptr 0 0 [] 0),(5,b 0)] [Obj.box 38 (AV.agg [b op,AV.str s,b n,AV.ad 38 l])]=sp 31 [(1,b a.left),(2,AV.ptr 0 0 [] 0),(5,b a.i)] [Obj.box 38 (AV.agg [b a.op,AV.str a.s,b a.n,AV.ad 38 a.l])]/\((-1:Int)<=a.left/\a.i+a.left<=(100000:Int)/\(0:Int)<=a.i/\a.i<=(↑(a.l.length):Int)/\aM c<=r)/\K (b (js c a.left)) [])):=by kernel_rfl
theorem ad7 κ r(b:fG (Pr κ) 105 (below Vx Kz r)):aF (K4 κ r)/\aj (K4 κ r)/\(K4 κ r).P=Pr κ:=
 have h:=(e8 _).ej b;have a:=(m8 _).aV
 ⟨h.aq a (l54 _ r),a.aq a0,rfl⟩
theorem p54 κ r:cg (K4 κ r) 12 105 fun xs=>bif Nat.beq (Kz xs) r then Vx xs else none:=by
 intro c x b;cases d:Nat.beq (Kz c) r with
 |false=>simp only[d] at b;cases b
 | true=>
  simp only[d,an9] at b;unfold Vx at b;split at b
  ·rename_i f s n l a
   simp only[an5,ao1,an3,an2] at b;obtain⟨⟨h,i⟩,rfl⟩:=b;have g:aM (ae l)=r:=Nat.eq_of_beq_eq_true d;refine⟨_,rfl,rfl,?_⟩;refine Eq.mpr (y54 κ r f s n l a _) ?_;rw[ag,an2,an4];refine⟨fun e=>?_,fun e=>?_⟩
   ·unfold Tm.size;rw[an8 (show(1000:Int)<s.size from e)];rfl
   ·rw[ay (n:=a - 1) (by omega) (by omega)]
    refine⟨rfl,⟨f,s,n,l,a - 1,0⟩,rfl,⟨by simp only;omega,by simp only;omega,by simp only;omega,by simp only;omega,?_⟩,?_⟩
    ·simp only[Int.toNat_zero,ao2];omega
    ·unfold Tm.size;rw[an6 (show ¬ (1000:Int)<s.size from e)];rfl
  ·cases b
theorem q54 κ:fG (Pr κ) 105 Vx:=aF.qJ _ _ _ (ad7 _) (p54 _)
noncomputable def Pk κ:=(E8 κ).aV 105 Vx
theorem e54 κ:aF (Pk κ):=(e8 _).ej (q54 _)
theorem m54 κ:aj (Pk κ):=(m8 _).aV
structure Zq where
 s:ByteArray
 l:List AV
 left:Int
 i:Int
abbrev Oe(a:Zq):=sp 29 [(1, .int a.left),(2, .ptr 0 0 [] 0),(5, .int a.i)] [.box 45 (.agg [.lit (.string a.s), .ad 38 a.l])]
theorem x53 κ a I n K:(vc (Pk κ) 12 104 none 0 (ah (Pr κ).toProgram 104 4) (Oe a) (bh (Pk κ) 104 4 0 I n K))=(
 letI b:=nth a.l a.i.toNat
 letI c:=K (Exit.exit 0) (sp 29 [(1,AV.int a.left)] [])
 letI d:=a.i<(↑(a.l.length):Int)
 an (decide d) (an (decide (a.left>=(0:Int))) (aG (decide ((0:Int)<=a.i)&&decide d) (aG (decide ((0:Int)<=a.left)&&decide (a.left<=(100000:
 Int))) (∃(e0:Nat),e0<n/\I e0 (sp 29 [(1,AV.int (Tm.size (Tm.mk (toInt (af b 0)) (toStr (af b 1)) (toInt (af b 2)) (ae (aa (af b 3)))) a.left)),(2,
 AV.ptr 0 0 [] 0),(5,AV.int (IntKind.wrap IntKind.i64 (a.i+(1:Int))))] [Obj.box 45 (AV.agg [AV.str a.s,AV.ad 38 a.l])])))) c) c):=by kernel_rfl
def HJ(a:Zq):= -1<=a.left/\a.i+a.left<=100000/\0<=a.i/\a.i<=a.l.length
def Bp(a:Zq):Out (Exit×S):= .one (.exit 0,sp 29 [(1, .int (js (ae (a.l.drop a.i.toNat)) a.left))] [])
theorem l53 κ:aP (Pk κ) 12 104 4 (aI 0 Oe HJ Bp):=by
 refine aD (fun a=>a.l.length - a.i.toNat) ?_;rintro⟨s,l,b,i⟩ K ⟨g,j,f,h⟩ c;simp only at g j f h;rw[show(Pk κ).P=Pr κ from rfl];refine Eq.mpr (x53 κ ⟨s,l,b,i⟩ _ _ K) ?_;simp only[Bp,Out.run] at c;simp only[ag,ai,an2,an4,an3,←cF];refine⟨fun e=>⟨fun d=>⟨⟨f,e⟩,?_⟩,fun d=>?_⟩,fun e=>?_⟩
 ·have k:=Tm.size_le (bX (nth l i.toNat)) b d
  rw[eg l i.toNat (by omega),js,an8 d,an9] at c;rw[ay (n:=i+1) (by omega) (by omega)];refine⟨⟨d,by omega⟩,_,?_,⟨s,l,(bX (nth l i.toNat)).size b,i+1⟩,rfl,⟨by simp only;omega,by simp only;omega,by simp only;omega,by simp only;omega⟩,rfl,?_⟩
  ·simp only;omega
  ·simp only[Bp,Out.run,show(i+1).toNat=i.toNat+1 by omega]
   exact c
 ·rw[eg l i.toNat (by omega),js,an6 (show ¬ 0<=b from d),an7] at c
  exact c
 ·rw[ao0 (by omega)] at c
  exact c
noncomputable def K3 κ:=(Pk κ).aq 104 4 (aI 0 Oe HJ Bp)
theorem ad6 κ:aF (K3 κ):=(e54 _).aq (m54 _) (l53 _)
theorem Xj κ:aj (K3 κ):=(m54 _).aq a0
theorem y53 κ s l left K:(a8 (K3 κ) 12 104 [.agg [.lit (.string s), .ad 38 l], .int left] [] K)=(
 letI a:=AV.int
 letI b:=Pg.toProgram (Env.P (Pk κ))
 an (decide ((↑(ByteArray.size s):Int)>(1000:Int))) (K (a (-1)) []) (ah b 104 4=ah b 104 4/\∃(e0:Zq),sp 29 [(1,a left),(2,AV.ptr 0 0
 [] 0),(5,a 0)] [Obj.box 45 (AV.agg [AV.str s,AV.ad 38 l])]=sp 29 [(1,a e0.left),(2,AV.ptr 0 0 [] 0),(5,a e0.i)] [Obj.box 45 (AV.agg
 [AV.str e0.s,AV.ad 38 e0.l])]/\((-1:Int)<=e0.left/\e0.i+e0.left<=(100000:Int)/\(0:Int)<=e0.i/\e0.i<=(↑(e0.l.length):Int))/\K (a (js (ae
 (List.drop e0.i.toNat e0.l)) e0.left)) [])):=by kernel_rfl
def g53:List AV->Option (Bool×AV)
 |[.agg [.lit (.string s), .ad 38 l], .lit (.int .i64 a)]=>some (decide (-1<=a)&&decide (a<=100000), .int (dC ⟨s,ae l⟩ a))
 |_=>none
theorem p53 κ:cg (K3 κ) 12 104 g53:=by
 intro c x b;unfold g53 at b;split at b
 ·rename_i s l a
  simp only[an5,ao1,an3,an2] at b;obtain⟨⟨f,d⟩,rfl⟩:=b;refine⟨_,rfl,rfl,?_⟩;refine Eq.mpr (y53 κ s l a _) ?_;rw[ag,an2,an4];refine⟨fun e=>?_,fun e=>?_⟩
  ·unfold dC;rw[an8 (show(1000:Int)<s.size from e)];rfl
  ·refine⟨rfl,⟨s,l,a,0⟩,rfl,by grind,?_⟩
   unfold dC;grind
 ·cases b
noncomputable def Pj κ:=(K3 κ).aV 104 g53
theorem e53 κ:aF (Pj κ):=(ad6 _).aV (Xj _) (p53 _)
theorem m53 κ:aj (Pj κ):=(Xj _).aV
structure VH where
 a:dt
 left:Int
 i:Int
abbrev DJ(a:VH):=sp 52 [(1, .int a.left),(2, .ptr 0 0 [] 0),(5, .int a.i)] [.box 48 (aw a.a)]
theorem x38(κ:Kp)(a:VH) I(n:Nat) K:(vc (Pj κ) 12 60 none 0 (ah (Pr κ).toProgram 60 3) (DJ a) (bh (Pj κ) 60 3 0 I n K))=(
 letI b:=IntKind.wrap IntKind.i64
 letI c:=AV.ptr 0 0 []
 letI d:=AV.int
 letI e:=Obj.box
 letI f:=nth a.a.bl a.i.toNat
 letI p:=Tm.mk (toInt (af (af f 2) 0)) (toStr (af (af f 2) 1)) (toInt (af (af f 2) 2)) (ae (aa (af (af f 2) 3)))
 letI t:=AV.agg [AV.agg [AV.str a.a.rel,AV.ad 38 a.a.hl],AV.ad 80 a.a.bl,d a.a.line]
 letI k:=aa (af (af f 1) 1)
 letI m:=af (af f 1) 0
 letI u:=b (a.i+(1:Int))
 letI q:=Tm.mk (toInt (af (af f 3) 0)) (toStr (af (af f 3) 1)) (toInt (af (af f 3) 2)) (ae (aa (af (af f 3) 3)))
 letI r:=K (Exit.exit 0) (sp 52 [(1,d a.left)] [])
 letI s:=a.i<(↑(List.length a.a.bl):Int)
 letI v:=decide ((0:Int)<=a.i)&&decide s
 letI h:=a.left - (1:Int)
 letI o:=b h
 letI g:=dC {rel:=toStr m,l:=ae k} o
 letI i:=dC {rel:=toStr m,l:=ae k} o
 letI j:=(100000:Int)
 letI w:=decide ((0:Int)<=dC {rel:=toStr m,l:=ae k} o)&&decide (dC {rel:=toStr m,l:=ae k} o<=j)
 an (decide s) (an (decide (a.left>=(0:Int))) (aG v (aG (decide ((-1:Int)<=b h)&&decide (b h<=j)) (an (decide (dC {rel:=toStr m,l:=ae k} o>=(0:Int))) (aG v (aG w (an (decide (Tm.size p g>=(0:Int))) (aG v (aG (decide ((0:Int)<=Tm.size p i)&&decide (Tm.size p g<=j)) (∃(e0:Nat),e0<n/\I e0 (sp 52 [(1,AV.lit (Value.int IntKind.i64 (Tm.size q (Tm.size p g)))),(2,c 0),(5,d u)] [e 48 t])))) (∃(e0:Nat),e0<n/\I e0 (sp 52 [(1,AV.lit (Value.int IntKind.i64 (Tm.size p i))),(2,c 0),(5,d u)] [e 48 t]))))) (an (decide (dC {rel:=toStr m,l:=ae k} o>=(0:Int))) (aG v (aG w (∃(e0:Nat),e0<n/\I e0 (sp 52 [(1,AV.lit (Value.int IntKind.i64 (Tm.size q i))),(2,c 0),(5,d u)] [e 48 t])))) (∃(e0:Nat),e0<n/\I e0 (sp 52 [(1,AV.lit (Value.int IntKind.i64 g)),(2,c 0),(5,d u)] [e 48 t])))))) r) r):=by kernel_rfl
def BE(a:VH):= -1<=a.left/\a.i+a.left<=100000/\0<=a.i/\a.i<=a.a.bl.length
def xr(a:VH):Out (Exit×S):= .one (.exit 0,sp 52 [(1, .int (l7 (dB (a.a.bl.drop a.i.toNat)) a.left))] [])
theorem l38 κ:aP (Pj κ) 12 60 3 (aI 0 DJ BE xr):=by
 refine aD (fun a=>a.a.bl.length - a.i.toNat) ?_;rintro⟨a,b,i⟩ K ⟨o,t,j,v⟩ c;simp only at o t j v;rw[show(Pj κ).P=Pr κ from rfl];refine Eq.mpr (x38 κ ⟨a,b,i⟩ _ _ K) ?_;simp only[xr,Out.run] at c;by_cases f:i<a.bl.length
 ·by_cases g:b>=0
  ·have r:i.toNat<a.bl.length:=by omega
   rw[oT a.bl i.toNat r,l7,an8 g,an9] at c;have u:(⟨toStr (af (af (nth a.bl i.toNat) 1) 0),ae (aa (af (af (nth a.bl i.toNat) 1) 1))⟩:At)=(c9 (nth a.bl i.toNat)).a:=rfl;have p:bX (af (nth a.bl i.toNat) 2)=(c9 (nth a.bl i.toNat)).x:=rfl;have q:bX (af (nth a.bl i.toNat) 3)=(c9 (nth a.bl i.toNat)).y:=rfl;have w:=ub (c9 (nth a.bl i.toNat)) b g;have s:=po (c9 (nth a.bl i.toNat)).a (b - 1) (by omega);have l:=Tm.size_le (c9 (nth a.bl i.toNat)).x (dC (c9 (nth a.bl i.toNat)).a (b - 1));have k: ∀z,sizeLt (c9 (nth a.bl i.toNat)) b=z->∃m,m<a.bl.length - i.toNat/\gq DJ BE xr (fun a=>a.a.bl.length - a.i.toNat) K m (DJ ⟨a,z,i+1⟩):=by
    rintro z rfl;refine⟨_,?_,⟨a,sizeLt (c9 (nth a.bl i.toNat)) b,i+1⟩,rfl,⟨by simp only;omega,by simp only;omega,by simp only;omega,by simp only;omega⟩,rfl,?_⟩
    ·simp only;omega
    ·simp only[xr,Out.run,show(i+1).toNat=i.toNat+1 by omega]
     exact c
   simp only[ay (n:=i+1) (by omega) (by omega),ay (n:=b - 1) (by omega) (by omega),u,←cF,p,q];simp only[ag,ai,an2,an4,an3];refine⟨fun _=>⟨fun _=>⟨⟨j,f⟩,⟨by omega,by omega⟩,fun d=>⟨⟨j,f⟩,⟨d,by omega⟩,fun h=>⟨⟨j,f⟩,⟨h,by have:=l d;omega⟩,k _ ?_⟩,fun h=>k _ ?_⟩,fun d=>⟨fun e=>absurd e d,fun _=>k _ ?_⟩⟩,fun e=>absurd g e⟩,fun e=>absurd f e⟩
   ·unfold sizeLt;rw[an8 (show 0<=dC (c9 (nth a.bl i.toNat)).a (b - 1) from d),an9,an8 (show 0<=(c9 (nth a.bl i.toNat)).x.size _ from h),an9]
   ·unfold sizeLt;rw[an8 (show 0<=dC (c9 (nth a.bl i.toNat)).a (b - 1) from d),an9,an6 (show ¬ 0<=(c9 (nth a.bl i.toNat)).x.size _ from h),an7]
   ·unfold sizeLt;rw[an6 (show ¬ 0<=dC (c9 (nth a.bl i.toNat)).a (b - 1) from d),an7];rfl
  ·rw[oT a.bl i.toNat (by omega),l7,an6 (show ¬ 0<=b from g),an7] at c
   rw[an8 (show i<(a.bl.length:Int) from f),an6 g];exact c
 ·rw[ao0 (by omega)] at c
  rw[an6 (show ¬ i<(a.bl.length:Int) from f)];exact c
noncomputable def KX κ:=(Pj κ).aq 60 3 (aI 0 DJ BE xr)
theorem ac8 κ:aF (KX κ):=(e53 _).aq (m53 _) (l38 _)
theorem Xb κ:aj (KX κ):=(m53 _).aq a0
theorem y38 κ a left K:(a8 (KX κ) 12 60 [aw a, .int left] [] K)=(
 letI b:=IntKind.wrap IntKind.i64
 letI c:=AV.int
 letI d:=left - (1:Int)
 letI e:=Pg.toProgram (Env.P (Pj κ))
 aG (decide ((-1:Int)<=b d)&&decide (b d<=(100000:Int))) (ah e 60 3=ah e 60 3/\∃(e0:VH),sp 52 [(1,AV.lit (Value.int IntKind.i64 (dC {rel:=a.rel,l:=ae a.hl} (b d)))),(2,AV.ptr 0 0 [] 0),(5,c 0)] [Obj.box 48 (AV.agg [AV.agg [AV.str a.rel,AV.ad 38 a.hl],AV.ad 80 a.bl,c a.line])]=sp 52 [(1,c e0.left),(2,AV.ptr 0 0 [] 0),(5,c e0.i)] [Obj.box 48 (AV.agg [AV.agg [AV.str e0.a.rel,AV.ad 38 e0.a.hl],AV.ad 80 e0.a.bl,c e0.a.line])]/\((-1:Int)<=e0.left/\e0.i+e0.left<=(100000:Int)/\(0:Int)<=e0.i/\e0.i<=(↑(List.length e0.a.bl):Int))/\K (AV.lit (Value.int IntKind.i64 (l7 (dB (List.drop e0.i.toNat e0.a.bl)) e0.left))) [])):=by kernel_rfl
def g38:List AV->Option (Bool×AV)
 |[.agg [.agg [.lit (.string b), .ad 38 d], .ad 80 c, .lit (.int .i64 _)], .lit (.int .i64 a)]=>some (decide (0<=a)&&decide (a<=100000), .int (oc ⟨⟨b,ae d⟩,dB c⟩ a))
 |_=>none
theorem p38 κ:cg (KX κ) 12 60 g38:=by
 intro g x d;unfold g38 at d;split at d
 ·rename_i b e f c a
  simp only[an5,ao1,an3,an2] at d;obtain⟨⟨i,j⟩,rfl⟩:=d;refine⟨_,rfl,rfl,?_⟩;refine Eq.mpr (y38 κ ⟨[],[],b,e,f,c,0⟩ a _) ?_;have h:=po ⟨b,ae e⟩ (a - 1) (by omega);simp only[ay (n:=a - 1) (by omega) (by omega)];rw[ai,an3,an2,an2];exact⟨⟨by omega,by omega⟩,trivial,⟨⟨[],[],b,e,f,c,0⟩,dC ⟨b,ae e⟩ (a - 1),0⟩,rfl,by grind,rfl⟩
 ·cases d
noncomputable def Pc κ:=(KX κ).aV 60 g38
theorem e38 κ:aF (Pc κ):=(ac8 _).aV (Xb _) (p38 _)
theorem m38 κ:aj (Pc κ):=(Xb _).aV
abbrev Ob(a:List _×Int):=sp 16 [(0, .ad 9 a.1),(3, .int a.2)] []
theorem x37 κ l i I n K:(vc (Pc κ) 12 59 none 0 (ah (Pr κ).toProgram 59 2) (Ob (l,i)) (bh (Pc κ) 59 2 0 I n K))=(
 letI a:=i<(↑(l.length):Int)
 an (decide a) (aG (decide ((0:Int)<=i)&&decide a) (an (decide ((↑(ByteArray.size (toStr (nth l i.toNat))):Int)>(1000:Int))) (K Exit.ret (sp 16 [(2,
 AV.bool true)] [])) (∃(e0:Nat),e0<n/\I e0 (sp 16 [(0,AV.ad 9 l),(3,AV.int (IntKind.wrap IntKind.i64 (i+(1:Int))))] [])))) (K (Exit.exit 0) (sp 16
 [] []))):=by kernel_rfl
def HF(a:List AV×Int):=a.1.length<=aU/\0<=a.2/\a.2<=a.1.length
def Bm(a:List AV×Int):Out (Exit×S):= .an (zf (a.1.drop a.2.toNat)) (.one (.ret,sp 16 [(2, .bool true)] [])) (.one (.exit 0,sp 16 [] []))
theorem l37 κ:aP (Pc κ) 12 59 2 (aI 0 Ob HF Bm):=by
 refine aD (fun a=>a.1.length - a.2.toNat) ?_;rintro⟨l,i⟩ K ⟨c,f,g⟩ b;simp only at c f g;rw[show(Pc κ).P=Pr κ from rfl];refine Eq.mpr (x37 κ l i _ _ K) ?_;simp only[aU] at c;simp only[Bm,Out.run,ag] at b;simp only[ag,ai,an2,an4,an3];refine⟨fun d=>⟨⟨f,d⟩,?_⟩,fun d=>?_⟩
 ·rw[ao3 (show i.toNat<l.length by omega),←aJ l i.toNat (by omega)] at b
  simp only[zf,List.any_cons] at b;refine⟨by grind,fun e=>?_⟩;rw[an6 (show ¬ (1000:Int)<_ from e),Bool.false_or] at b;rw[ay (n:=i+1) (by omega) (by omega)];refine⟨_,?_,(l,i+1),rfl,⟨by simpa[aU] using c,by simp only;omega,by simp only;omega⟩,rfl,?_⟩
  ·simp only;omega
  ·simp only[Bm,Out.run,ag,show(i+1).toNat=i.toNat+1 by omega]
   exact b
 ·rw[ao0 (by omega)] at b
  exact b.2 rfl
noncomputable def KW κ:=(Pc κ).aq 59 2 (aI 0 Ob HF Bm)
theorem ac7 κ:aF (KW κ):=(e38 _).aq (m38 _) (l37 _)
theorem Xa κ:aj (KW κ):=(m38 _).aq a0
theorem y37 κ l K:(a8 (KW κ) 12 59 [.ad 9 l] [] K)=(
 letI a:=Pg.toProgram (Env.P (Pc κ))
 ah a 59 2=ah a 59 2/\∃(e0:List AV×Int),sp 16 [(0,AV.ad 9 l),(3,AV.int 0)] []=sp 16 [(0,AV.ad 9 e0.1),(3,AV.int e0.2)] []/\(e0.1.length<=
 9223372036854775807/\(0:Int)<=e0.2/\e0.2<=(↑(e0.1.length):Int))/\an (zf (List.drop e0.2.toNat e0.1)) (K (AV.bool true) []) (K (AV.bool false) [])):=by kernel_rfl
def g37:List AV->Option (Bool×AV)
 |[.ad 9 l]=>some (decide (l.length<=aU), .bool (zf l))
 |_=>none
theorem p37 κ:cg (KW κ) 12 59 g37:=by
 intro b x a;unfold g37 at a;split at a
 ·rename_i l
  simp only[an5,ao1,an2] at a;obtain⟨c,rfl⟩:=a;refine⟨_,rfl,rfl,?_⟩;refine Eq.mpr (y37 κ l _) ?_;refine⟨rfl,(l,0),rfl,⟨c,by simp only;omega,by simp only;omega⟩,?_⟩;rw[ag];simp
 ·cases a
noncomputable def Pb κ:=(KW κ).aV 59 g37
theorem e37 κ:aF (Pb κ):=(ac7 _).aV (Xa _) (p37 _)
theorem m37 κ:aj (Pb κ):=(Xa _).aV
structure SB where
 ds:List AV
 rs:List AV
 left:Int
 i:Int
abbrev JP(a:SB):AV:= .agg [.ad 43 a.ds, .ad 48 a.rs]
abbrev HX a:=sp 62 [(1, .ptr 0 0 [] 0),(3, .int a.left),(4, .int a.i)] [.box 25 (JP a)]
theorem aj5 κ a I n K:(vc (Pb κ) 12 29 none 0 (ah (Pr κ).toProgram 29 3) (HX a) (bh (Pb κ) 29 3 0 I n K))=(
 letI c:=K Exit.ret (sp 62 [(2,AV.int 0)] [])
 letI d:=AV.agg [AV.ad 43 a.ds,AV.ad 48 a.rs]
 letI b:=nth a.ds a.i.toNat
 letI e:=a.i<(↑(a.ds.length):Int)
 letI f:=decide ((0:Int)<=a.i)&&decide e
 an (decide e) (aG f (an (decide ((↑(ByteArray.size (toStr (af b 0))):Int)>(1000:Int))) c (aG f (aG (decide (List.length (aa (af b 1))<=
 9223372036854775807)) (an (zf (aa (af b 1))) c (∃(e0:Nat),e0<n/\I e0 (sp 62 [(1,AV.ptr 0 0 [] 0),(3,AV.int a.left),(4,AV.int (IntKind.wrap
 IntKind.i64 (a.i+(1:Int))))] [Obj.box 25 d]))))))) (K (Exit.exit 0) (sp 62 [(1,AV.ptr 0 0 [] 0),(3,AV.int a.left)] [Obj.box 25 d]))):=by kernel_rfl
def BC(a:SB):=a.ds.length<=aU/\(∀d,d∈a.ds->(aa (af d 1)).length<=aU)/\0<=a.i/\a.i<=a.ds.length
def xp(a:SB):Out (Exit×S):= .an ((a.ds.drop a.i.toNat).any IM) (.one (.ret,sp 62 [(2, .int 0)] [])) (.one (.exit 0,sp 62 [(1, .ptr 0 0 [] 0),(3, .int a.left)] [.box 25 (JP a)]))
theorem af6 κ:aP (Pb κ) 12 29 3 (aI 0 HX BC xp):=by
 refine aD (fun a=>a.ds.length - a.i.toNat) ?_;rintro⟨ds,f,b,i⟩ K ⟨j,d,l,q⟩ c;simp only at j d l q;rw[show(Pb κ).P=Pr κ from rfl];refine Eq.mpr (aj5 κ ⟨ds,f,b,i⟩ _ _ K) ?_;simp only[aU] at j;simp only[xp,Out.run,ag] at c;simp only[ag,ai,an3,an2,an4];refine⟨fun k=>⟨⟨l,k⟩,?_⟩,fun k=>?_⟩
 ·have e:i.toNat<ds.length:=by omega
  have r:nth ds i.toNat∈ds:=by rw[aJ ds _ e];exact List.getElem_mem _
  rw[ao3 e,←aJ ds i.toNat e] at c;simp only[List.any_cons,IM] at c;have p:(∀h:((ds.drop (i.toNat+1)).any IM=true->K .ret (sp 62 [(2, .int 0)] []))/\((ds.drop (i.toNat+1)).any IM=false->K (.exit 0) (sp 62 [(1, .ptr 0 0 [] 0),(3, .int b)] [.box 25 (JP ⟨ds,f,b,i⟩)])),∃m,m<ds.length - i.toNat/\gq HX BC xp (fun a=>a.ds.length - a.i.toNat) K m (sp 62 [(1, .ptr 0 0 [] 0),(3, .int b),(4, .int (IntKind.wrap .i64 (i+1)))] [.box 25 (JP ⟨ds,f,b,i⟩)])):=by
   intro h;rw[ay (n:=i+1) (by omega) (by omega)];refine⟨_,?_,⟨ds,f,b,i+1⟩,rfl,⟨by simpa[aU] using j,d,by simp only;omega,by simp only;omega⟩,rfl,?_⟩
   ·simp only;omega
   ·simp only[xp,Out.run,ag,show(i+1).toNat=i.toNat+1 by omega]
    exact h
  refine⟨fun o=>c.1 (by rw[an8 (show(1000:Int)<_ from o)];rfl),fun o=>⟨⟨l,k⟩,d _ r,fun g=>c.1 (by rw[g];simp),fun g=>p ?_⟩⟩;rw[an6 (show ¬ (1000:Int)<_ from o),g] at c;exact c
 ·rw[ao0 (by omega)] at c
  exact c.2 rfl
noncomputable def Ab κ:=(Pb κ).aq 29 3 (aI 0 HX BC xp)
theorem ac1 κ:aF (Ab κ):=(e37 _).aq (m37 _) (af6 _)
theorem W5 κ:aj (Ab κ):=(m37 _).aq a0
abbrev Oa a:=sp 62 [(1, .ptr 0 0 [] 0),(3, .int a.left),(5, .int a.i)] [.box 25 (JP a)]
theorem aj6 κ a I n K:(vc (Ab κ) 12 29 none 0 (ah (Pr κ).toProgram 29 8) (Oa a) (bh (Ab κ) 29 8 0 I n K))=(
 letI c:=AV.agg [AV.ad 43 a.ds,AV.ad 48 a.rs]
 letI d:=K (Exit.exit 2) (sp 62 [(1,AV.ptr 0 0 [] 0),(3,AV.int a.left)] [Obj.box 25 c])
 letI b:=nth a.rs a.i.toNat
 letI e:=a.i<(↑(a.rs.length):Int)
 an (decide e) (an (decide (a.left>=(0:Int))) (aG (decide ((0:Int)<=a.i)&&decide e) (aG (decide ((0:Int)<=a.left)&&decide (a.left<=(100000:Int))) (∃(e0:Nat),e0<n/\I e0 (sp 62 [(1,AV.ptr 0 0 [] 0),(3,AV.lit (Value.int IntKind.i64 (oc {head:={rel:=toStr (af (af b 0) 0),l:=ae (aa (af (af b 0) 1))},body:=dB (aa (af b 1))} a.left))),(5,AV.int (IntKind.wrap IntKind.i64 (a.i+(1:Int))))] [Obj.box 25 c])))) d) d):=by kernel_rfl
def HD(a:SB):= -1<=a.left/\a.i+a.left<=100000/\0<=a.i/\a.i<=a.rs.length
def Bk(a:SB):Out (Exit×S):= .one (.exit 2,sp 62 [(1, .ptr 0 0 [] 0),(3, .int (oa ((a.rs.drop a.i.toNat).map yD) a.left))] [.box 25 (JP a)])
theorem af7 κ:aP (Ab κ) 12 29 8 (aI 0 Oa HD Bk):=by
 refine aD (fun a=>a.rs.length - a.i.toNat) ?_;rintro⟨ds,c,b,i⟩ K ⟨l,k,h,j⟩ d;simp only at l k h j;rw[show(Ab κ).P=Pr κ from rfl];refine Eq.mpr (aj6 κ ⟨ds,c,b,i⟩ _ _ K) ?_;simp only[Bk,Out.run] at d;by_cases g:i<c.length
 ·have f:i.toNat<c.length:=by omega
  rw[ao3 f,←aJ c i.toNat f,ao9,oa] at d;by_cases e:b>=0
  ·have m:=xZ (yD (nth c i.toNat)) b e
   rw[an8 (show 0<=b from e),an9] at d;rw[an8 (show i<(c.length:Int) from g),an8 e,ay (n:=i+1) (by omega) (by omega)];simp only[an,ai,an3,an2];refine⟨⟨h,trivial⟩,⟨trivial,by omega⟩,_,?_,⟨ds,c,oc (yD (nth c i.toNat)) b,i+1⟩,rfl,⟨by simp only;omega,by simp only;omega,by simp only;omega,by simp only;omega⟩,rfl,?_⟩
   ·simp only;omega
   ·simp only[Bk,Out.run,show(i+1).toNat=i.toNat+1 by omega]
    exact d
  ·rw[an6 (show ¬ 0<=b from e),an7] at d
   rw[an8 (show i<(c.length:Int) from g),an6 e];exact d
 ·rw[ao0 (by omega)] at d
  rw[an6 (show ¬ i<(c.length:Int) from g)];exact d
noncomputable def KR κ:=(Ab κ).aq 29 8 (aI 0 Oa HD Bk)
theorem ac2 κ:aF (KR κ):=(ac1 _).aq (W5 _) (af7 _)
theorem W6 κ:aj (KR κ):=(W5 _).aq a0
theorem y22 κ ds rs K:(a8 (KR κ) 12 29 [.agg [.ad 43 ds, .ad 48 rs]] [] K)=(
 letI a:=AV.ptr 0 0 []
 letI b:=AV.int
 letI c:=AV.ad
 letI d:=K (b 0) []
 letI e:=Pg.toProgram (Env.P (Pb κ))
 letI f:=Pg.toProgram (Env.P (Ab κ))
 ah e 29 3=ah e 29 3/\∃(e1:SB),letI g:=[Obj.box 25 (AV.agg [c 43 e1.ds,c 48 e1.rs])];sp 62 [(1,a 0),(3,b 2000),(4,b 0)] [Obj.box 25 (AV.agg [c 43 ds,c 48 rs])]=sp 62 [(1,a 0),(3,b e1.left),(4,b e1.i)] g/\(e1.ds.length<=9223372036854775807/\(∀(e0:AV),List.Mem e0 e1.ds->List.length (aa (af e0 1))<=9223372036854775807)/\(0:Int)<=e1.i/\e1.i<=(↑(e1.ds.length):Int))/\an (List.any (List.drop e1.i.toNat e1.ds) IM) d (ah f 29 8=ah f 29 8/\∃(e0:SB),sp 62 [(1,a 0),(3,b e1.left),(5,b 0)] g=sp 62 [(1,a 0),(3,b e0.left),(5,b e0.i)] [Obj.box 25 (AV.agg [c 43 e0.ds,c 48 e0.rs])]/\((-1:Int)<=e0.left/\e0.i+e0.left<=(100000:Int)/\(0:Int)<=e0.i/\e0.i<=(↑(e0.rs.length):Int))/\an (decide (oa (List.map yD (List.drop e0.i.toNat e0.rs)) e0.left<(0:Int))) d (an (decide ((↑(e0.ds.length):Int)>(100:Int))) d (an (decide ((↑(e0.rs.length):Int)>(300:Int))) d (K (b 1) []))))):=by kernel_rfl
def g22:List AV->Option (Bool×AV)
 |[.agg [.ad 43 ds, .ad 48 a]]=>some (decide (ds.length<=aU)&&ds.all fun d=>decide ((aa (af d 1)).length<=aU), .int (bif pr ds a then 1 else 0))
 |_=>none
theorem p22 κ:cg (KR κ) 12 29 g22:=by
 intro c x a;unfold g22 at a;split at a
 ·rename_i ds b
  simp only[an5,ao1,an3,an2,List.all_eq_true] at a;obtain⟨⟨f,d⟩,rfl⟩:=a;refine⟨_,rfl,rfl,?_⟩;refine Eq.mpr (y22 κ ds b _) ?_;refine⟨rfl,⟨ds,b,2000,0⟩,rfl,⟨f,d,by simp only;omega,by simp only;omega⟩,?_⟩;simp only[Int.toNat_zero,ao2,ag];refine⟨fun e=>?_,fun e=>⟨trivial,⟨ds,b,2000,0⟩,rfl,⟨by simp only;omega,by simp only;omega,by simp only;omega,by simp only;omega⟩,?_⟩⟩
  ·unfold pr;rw[e];rfl
  ·simp only[Int.toNat_zero,ao2,an2,an4]
   grind [pr,decide_eq_false,oa,yD,decide_eq_true]
 ·cases a
noncomputable def E22 κ:=(KR κ).aV 29 g22
theorem e22 κ:aF (E22 κ):=(ac2 _).aV (W6 _) (p22 _)
theorem m22 κ:aj (E22 κ):=(W6 _).aV
end Go.Proofs.YtioeffnadipbaaaGreatDoor
namespace Go.Proofs.YtioeffnadipbaaaGreatDoor
open Go Go.Dn Go.Rl Go.Proofs
noncomputable abbrev E15(κ:Kp):Env:=E22 κ
theorem e15(κ:Kp):aF (E15 κ):=e22 κ
theorem m15(κ:Kp):aj (E15 κ):=m22 κ
theorem oz{b c}(h:b=c):AV.bool b= .lit (.bool c):=by grind
theorem ZY(a b:Int):(a==b)=decide (a=b):=rfl
theorem Lv(a b:Int):(a != b)= !decide (a=b):=rfl
structure AT where
 op:Int
 s:ByteArray
 n:Int
 l:List AV
def AT.tm(a:AT):Tm:= .mk a.op a.s a.n (ae a.l)
def dM(x:AV):AT:=⟨toInt (af x 0),toStr (af x 1),toInt (af x 2),aa (af x 3)⟩
theorem eY x:(dM x).tm=bX x:=by rw[cF];rfl
abbrev cD(a:AT):AV:= .agg [.int a.op, .lit (.string a.s), .int a.n, .ad 38 a.l]
theorem zU{a}(h:dk a):(dm (aH a)).length<=100000:=by
 have b:=cU (ae (bk 38 a.hl a.bl));rw[iU _ _ _ _] at b;have c:=kU (fS (aH a)) [];unfold dm;cases ba _
 ·simp
 ·exact Nat.le_trans c (Nat.le_trans b h.1)
end Go.Proofs.YtioeffnadipbaaaGreatDoor
namespace Go.Rl
open Go Go.Dn
structure Dc where
 rel:ByteArray
 types:List Int
def jV(s:ByteArray):List Dc->Option Nat
 |[]=>none
 |d::l=>bif oh d.rel s then some 0 else(jV s l).map (· +1)
def da(ds:List Dc)(s:ByteArray):List Int:=match jV s ds with|some i=>(ds.getD i ⟨ByteArray.empty,[]⟩).types|none=>[]
def known(ds:List Dc)(a:At):Int:=match jV a.rel ds with|none=>51|some _=>bif decide ((da ds a.rel).length=a.l.length) then 0 else 52
def gQ(l:Lt):=decide (l.op<3)||decide (6<l.op)
def jg(ds:List Dc):List Lt->Int
 |[]=>0
 |l::b=>bif gQ l&& !decide (known ds l.a=0) then known ds l.a else jg ds b
def ke ds(r:Rl):=bif decide (known ds r.head=0) then jg ds r.body else known ds r.head
section
variable {σ:Type} (get:σ->ByteArray->Int) (set:σ->ByteArray->Int->σ)
def bF(t:Tm) st:=bif decide (t.op=1) then get st t.s else bif decide (t.op=3) then 2 else bif decide (t.op=4) then 0 else 1
mutual
def Tm.dp:Tm->Int->σ->Bool×σ
 | .mk op s _ l,w,st=>bif decide (op=1) then(bif decide (w=0)|| !decide (get st s=0) then(false,st) else(true,set st s w)) else ed l st
def ed:List Tm->σ->Bool×σ
 |[],st=>(false,st)
 |t::l,st=>((Tm.dp t 1 st).1||(ed l (Tm.dp t 1 st).2).1,(ed l (Tm.dp t 1 st).2).2)
end
mutual
def Tm.want:Tm->Int->σ×Bool->Bool×(σ×Bool)
 | .mk op s n l,k,x=>
  bif (jw l x).1 then jw l x
  else bif decide (k=0)||decide (op=4) then(false,(jw l x).2)
  else bif decide (bF get (.mk op s n l) (jw l x).2.1=0) then(false,(set (jw l x).2.1 s k,true))
  else(!decide (bF get (.mk op s n l) (jw l x).2.1=k),(jw l x).2)
def jw:List Tm->σ×Bool->Bool×(σ×Bool)
 |[],x=>(false,x)
 |t::l,x=>bif (Tm.want t 1 x).1 then Tm.want t 1 x else jw l (Tm.want t 1 x).2
end
def cz:List Int->List Tm->σ->Bool×σ
 |w::a,t::l,st=>((t.dp get set w st).1||(cz a l (t.dp get set w st).2).1,(cz a l (t.dp get set w st).2).2)
 |_,_,st=>(false,st)
def j3:List Int->List Tm->σ×Bool->Bool×(σ×Bool)
 |w::a,t::l,x=>bif (t.want get set w x).1 then t.want get set w x else j3 a l (t.want get set w x).2
 |_,_,x=>(false,x)
def gS(a:Int):=decide (3<=a)&&decide (a<=6)
def lS(l:Lt) st:=bif decide (bF get l.y st>bF get l.x st) then bF get l.y st else bF get l.x st
def eH ds(l:Lt) st:=
 bif gS l.op then
  ((l.x.dp get set (lS get l st) st).1||(l.y.dp get set (lS get l st) (l.x.dp get set (lS get l st) st).2).1,(l.y.dp get set (lS get l st) (l.x.dp get set (lS get l st) st).2).2)
 else bif decide (l.op=1)||decide (l.op=2) then cz get set (da ds l.a.rel) l.a.l st
 else((cz get set (da ds l.a.rel) l.a.l st).1||(l.x.dp get set 1 (cz get set (da ds l.a.rel) l.a.l st).2).1||(l.y.dp get set 1 (l.x.dp get set 1 (cz get set (da ds l.a.rel) l.a.l st).2).2).1,
  (l.y.dp get set 1 (l.x.dp get set 1 (cz get set (da ds l.a.rel) l.a.l st).2).2).2)
def fy(ds:List Dc):List Lt->σ->Bool×σ
 |[],st=>(false,st)
 |l::b,st=>((eH get set ds l st).1||(fy ds b (eH get set ds l st).2).1,(fy ds b (eH get set ds l st).2).2)
def kf ds(r:Rl) st:=
 ((cz get set (da ds r.head.rel) r.head.l st).1||(fy get set ds r.body (cz get set (da ds r.head.rel) r.head.l st).2).1,(fy get set ds r.body (cz get set (da ds r.head.rel) r.head.l st).2).2)
def ff ds a x:=
 bif decide (known ds a=0) then(bif (j3 get set (da ds a.rel) a.l x).1 then 53 else 0,(j3 get set (da ds a.rel) a.l x).2) else(known ds a,x)
def kR(y:Bool×σ×Bool)(f:σ×Bool->Bool×σ×Bool):Int×σ×Bool:=bif y.1 then(53,y.2) else(bif (f y.2).1 then 53 else 0,(f y.2).2)
def k8 ds(l:Lt) x:=
 bif gS l.op then kR (l.x.want get set (lS get l x.1) x) (l.y.want get set (lS get l x.1))
 else bif decide (l.op=1)||decide (l.op=2) then ff get set ds l.a x
 else bif !decide ((ff get set ds l.a x).1=0) then ff get set ds l.a x
 else bif decide (l.op=7) then(bif (l.x.want get set 1 (ff get set ds l.a x).2).1 then 53 else 0,(l.x.want get set 1 (ff get set ds l.a x).2).2)
 else kR (l.x.want get set 1 (ff get set ds l.a x).2) (l.y.want get set 1)
def wK(e:Int):=decide (e=51)||decide (e=52)
def iS w e:=bif decide (w=0)||decide (w=53)&&wK e then e else w
def km(ds:List Dc):List Lt->Int×(σ×Bool)->Int×(σ×Bool)
 |[],y=>y
 |l::b,y=>bif wK (iS y.1 (k8 get set ds l y.2).1) then(iS y.1 (k8 get set ds l y.2).1,(k8 get set ds l y.2).2)
  else km ds b (iS y.1 (k8 get set ds l y.2).1,(k8 get set ds l y.2).2)
def fo ds(r:Rl) st:=km get set ds r.body (ff get set ds r.head (st,false))
def gk(ds:List Dc)(r:Rl):Nat->σ->Int×σ
 |0,st=>(0,st)
 |n+1,st=>bif decide ((fo get set ds r st).1=0) then(bif (fo get set ds r st).2.2 then gk ds r n (fo get set ds r st).2.1 else(0,(fo get set ds r st).2.1)) else((fo get set ds r st).1,(fo get set ds r st).2.1)
def Ext st st':=∀s,get st s≠0->get st' s=get st s
theorem Ext.refl st:Ext get st st:=fun _ _=>rfl
variable {get set}
theorem Ext.trans{a b c}(d:Ext get a b)(e:Ext get b c):Ext get a c:=fun s h=>by rw[e s (by rw[d s h];grind),d s h]
variable (hgs: ∀st s k t,get (set st s k) t=bif t==s then k else get st t)
include hgs
mutual
theorem Tm.eh: ∀(t:Tm) (w:Int) (st:σ),Ext get st (t.dp get set w st).2
 | .mk op s n l,w,st=>by
  rw[Tm.dp];cases decide (op=1) with
  |false=>exact qS l st
  | true=>
   rw[an9];cases h:(decide (w=0)|| !decide (get st s=0)) with
   |true=>exact Ext.refl _ _
   | false=>
    intro t ht;rw[an7,hgs];cases e:t==s with
    |false=>rfl
    |true=>
     rw[Bool.or_eq_false_iff,ao4,an2] at h;rw[eq_of_beq e] at ht;exact absurd h.2 ht
theorem qS: ∀(l:List Tm) (st:σ),Ext get st (ed get set l st).2
 |[],st=>by have _:=hgs;exact Ext.refl _ _
 |t::l,st=>by rw[ed];exact(Tm.eh t 1 st).trans (qS l _)
end
theorem gT: ∀a l st,Ext get st (cz get set a l st).2
 |w::a,t::l,st=>by exact(Tm.eh hgs t w _).trans (gT _ l _)
 |[],_,st=>by grind [cz,Ext.refl]
 |_::_,[],st=>by grind [cz,Ext.refl]
theorem uH ds l st:Ext get st (eH get set ds l st).2:=by
 unfold eH;cases gS _ with
 |true=>exact(Tm.eh hgs _ _ st).trans (Tm.eh hgs _ _ _)
 |false=>
  cases(decide (l.op=1)||decide (l.op=2)) with
  |true=>grind [gT]
  |false=>exact((gT hgs _ _ st).trans (Tm.eh hgs l.x 1 _)).trans (Tm.eh hgs l.y 1 _)
theorem nF ds: ∀b st,Ext get st (fy get set ds b st).2
 |[],st=>Ext.refl _ _
 |l::b,st=>by exact(uH hgs _ l _).trans (nF _ b _)
theorem Fa ds r st:Ext get st (kf get set ds r st).2:=(gT hgs _ _ _).trans (nF hgs _ _ _)
end
def aa5 o(s:ByteArray):=bif o.contains s then o else o++[s]
def Zo(o m:List _):=m.foldl aa5 o
mutual
def Tm.rv:Tm->List ByteArray
 | .mk op s _ l=>bif decide (op=1) then[s] else rvL l []
def rvL:List Tm->List ByteArray->List ByteArray
 |[],o=>o
 |t::l,o=>rvL l (Zo o t.rv)
end
mutual
def Tm.wf:Tm->Bool
 | .mk op _ _ l=>bif lQ op then decide (l.length=2)&&Iv l else decide (l.length=0)
def Iv:List Tm->Bool
 |[]=>true
 |t::l=>t.wf&&Iv l
end
theorem yh: ∀h t,ak h t=true->t.wf=true
 |0,_,h=>by grind [ak]
 | h+1, .mk b s n l,e=>by
  rw[pY] at e;rw[Tm.wf];have c: ∀l,lX h l=true->Iv l=true:=by
   intro l;induction l with
   |nil=>intro _;rfl
   |cons t l a=>
    intro e;simp only[lX,ao8,an3] at e;rw[Iv,yh h t e.1.2,a e.2];rfl
  grind
theorem Iw{t}(h:KH t=true):t.wf=true/\t.op=0:=by
 obtain⟨b,s,n,l⟩:=t;simp only[KH,an3,an2] at h;have a:=h.1.1;subst a;exact⟨an8 h.2,rfl⟩
theorem OQ{h}: ∀{l},l.all (ak h)=true->Iv l=true
 |[],_=>rfl
 |t::l,e=>by
  simp only[ao8,an3] at e;rw[Iv,yh h t e.1,OQ e.2];rfl
theorem vI{a}(h:bj a=true):Iv a.l=true:=by
 grind [bj,OQ]
structure PF(l:Lt):Prop where
 x:l.x.wf=true
 y:l.y.wf=true
 a:Iv l.a.l=true
 cmp:gS l.op=true->l.x.op≠4/\l.y.op≠4
 one:l.op=7->l.y.op=0
theorem Vb{l}(h:iM l=true):PF l:=by
 unfold iM at h;have j:Uc l.a=true->Iv l.a.l=true:=fun h=>by
  simp only[Uc,an3,an2] at h;rw[List.eq_nil_of_length_eq_zero h.2];rfl
 have b: ∀{t:Tm},ak 20 t=true->t.wf=true:=fun h=>yh _ _ h
 have g:gS l.op=true->3<=l.op/\l.op<=6:=fun h=>by
  simpa[gS] using h
 cases d:decide (l.op=1)||decide (l.op=2) with
 |true=>
  rw[d,an9] at h;simp only[an3] at h
  simp only[Bool.or_eq_true,an2] at d;exact⟨(Iw h.2.1).1,(Iw h.2.2).1,vI h.1,fun e=>by have:=g e;omega,fun e=>by omega⟩
 | false=>
  rw[d,an7] at h;cases c:decide (l.op=3)||decide (l.op=4)||decide (l.op=5)||decide (l.op=6) with
  |true=>
   rw[c,an9] at h;simp only[an3,Bool.not_eq_true',an4] at h
   simp only[Bool.or_eq_true,an2] at c;exact⟨b h.1.2,b h.2,j h.1.1.1.1,fun _=>⟨h.1.1.1.2,h.1.1.2⟩,fun e=>by omega⟩
  | false=>
   rw[c,an7] at h;simp only[Bool.or_eq_false_iff,an4] at d c;cases f:decide (l.op=7) with
   |true=>
    rw[f,an9] at h;simp only[an3] at h
    exact⟨b h.2,(Iw h.1.2.2).1,vI h.1.1,fun e=>by have:=g e;omega,fun _=>(Iw h.1.2.2).2⟩
   | false=>
    rw[f,an7] at h;rw[an4] at f;cases i:decide (l.op=8)||decide (l.op=9)||decide (l.op=10) with
    |true=>
     rw[i,an9] at h;simp only[an3] at h
     exact⟨b h.1.2,b h.2,vI h.1.1.1,fun e=>by have:=g e;omega,fun e=>absurd e f⟩
    |false=>rw[i,an7] at h;cases h
section
variable {σ:Type} {get:σ->ByteArray->Int} {set:σ->ByteArray->Int->σ}
theorem Uh{a}(h:a=1):lQ a=false:=by subst h;rfl
mutual
theorem Tm.nV: ∀(t:Tm) (k:Int) (x:σ×Bool),t.wf=true->(t.want get set k x).1=false->(t.want get set k x).2=((t.dp get set k x.1).2,x.2||(t.dp get set k x.1).1)
 | .mk op s n l,k,x,hw,h=>by
  rw[Tm.wf] at hw;rw[Tm.want] at h⊢;rw[Tm.dp];cases he:(jw get set l x).1 with
  |true=>rw[he,an9,he] at h;cases h
  | false=>
   rw[he,an7] at h;rw[an7];cases h1:decide (op=1) with
   | true=>
    rw[an2] at h1;rw[Uh h1,an7,an2] at hw;rw[List.eq_nil_of_length_eq_zero hw];rw[List.eq_nil_of_length_eq_zero hw] at h;rw[jw] at h⊢;subst h1;simp only[bF,Tm.op,Tm.s,an9,decide_true,show decide ((1:Int)=4)=false from rfl,Bool.or_false] at h⊢;cases hk:decide (k=0) with
    |true=>simp
    |false=>
     rw[hk] at h;simp only[an7,Bool.false_or] at h⊢;cases hg:decide (get x.1 s=0) with
     |true=>simp
     |false=>simp
   | false=>
    rw[an7];have ih:(jw get set l x).2=((ed get set l x.1).2,x.2||(ed get set l x.1).1):=by
     cases h2:lQ op with
     |true=>
      rw[h2,an9,an3] at hw;exact D5 l x hw.2 he
     |false=>
      rw[h2,an7,an2] at hw;rw[List.eq_nil_of_length_eq_zero hw];simp[jw,ed]
    cases hk:decide (k=0)||decide (op=4) with
    |true=>exact ih
    | false=>
     rw[hk,an7] at h;rw[an7];rw[Bool.or_eq_false_iff] at hk;have hn:decide (bF get (.mk op s n l) (jw get set l x).2.1=0)=false:=by
      unfold bF;rw[show(Tm.mk op s n l).op=op from rfl,h1,an7,hk.2];cases decide (op=3)<;>rfl
     rw[hn,an7];exact ih
theorem D5: ∀(l:List Tm) (x:σ×Bool),Iv l=true->(jw get set l x).1=false->(jw get set l x).2=((ed get set l x.1).2,x.2||(ed get set l x.1).1)
 |[],x,_,_=>by simp[jw,ed]
 | t::l,x,hw,h=>by
  rw[Iv,an3] at hw;rw[jw] at h⊢;rw[ed];cases he:(t.want get set 1 x).1 with
  |true=>rw[he,an9,he] at h;cases h
  |false=>
   rw[he,an7] at h;rw[an7];have e1:=Tm.nV t 1 x hw.1 he;have e2:=D5 l _ hw.2 h;rw[e2,e1];simp only[Bool.or_assoc]
end
theorem yg: ∀a l x,Iv l=true->(j3 get set a l x).1=false->(j3 get set a l x).2=((cz get set a l x.1).2,x.2||(cz get set a l x.1).1)
 |[],l,x,_,_=>by simp[j3,cz]
 |w::a,[],x,_,_=>by simp[j3,cz]
 | w::a,t::l,x,b,h=>by
  rw[Iv,an3] at b;rw[j3] at h⊢;rw[cz];cases c:(t.want get set w x).1 with
  |true=>grind
  |false=>
   rw[c,an7] at h;have e:=t.nV w x b.1 c;have d:=yg a l _ b.2 h
   grind
theorem Cl{y:Bool×σ×Bool}{f}(h:(kR y f).1=0):y.1=false/\(f y.2).1=false/\(kR y f).2=(f y.2).2:=by
 grind [kR]
theorem te{y:Bool×σ×Bool}{f}:(kR y f).1=0\/(kR y f).1=53:=by
 grind [kR]
theorem Fc{t:Tm}(b:t.wf=true)(h:t.op=0) k st:t.dp get set k st=(false,st):=by
 obtain⟨a,s,n,l⟩:=t;have h:a=0:=h
 grind [Tm.wf,lQ,Tm.dp,ed]
theorem Qj ds{l}(c:PF l)(t:gQ l=true->known ds l.a=0) x(h:(k8 get set ds l x).1=0):(k8 get set ds l x).2=((eH get set ds l x.1).2,x.2||(eH get set ds l x.1).1):=by
 unfold k8 at h⊢;unfold eH;cases j:gS l.op with
 |true=>
  rw[j,an9] at h;rw[an9,an9];obtain⟨n,o,k⟩:=Cl h;have d:=l.x.nV _ x c.x n;have i:=l.y.nV _ _ c.y o;rw[k,i,d];simp only[Bool.or_assoc]
 | false=>
  rw[j,an7] at h;rw[an7,an7];have m:gQ l=true:=by
   simp only[gS,Bool.and_eq_false_iff,an4] at j;simp only[gQ,Bool.or_eq_true,an2];omega
  have s:ff get set ds l.a x=(bif (j3 get set (da ds l.a.rel) l.a.l x).1 then 53 else 0,(j3 get set (da ds l.a.rel) l.a.l x).2):=by
   unfold ff;rw[t m];rfl
  have p:(ff get set ds l.a x).1=0->(ff get set ds l.a x).2=((cz get set (da ds l.a.rel) l.a.l x.1).2,x.2||(cz get set (da ds l.a.rel) l.a.l x.1).1):=fun e=>by
   rw[s] at e⊢;cases b:(j3 get set (da ds l.a.rel) l.a.l x).1 with
   |true=>rw[b] at e;cases e
   |false=>exact yg _ _ _ c.a b
  cases f:decide (l.op=1)||decide (l.op=2) with
  |true=>
   rw[f,an9] at h;rw[an9,an9];exact p h
  | false=>
   rw[f,an7] at h;rw[an7,an7];cases b:decide ((ff get set ds l.a x).1=0) with
   |false=>rw[b,Bool.not_false,an9] at h;rw[h] at b;cases b
   | true=>
    rw[b,Bool.not_true,an7] at h;rw[Bool.not_true,an7];rw[an2] at b;have q:=p b;cases g:decide (l.op=7) with
    | true=>
     rw[g,an9] at h;rw[an9];have r:(l.x.want get set 1 (ff get set ds l.a x).2).1=false:=by
      cases e:(l.x.want get set 1 (ff get set ds l.a x).2).1 with
      |true=>rw[e] at h;cases h
      |false=>rfl
     have d:=l.x.nV 1 _ c.x r;rw[an2] at g;rw[d,q,Fc c.y (c.one g)];simp only[Bool.or_false,Bool.or_assoc]
    |false=>
     rw[g,an7] at h;rw[an7];obtain⟨n,o,k⟩:=Cl h;have d:=l.x.nV _ _ c.x n;have i:=l.y.nV _ _ c.y o;rw[k,i,d,q];simp only[Bool.or_assoc]
theorem wW ds{l}(e:gQ l=true->known ds l.a=0) x:(k8 get set ds l x).1=0\/(k8 get set ds l x).1=53:=by
 unfold k8;cases c:gS l.op with
 |true=>rw[an9];exact te
 | false=>
  have d:gQ l=true:=by
   simp only[gS,Bool.and_eq_false_iff,an4] at c;simp only[gQ,Bool.or_eq_true,an2];omega
  have b:(ff get set ds l.a x).1=0\/(ff get set ds l.a x).1=53:=by
   unfold ff;grind
  rw[an7];cases decide (l.op=1)||decide (l.op=2) with
  |true=>exact b
  | false=>
   rw[an7];cases decide ((ff get set ds l.a x).1=0) with
   |false=>exact b
   | true=>
    cases decide (l.op=7) with
    |true=>
     grind
    |false=>rw[an7];exact te
theorem Qi ds{l}(b:gQ l=true)(c:known ds l.a≠0) x:(k8 get set ds l x).1=known ds l.a:=by
 grind [gS,gQ,ff,k8]
theorem vX ds: ∀b x,jg ds b=0->(km get set ds b (53,x)).1=53
 |[],_,_=>rfl
 | l::b,x,h=>by
  rw[jg] at h;have d:gQ l=true->known ds l.a=0:=fun e=>by
   grind
  have f:jg ds b=0:=by
   grind
  rw[km];have c:iS 53 (k8 get set ds l x).1=53:=by
   rcases wW   ds d x with e|e<;>rw[e]<;>rfl
  simp only[c];exact vX ds b _ f
theorem Ck ds: ∀b x,jg ds b=0->(∀l,l∈b->PF l)->(km get set ds b (0,x)).1=0->(km get set ds b (0,x)).2=((fy get set ds b x.1).2,x.2||(fy get set ds b x.1).1)
 |[],x,_,_,_=>by simp[km,fy]
 | l::b,x,h,d,c=>by
  rw[jg] at h;have f:gQ l=true->known ds l.a=0:=fun e=>by
   grind
  have i:jg ds b=0:=by
   grind
  rw[km] at c⊢;rw[fy];have j: ∀e:Int,iS 0 e=e:=fun e=>rfl
  simp only[j] at c⊢;rcases wW (get:=get) (set:=set) ds f x with e|e
  ·rw[e] at c⊢
   have k:=Qj ds (d l List.mem_cons_self) f x e;have n:=Ck ds b _ i (fun m g=>d m (List.mem_cons_of_mem _ g)) c;rw[show wK 0=false from rfl,an7,n,k];simp only[Bool.or_assoc]
  simp_all[wK,an7,vX]
theorem Nm ds{r}(f:Iv r.head.l=true)(e: ∀l,l∈r.body->PF l)(a:ke ds r=0) st(h:(fo get set ds r st).1=0):(fo get set ds r st).2=((kf get set ds r st).2,(kf get set ds r st).1):=by
 unfold ke at a;have c:known ds r.head=0:=by
  grind
 rw[c] at a;have d:jg ds r.body=0:=a;unfold fo at h⊢;have g:ff get set ds r.head (st,false)=(bif (j3 get set (da ds r.head.rel) r.head.l (st,false)).1 then 53 else 0,(j3 get set (da ds r.head.rel) r.head.l (st,false)).2):=by
  unfold ff;rw[c];rfl
 rw[g] at h⊢;cases b:(j3 get set (da ds r.head.rel) r.head.l (st,false)).1 with
 |true=>rw[b,an9,vX ds _ _ d] at h;cases h
 |false=>
  rw[b,an7] at h;rw[an7,Ck ds _ _ d e h,yg _ _ _ f b];rfl
end
section
variable {σ:Type} {get:σ->ByteArray->Int} {set:σ->ByteArray->Int->σ}
variable (hgs: ∀st s k t,get (set st s k) t=bif t==s then k else get st t)
include hgs
end
section
variable {σ:Type} {get:σ->ByteArray->Int} {set:σ->ByteArray->Int->σ}
def Val(get:σ->ByteArray->Int) st:=∀s,get st s=0\/get st s=1\/get st s=2
end
theorem AQ{l s}(h:s∈l.x.vars):s∈ew l:=by grind [ew,ar]
theorem AR{l s}(h:s∈l.y.vars):s∈ew l:=by grind [ew,ar]
theorem Fe{l s}(h:s∈ar l.a.l):s∈ew l:=by grind [ew]
section
variable {σ:Type} {get:σ->ByteArray->Int} {set:σ->ByteArray->Int->σ}
def yI(get:σ->ByteArray->Int)(V:ByteArray->Prop) a b:=∃s,V s/\get a s=0/\get b s≠0
theorem yI.left{V W a b c}(h:yI get V a b)(e:Ext get b c)(f: ∀s,V s->W s):yI get W a c:=by
 obtain⟨s,g,i,d⟩:=h;exact⟨s,f s g,i,by rw[e s d];omega⟩
theorem yI.right{V W a b c}(f:Ext get a b)(h:yI get V b c)(g: ∀s,V s->W s):yI get W a c:=by
 obtain⟨s,i,j,d⟩:=h;refine⟨s,g s i,?_,d⟩;cases e:decide (get a s=0) with
 |true=>grind
 |false=>rw[an4] at e;rw[f s e] at j;omega
variable (hgs: ∀st s k t,get (set st s k) t=bif t==s then k else get st t)
include hgs
mutual
theorem Tm.kI: ∀(t:Tm) (w:Int) (st:σ),(t.dp get set w st).1=true->yI get (fun s=>s∈t.vars) st (t.dp get set w st).2
 | .mk op s n l,w,st,h=>by
  rw[Tm.dp] at h⊢;cases h1:decide (op=1) with
  |false=>
   rw[h1,an7] at h;rw[an7];exact(wT l st h).left (Ext.refl _ _) fun s hs=>by rw[Tm.vars];exact List.mem_append_right _ hs
  | true=>
   rw[h1,an9] at h;rw[an9];cases hc:(decide (w=0)|| !decide (get st s=0)) with
   |true=>rw[hc,an9] at h;cases h
   |false=>
    rw[an7];simp only[Bool.or_eq_false_iff,an4,ao4,an2] at hc;refine⟨s,by rw[Tm.vars,h1];simp,hc.2,?_⟩;rw[hgs];simpa using hc.1
theorem wT: ∀(l:List Tm) (st:σ),(ed get set l st).1=true->yI get (fun s=>s∈ar l) st (ed get set l st).2
 |[],_,h=>by rw[ed] at h;cases h
 | t::l,st,h=>by
  rw[ed] at h⊢;cases h1:(t.dp get set 1 st).1 with
  |true=>exact(Tm.kI t 1 st h1).left (qS hgs l _) fun s hs=>by rw[ar];exact List.mem_append_left _ hs
  |false=>
   rw[h1,Bool.false_or] at h;exact yI.right (Tm.eh hgs t 1 st) (wT l _ h) fun s hs=>by rw[ar];exact List.mem_append_right _ hs
end
theorem nE: ∀a l st,(cz get set a l st).1=true->yI get (fun s=>s∈ar l) st (cz get set a l st).2
 |[],l,st,h=>by simp[cz] at h
 |w::a,[],st,h=>by simp[cz] at h
 | w::a,t::l,st,h=>by
  rw[cz] at h⊢;cases b:(t.dp get set w st).1 with
  |true=>exact(Tm.kI hgs t w st b).left (gT hgs a l _) fun s c=>by rw[ar];grind
  |false=>
   rw[b] at h;exact yI.right (Tm.eh hgs t w st) (nE a l _ h) fun s c=>by rw[ar];grind
theorem CM ds l st(h:(eH get set ds l st).1=true):yI get (fun s=>s∈ew l) st (eH get set ds l st).2:=by
 unfold eH at h⊢;cases d:gS l.op with
 | true=>
  rw[d,an9] at h;rw[an9];cases b:(l.x.dp get set (lS get l st) st).1 with
  |true=>exact(Tm.kI hgs _ _ _ b).left (Tm.eh hgs l.y _ _) fun s=>AQ
  |false=>
   rw[b,Bool.false_or] at h;exact yI.right (Tm.eh hgs l.x _ st) (Tm.kI hgs _ _ _ h) fun s=>AR
 | false=>
  rw[d,an7] at h;rw[an7];cases c:decide (l.op=1)||decide (l.op=2) with
  |true=>rw[c,an9] at h;exact(nE hgs _ _ _ h).left (Ext.refl _ _) fun s=>Fe
  | false=>
   rw[c,an7] at h;rw[an7];cases e:(cz get set (da ds l.a.rel) l.a.l st).1 with
   |true=>exact(nE hgs _ _ _ e).left ((Tm.eh hgs l.x _ _).trans (Tm.eh hgs l.y _ _)) fun s=>Fe
   | false=>
    rw[e,Bool.false_or] at h;cases b:(l.x.dp get set 1 (cz get set (da ds l.a.rel) l.a.l st).2).1 with
    |true=>exact yI.right (gT hgs _ _ st) ((Tm.kI hgs _ _ _ b).left (W:=fun s=>s∈ew l) (Tm.eh hgs l.y _ _) fun s=>AQ) fun s f=>f
    |false=>
     rw[b,Bool.false_or] at h;exact yI.right ((gT hgs _ _ st).trans (Tm.eh hgs l.x _ _)) (Tm.kI hgs _ _ _ h) fun s=>AR
theorem wS ds: ∀b st,(fy get set ds b st).1=true->yI get (fun s=>s∈b.flatMap ew) st (fy get set ds b st).2
 |[],_,h=>by cases h
 | l::b,st,h=>by
  rw[fy] at h⊢;cases a:(eH get set ds l st).1 with
  |true=>exact(CM hgs ds l st a).left (nF hgs ds b _) (by grind)
  |false=>
   rw[a] at h;exact yI.right (uH hgs ds l st) (wS ds b _ h) (by grind)
theorem Fb ds r st(h:(kf get set ds r st).1=true):yI get (fun s=>s∈fS r) st (kf get set ds r st).2:=by
 unfold kf at h⊢;cases a:(cz get set (da ds r.head.rel) r.head.l st).1 with
 |true=>exact(nE hgs _ _ _ a).left (nF hgs ds _ _) fun s b=>by rw[fS];grind
 |false=>
  grind [yI.right,gT,wS,fS,List.mem_append_right]
omit hgs
def mZ(get:σ->ByteArray->Int)(V:List _) st:=(V.filter fun s=>decide (get st s=0)).length
theorem OT get V(st:σ):mZ get V st<=V.length:=List.length_filter_le _ _
theorem zX{a b}(h:Ext get a b): ∀V,mZ get V b<=mZ get V a
 |[]=>Nat.le_refl _
 | s::V=>by
  have c:=zX h V;unfold mZ at c⊢;rw[List.filter_cons,List.filter_cons];cases e:decide (get a s=0) with
  |true=>
   grind
  |false=>
   rw[an4] at e;rw[an6 (by rw[h s e];exact e)]
   grind
theorem zY{a b}(h:Ext get a b): ∀V,yI get (fun s=>s∈V) a b->mZ get V b<mZ get V a
 |[],⟨_,c,_⟩=>nomatch c
 | s::V,⟨t,c,f,g⟩=>by
  rcases List.mem_cons.1 c with rfl|c
  ·have d:=zX h V
   unfold mZ at d⊢
   grind
  ·have d:=zY h V ⟨t,c,f,g⟩
   unfold mZ at d⊢;rw[List.filter_cons,List.filter_cons];cases e:decide (get a s=0) with
   |true=>
    grind
   |false=>
    rw[an4] at e;rw[an6 (by rw[h s e];exact e)];simpa using d
include hgs
end
section
variable {σ ρ:Type} {get:σ->ByteArray->Int} {set:σ->ByteArray->Int->σ} {get':ρ->ByteArray->Int} {set':ρ->ByteArray->Int->ρ} {V:ByteArray->Prop} {P:ρ->Prop}
def Alike(get:σ->ByteArray->Int)(c:ρ->ByteArray->Int)(V:ByteArray->Prop)(P:ρ->Prop) a b:=P b/\∀s,V s->get a s=c b s
variable (hg: ∀st s k t,get (set st s k) t=bif t==s then k else get st t) (hg': ∀st s k t,P st->V s->V t->get' (set' st s k) t=bif t==s then k else get' st t) (hp: ∀st s k,P st->V s->P (set' st s k))
theorem Alike.ty{a b}(h:Alike get get' V P a b){t}(d: ∀s,s∈t.vars->V s):bF get t a=bF get' t b:=by
 unfold bF;cases e:decide (t.op=1) with
 |false=>rfl
 |true=>
  refine h.2 _ (d _ ?_);obtain⟨c,s,n,l⟩:=t;rw[Tm.vars,show decide (c=1)=true from e];simp[Tm.s]
theorem Alike.kind{a b}(h:Alike get get' V P a b){l}(d: ∀s,s∈ew l->V s):lS get l a=lS get' l b:=by
 unfold lS;rw[h.ty  fun s c=>d s (AQ c),h.ty  fun s c=>d s (AR c)]
include hg hg' hp
mutual
theorem Alike.dp: ∀(t:Tm) (w:Int) {a:σ} {b:ρ},Alike get get' V P a b->(∀s,s∈t.vars->V s)->(t.dp get set w a).1=(t.dp get' set' w b).1/\Alike get get' V P (t.dp get set w a).2 (t.dp get' set' w b).2
 | .mk op s n l,w,a,b,h,hv=>by
  rw[Tm.dp,Tm.dp];cases h1:decide (op=1) with
  |false=>exact Alike.ed l h fun s hs=>hv s (by rw[Tm.vars];exact List.mem_append_right _ hs)
  | true=>
   have hs:V s:=hv s (by rw[Tm.vars,h1];simp);rw[an9,an9,h.2 s hs];cases(decide (w=0)|| !decide (get' b s=0)) with
   |true=>exact⟨rfl,h⟩
   |false=>
    refine⟨rfl,hp b s w h.1 hs,fun t ht=>?_⟩;rw[an7,an7,hg,hg' b s w t h.1 hs ht,h.2 t ht]
theorem Alike.ed: ∀(l:List Tm) {a:σ} {b:ρ},Alike get get' V P a b->(∀s,s∈ar l->V s)->(ed get set l a).1=(ed get' set' l b).1/\Alike get get' V P (ed get set l a).2 (ed get' set' l b).2
 |[],a,b,h,_=>by have _:=hg;have _:=hg';have _:=hp;exact⟨rfl,h⟩
 |t::l,a,b,h,hv=>by
  rw[Rl.ed,Rl.ed];obtain⟨e1,h1⟩:=Alike.dp t 1 h fun s hs=>hv s (by rw[ar];exact List.mem_append_left _ hs)
  obtain⟨e2,h2⟩:=Alike.ed l h1 fun s hs=>hv s (by rw[ar];exact List.mem_append_right _ hs)
  exact⟨by rw[e1,e2],h2⟩
end
theorem Alike.cz: ∀c l {a b},Alike get get' V P a b->(∀s,s∈ar l->V s)->(cz get set c l a).1=(cz get' set' c l b).1/\Alike get get' V P (cz get set c l a).2 (cz get' set' c l b).2
 |[],l,a,b,h,_=>by simpa[Rl.cz] using h
 |w::c,[],a,b,h,_=>by simpa[Rl.cz] using h
 |w::c,t::l,a,b,h,d=>by
  rw[Rl.cz,Rl.cz];obtain⟨g,e⟩:=Alike.dp hg hg' hp t w h fun s f=>d s (by rw[ar];grind)
  obtain⟨j,i⟩:=Alike.cz c l e fun s f=>d s (by rw[ar];grind)
  grind
theorem Alike.eH ds l{a b}(h:Alike get get' V P a b)(d: ∀s,s∈ew l->V s):(eH get set ds l a).1=(eH get' set' ds l b).1/\Alike get get' V P (eH get set ds l a).2 (eH get' set' ds l b).2:=by
 unfold Rl.eH;have j: ∀s,s∈l.x.vars->V s:=fun s c=>d s (AQ c)
 have g: ∀s,s∈l.y.vars->V s:=fun s c=>d s (AR c)
 have k: ∀s,s∈ar l.a.l->V s:=fun s c=>d s (Fe c)
 cases gS l.op with
 |true=>
  rw[an9,an9,h.kind d]
  grind [Alike.dp,lS]
 | false=>
  rw[an7,an7];obtain⟨e,f⟩:=Alike.cz hg hg' hp (da ds l.a.rel) l.a.l h k;cases decide (l.op=1)||decide (l.op=2) with
  |true=>exact⟨e,f⟩
  |false=>
   obtain⟨m,n⟩:=Alike.dp hg hg' hp l.x 1 f j;obtain⟨o,i⟩:=Alike.dp hg hg' hp l.y 1 n g;exact⟨by rw[an7,an7,e,m,o],i⟩
theorem Alike.fy ds: ∀l {a b},Alike get get' V P a b->(∀s,s∈l.flatMap ew->V s)->(fy get set ds l a).1=(fy get' set' ds l b).1/\Alike get get' V P (fy get set ds l a).2 (fy get' set' ds l b).2
 |[],a,b,h,_=>⟨rfl,h⟩
 |l::m,a,b,h,d=>by
  rw[Rl.fy,Rl.fy];obtain⟨f,c⟩:=Alike.eH hg hg' hp ds l h (by grind);obtain⟨g,e⟩:=Alike.fy ds m c (by grind)
  grind
theorem Alike.kf ds r{a b}(h:Alike get get' V P a b)(c: ∀s,s∈fS r->V s):(kf get set ds r a).1=(kf get' set' ds r b).1/\Alike get get' V P (kf get set ds r a).2 (kf get' set' ds r b).2:=by
 grind [Rl.kf,Alike.cz,fS,Alike.fy]
end
def getM a s:=toInt (de a (.string s) (.lit (.int .i64 0)))
def gI a s k:=fw a (.string s) (.lit (.int .i64 k))
theorem oO: ∀a s k t,getM (gI a s k) t=bif t==s then k else getM a t
 |[],s,k,t=>by
  simp only[getM,gI,fw,de,eM];cases t==s<;>rfl
 | (d,e)::a,s,k,t=>by
  have b:=oO a s k t;simp only[getM,gI,fw,de] at b⊢;cases h:eM (.string s) d with
  |true=>
   have c:=zb h;subst c;simp only[an9,de,eM];cases f:t==s<;>rfl
  |false=>
   simp only[an7,de]
   grind
def plc(V:List _) s:=V.findIdx (oh s)
def mT V(τ:List Int) s k:=τ.set (plc V s) k
def OJ ds r:=
 bif decide ((gk getM gI ds r ((dm r).length+1) []).1=0) then
  bif (dm r).all fun s=>!decide (getM (gk getM gI ds r ((dm r).length+1) []).2 s=0) then(0,(dm r).map (getM (gk getM gI ds r ((dm r).length+1) []).2)) else(53,[])
 else((gk getM gI ds r ((dm r).length+1) []).1,[])
theorem tu ds a:known ds a=0\/known ds a=51\/known ds a=52:=by
 grind [known]
section
variable {σ:Type} {get:σ->ByteArray->Int} {set:σ->ByteArray->Int->σ}
theorem Cj ds: ∀b y,y.1=0\/y.1=53->jg ds b≠0->(km get set ds b y).1=jg ds b
 |[],_,_,h=>absurd rfl h
 | l::b,y,i,h=>by
  rw[jg] at h⊢;rw[km];cases c:gQ l&& !decide (known ds l.a=0) with
  |true=>
   rw[an9]
   grind [Qi,iS,known,tu,wK]
  | false=>
   rw[c,an7] at h;rw[an7];have j:gQ l=true->known ds l.a=0:=fun e=>by
    rw[e,ao7] at c;simpa using c
   have d:iS y.1 (k8 get set ds l y.2).1=0\/iS y.1 (k8 get set ds l y.2).1=53:=by
    rcases wW (get:=get) (set:=set) ds j y.2 with e|e<;>rcases i with f|f<;>rw[e,f]<;>decide
   have g:wK (iS y.1 (k8 get set ds l y.2).1)=false:=by rcases d with e|e<;>rw[e]<;>rfl
   rw[g,an7];exact Cj ds b _ d h
theorem De ds r st(h:ke ds r≠0):(fo get set ds r st).1=ke ds r:=by
 unfold fo;unfold ke at h⊢;cases a:decide (known ds r.head=0) with
 |true=>
  rw[a,an9] at h;rw[an9];refine Cj ds _ _ ?_ h;unfold ff
  grind
 | false=>
  rw[an7];have b:ff get set ds r.head (st,false)=(known ds r.head,(st,false)):=by
   unfold ff;rw[a];rfl
  rw[b];rw[an4] at a;cases r.body<;>grind [km,iS,known,tu,wK]
end
end Go.Rl
