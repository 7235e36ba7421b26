import Derived.Test.YtioeffnadipbaaaGreatDoorDePD
import Derived.Test.YtioeffnadipbaaaGreatDoorDePC
import Derived.Test.YtioeffnadipbaaaGreatDoorDeP8
import Derived.Test.YtioeffnadipbaaaGreatDoorDeP9
namespace Go.Proofs.YtioeffnadipbaaaGreatDoor
open Go Go.Dn Go.Rl Go.Proofs
attribute [local irreducible] a8 vc
set_option maxRecDepth 20000
def EB.ji(b c:EB){N f k base:Nat}{α:Type}{st:α->S}{d:α->Prop}{e:α->Out (Exit×S)}(q:S->Bool)(o:b.E.P=c.E.P)(h:aP c.E N f k (aI base st d e)):EB:=
 ⟨{ b.E with loop:=fun g j m n bs s K=>bif (Nat.beq g f&&Nat.beq j k)&&q s then m=ah c.E.P f k/\aI base st d e n bs s K else b.E.loop g j m n bs s K},⟨b.ok.prog,b.ok.fN,b.ok.call,b.ok.lB,fun g j m n bs s K a=>by
  have i:=(c.ok.aq c.mono h).loop g j m n bs s K;simp only[Env.aq] at a i;cases l:Nat.beq g f&&Nat.beq j k with
  | true=>cases r:q s with
   |true=>
    rw[l,r] at a;rw[l] at i
    show Sound b.E.P _ _ _ _ _
    rw[o];exact i a
   |false=>rw[l,r] at a;exact b.ok.loop _ _ _ _ _ _ _ a
  |false=>rw[l] at a;exact b.ok.loop _ _ _ _ _ _ _ a⟩,
  ⟨b.mono.call,fun g j m n bs s K K' hK a=>by
  cases l:(Nat.beq g f&&Nat.beq j k)&&q s with
  |true=>simp only[l,an9] at a⊢;exact⟨a.1,a0 _ _ _ _ _ hK a.2⟩
  |false=>simp only[l,an7] at a⊢;exact b.mono.loop _ _ _ _ _ _ _ _ hK a,b.mono.lB⟩⟩
def isF(s:S):Bool:=AI (au s.st 8)
def Z0(s:S):Bool:=match au s.st 1 with| .dead=>true|_=>false
def TY(s:S):Bool:=match au s.st 9 with| .loop r=>!Z0 s&&toBool (nth r.bz 96)|_=>false
def Qc(s:S):Bool:=match au s.st 9 with| .loop r=>!Z0 s&& !toBool (nth r.bz 96)|_=>false
theorem u6(κ:Kp):(gf κ).E.P=Pr κ:=rfl
noncomputable def BL1(κ:Kp):EB:=EB.ji (gf κ) (gf κ) isF ((u6 κ).trans (u6 κ).symm) (lVt κ)
noncomputable def VR(κ:Kp):EB:=EB.ji (BL1 κ) (gf κ) TY ((show(BL1 κ).E.P=Pr κ from rfl).trans (u6 κ).symm) (ah1 κ)
noncomputable def BL3(κ:Kp):EB:=EB.ji (VR κ) (gf κ) Qc ((show(VR κ).E.P=Pr κ from rfl).trans (u6 κ).symm) (ah6 κ)
noncomputable def BL4(κ:Kp):EB:=EB.ji (BL3 κ) (gf κ) isF ((show(BL3 κ).E.P=Pr κ from rfl).trans (u6 κ).symm) (lVb κ)
noncomputable def BL5(κ:Kp):EB:=EB.ji (BL4 κ) (gf κ) TY ((show(BL4 κ).E.P=Pr κ from rfl).trans (u6 κ).symm) (ag9 κ)
noncomputable def VS(κ:Kp):EB:=EB.ji (BL5 κ) (gf κ) Z0 ((show(BL5 κ).E.P=Pr κ from rfl).trans (u6 κ).symm) (ah2 κ)
noncomputable def BL7(κ:Kp):EB:=EB.ji (VS κ) (gf κ) Qc ((show(VS κ).E.P=Pr κ from rfl).trans (u6 κ).symm) (ah4 κ)
noncomputable def BL8(κ:Kp):EB:=EB.ji (BL7 κ) (gf κ) isF ((show(BL7 κ).E.P=Pr κ from rfl).trans (u6 κ).symm) (lVe κ)
noncomputable def BL9(κ:Kp):EB:=EB.ji (BL8 κ) (gf κ) TY ((show(BL8 κ).E.P=Pr κ from rfl).trans (u6 κ).symm) (ah0 κ)
noncomputable def BL0(κ:Kp):EB:=EB.ji (BL9 κ) (gf κ) Z0 ((show(BL9 κ).E.P=Pr κ from rfl).trans (u6 κ).symm) (ah3 κ)
noncomputable def SY(κ:Kp):EB:=EB.ji (BL0 κ) (gf κ) Qc ((show(BL0 κ).E.P=Pr κ from rfl).trans (u6 κ).symm) (ah5 κ)
noncomputable abbrev Ou(x:fT):S:=sp 97 [(0, .bJ 8),(3, .ptr 7 0 [] 0),(5, .ptr 10 0 [] 0),(44, .ad 70 x.rs),(45, .int x.rs.length),(46, .int x.j)] (AD x.a x.V x.s [])
theorem xVr(κ:Kp)(x:fT)(I:Nat->S->Prop)(n:Nat)(K:Exit->S->Prop):(vc (SY κ).E 12 122 none 9 (ah (Pr κ).toProgram 122 8) (Ou x) (bh (SY κ).E 122 8 9 I n K))=(
 letI a:=IntKind.wrap IntKind.i64
 letI b:=AV.int
 letI c:=AV.ptr
 letI d:=Obj.box
 letI e:=Obj.row
 letI f:=AV.ad
 letI g:=Pg.toProgram (Env.P (EB.E (gf κ)))
 letI k:=(↑(x.j):Int)<(↑(x.rs.length):Int)
 letI i:=c 0 0 [] 0
 an (decide k) (aG (true&&decide k) (ah g 122 12=ah g 122 12/\∃(e3:fT),sp 97 [(0,AV.bJ 8),(3,c 7 0 [] 0),(5,c 10 0 [] 0),(10,f 72 (aa (nth x.rs (Int.toNat (↑(x.j):Int))))),(11,et x.a.e),(44,f 70 x.rs),(45,b (↑(x.rs.length):Int)),(46,b (↑(x.j):Int)),(52,f 9 (aa (af (bc.d x.a) 6))),(53,b (↑(List.length (aa (af (bc.d x.a) 6))):Int)),(54,b 0)] (AD x.a x.V x.s [])=Rg e3/\pk e3/\ah g 122 17=ah g 122 17/\∃(e2:fT),letI j:=[(0,AV.bJ 8),(3,c 7 0 [] 0),(5,c 10 0 [] 0),(44,f 70 e2.rs),(45,b (↑(e2.rs.length):Int)),(46,b (a ((↑(e2.j):Int)+(1:Int))))];letI l:=AV.agg [AV.agg [b (QD.rel e2.a.q),f 40 (QD.steps e2.a.q),f 38 (QD.out e2.a.q),b (QD.delta e2.a.q)],f 51 e2.a.ins,f 70 e2.a.del,AV.ax 1 0 (List.length e2.a.L)];letI m:=decide ((e2.V.length+1+1)*9<=70368744177664);letI h:=fv (bc.d e2.a);letI o:=AV.ax 9 0 (e2.V.length+1);letI p:=b (↑(e2.a.i):Int);sp 97 [(0,AV.bJ 8),(3,c 7 0 [] 0),(5,c 10 0 [] 0),(10,f 72 e3.row),(11,et (gp e3.row (List.drop e3.k (aa (af (bc.d e3.a) 6))) (List.drop e3.k (aa (af (bc.d e3.a) 5))) e3.f)),(44,f 70 e3.rs),(45,b (↑(e3.rs.length):Int)),(46,b (↑(e3.j):Int)),(72,f 9 (aa (af (bc.d e3.a) 8))),(73,b (↑(List.length (aa (af (bc.d e3.a) 8))):Int)),(74,b 0)] (AD e3.a e3.V e3.s [])=Rh e2/\pn e2/\an (qh e2.f e2.row (List.drop e2.k (aa (af (bc.d e2.a) 8))) (List.drop e2.k (aa (af (bc.d e2.a) 7)))) (an (toInt (af (bc.d e2.a) 1) != (7:Int)) (∃(e1:uX),([et e2.f,Im (af (bc.d e2.a) 11)],[])=kE e1/\b7 (AT.tm e1.t)=true/\aG m (∃(e0:Nat),e0<n/\I e0 (sp 97 j [d 88 l,e 70 (rws e2.a.L),d 40 h,d 194 o,d 2 (b (a (e2.s+fI.n (cX e1.e (AT.tm e1.t))))),d 86 i,d 3 p,d 91 (et e2.a.e),Jv e2.a,e 2 (List.take e2.V.length e2.V++[b (fI.n (cX e1.e (AT.tm e1.t)))]),d 40 h]))) (aG m (∃(e0:Nat),e0<n/\I e0 (sp 97 j [d 88 l,e 70 (rws e2.a.L),d 40 h,d 194 o,d 2 (b (a (e2.s+(1:Int)))),d 86 i,d 3 p,d 91 (et e2.a.e),Jv e2.a,e 2 (List.take e2.V.length e2.V++[b 1]),d 40 h])))) (∃(e0:Nat),e0<n/\I e0 (sp 97 j (AD e2.a e2.V e2.s []))))) (K (Exit.exit 2) (sp 97 [] [d 88 (AV.agg [AV.agg [b (QD.rel x.a.q),f 40 (QD.steps x.a.q),f 38 (QD.out x.a.q),b (QD.delta x.a.q)],f 51 x.a.ins,f 70 x.a.del,AV.ax 1 0 (List.length x.a.L)]),e 70 (rws x.a.L),d 40 (fv (bc.d x.a)),d 194 (AV.ax 9 0 x.V.length),d 2 (b x.s),d 86 i,d 3 (b (↑(x.a.i):Int)),d 91 (et x.a.e),Jv x.a,e 2 x.V]))):=by kernel_rfl
def fE(a:bc)(rs:List AV):List cI:=(dS rs).filterMap (By a.d a.e)
def iX(a:bc)(l:List cI):List Int:=l.map (yX (toInt (af a.d 1)) (dM (af a.d 11)))
structure PC(a:bc)(rs:List AV):Prop where
 n:rs.length<=100000000
 b: ∀r,r∈rs->B8 (aa (af a.d 6)) (aa (af a.d 5)) (aa r)
 e: ∀r,r∈rs->B8 (aa (af a.d 8)) (aa (af a.d 7)) (aa r)
theorem vo(a:bc){rs:List AV}{j:Nat}(h:j<rs.length):fE a (rs.drop j)=(match By a.d a.e (aa (nth rs j)) with|some g=>g::fE a (rs.drop (j+1))|none=>fE a (rs.drop (j+1))):=by
 rw[ao3 h,←aJ rs j h,fE,dS,ao9,List.filterMap_cons];cases By a.d a.e (aa (nth rs j))<;>rfl
noncomputable abbrev foN(a:bc)(V:List AV)(n:Nat)(s:Int)(T:List Dn.Obj):List Dn.Obj:= .box 88 (Nr a.q a.ins a.del (.ax 1 0 a.L.length)):: .row 70 (rws a.L):: .box 40 (fv a.d):: .box 194 (.ax 9 0 n):: .box 2 (.int s):: .box 86 (.ptr 0 0 [] 0):: .box 3 (.int a.i):: .box 91 (et a.e)::Jv a:: .row 2 V::T
def F7(x:fT):Prop:=x.j<=x.rs.length/\PC x.a x.rs/\(toInt (af x.a.d 1)≠7->b7 (dM (af x.a.d 11)).tm=true)/\x.V.length<=x.j
noncomputable def Hr(x:fT):Out (Exit×S):= .one (.exit 2,sp 97 [] (foN x.a (x.V++iA (iX x.a (fE x.a (x.rs.drop x.j)))) (x.V++iA (iX x.a (fE x.a (x.rs.drop x.j)))).length (Ku x.s (iA (iX x.a (fE x.a (x.rs.drop x.j))))) []))
theorem lVr(κ:Kp):aP (SY κ).E 12 122 8 (aI 9 Ou F7 Hr):=by
 refine aD (fun x=>x.rs.length - x.j) ?_;rintro⟨a,V,s,N,rs,j,row,f,k⟩ K ⟨h1,h2,h3,h4⟩ ho;simp only at h1 h2 h3 h4;rw[show(SY κ).E.P=Pr κ from rfl];refine Eq.mpr (xVr κ ⟨a,V,s,N,rs,j,row,f,k⟩ _ _ K) ?_;have hn:=h2.n;simp only[Int.toNat_natCast,Hr,Out.run] at ho⊢;rw[ag,an2,an4];refine⟨fun h=>?_,fun h=>?_⟩
 ·have hj:j<rs.length:=by omega
  have hm:nth rs j∈rs:=by rw[aJ _ j hj];exact List.getElem_mem _
  have hx:=vo a hj;unfold By at hx;have next: ∀(v:Int) (g:cI),v=yX (toInt (af a.d 1)) (dM (af a.d 11)) g->fE a (rs.drop j)=g::fE a (rs.drop (j+1))->aG (decide ((V.length+1+1)*9<=70368744177664)) (∃m,m<rs.length - j/\gq Ou F7 Hr (fun x=>x.rs.length - x.j) K m (sp 97 [(0, .bJ 8),(3, .ptr 7 0 [] 0),(5, .ptr 10 0 [] 0),(44, .ad 70 rs),(45, .int rs.length),(46, .int (IntKind.wrap .i64 ((j:Int)+1)))] (foN a (List.take V.length V++[.int v]) (V.length+1) (IntKind.wrap .i64 (s+v)) [.box 40 (fv a.d)]))):=fun v g hv hg=>by
   refine ai.2 ⟨by rw[an2];omega,_,?_,⟨a,V++[.int v],IntKind.wrap .i64 (s+v),N,rs,j+1,row,f,k⟩,?_,⟨hj,h2,h3,by simp only[ao6,List.length_singleton];omega⟩,rfl,?_⟩
   ·simp only;omega
   ·rw[List.take_length,ay (n:=(j:Int)+1) (by omega) (by omega),show V.length+1=(V++[AV.int v]).length by simp];rfl
   ·rw[hg,show iX a (g::fE a (rs.drop (j+1)))=v::iX a (fE a (rs.drop (j+1))) by rw[hv];rfl] at ho
    simp only[Hr,Out.run];rw[List.append_assoc];exact ho
  refine ai.2 ⟨by simp;omega,trivial,⟨a,V,s,N,rs,j,aa (nth rs j),a.e,0⟩,rfl,⟨Nat.zero_le _,h2.b _ hm⟩,trivial,⟨a,V,s,N,rs,j,aa (nth rs j),gp (aa (nth rs j)) (aa (af a.d 6)) (aa (af a.d 5)) a.e,0⟩,rfl,⟨Nat.zero_le _,h2.e _ hm⟩,ag.2 ⟨fun c=>?_,fun c=>⟨_,?_,⟨a,V,s,N,rs,j+1,row,f,k⟩,?_,⟨hj,h2,h3,by simp only;omega⟩,rfl,?_⟩⟩⟩
  ·simp only[ao2] at c
   rw[c,an9] at hx;exact ag.2 ⟨fun c7=>⟨⟨_,dM (af a.d 11)⟩,rfl,h3 (by simpa using c7),next _ _ (by unfold yX;rw[c7];rfl) hx⟩,fun c7=>next _ _ (by unfold yX;rw[c7];rfl) hx⟩
  ·simp only;omega
  ·simp only[Ou]
   rw[ay (n:=(j:Int)+1) (by omega) (by omega)];rfl
  ·simp only[ao2] at c
   rw[c,an7] at hx;rw[hx] at ho;exact ho
 ·rw[ao0 (by omega)] at ho
  simp only[fE,dS,List.map_nil,List.filterMap_nil,iX,iA,List.append_nil,Ku,List.foldl_nil] at ho;exact ho
noncomputable def BVr(κ:Kp):EB:=(SY κ).loop (lVr κ)
abbrev om(a:bc):List Dn.Obj:=[.box 88 (Nr a.q a.ins a.del (.ax 1 0 a.L.length)), .row 70 (rws a.L)]
theorem yFo(κ:Kp)(a:bc)(K:AV->List Dn.Obj->Prop):(a8 (BVr κ).E 12 78 [.ptr 0 0 [] 0, .int a.i,et a.e] (om a) K)=(
 letI b:=AV.int
 letI c:=AV.ptr
 letI d:=AV.agg
 letI e:=AV.bool
 letI f:=Obj.box
 letI g:=Obj.row
 letI h:=AV.ad
 letI i:=AV.ax
 letI u:=true&&decide ((↑(a.i):Int)<(↑(List.length a.q.steps):Int))
 letI s:=c 0 0 [] 0
 letI v:=Pg.toProgram (Env.P (EB.E (gf κ)))
 letI w:=Pg.toProgram (Env.P (EB.E (SY κ)))
 aG u (aG u (ah v 122 3=ah v 122 3/\∃(e1:fT),letI t:=d [d [b (QD.rel e1.a.q),h 40 (QD.steps e1.a.q),h 38 (QD.out e1.a.q),b (QD.delta e1.a.q)],h 51 e1.a.ins,h 70 e1.a.del,i 1 0 (List.length e1.a.L)];letI l:=fv (bc.d e1.a);letI o:=b (↑(e1.a.i):Int);letI x:=f 88 t=f 88 t/\f 40 l=f 40 l/\f 194 (i 9 0 e1.V.length)=f 194 (i 9 0 e1.V.length)/\f 2 (b e1.s)=f 2 (b e1.s)/\f 86 s=f 86 s/\f 3 o=f 3 o/\f 91 (et e1.a.e)=f 91 (et e1.a.e)/\f 40 l=f 40 l/\True;letI p:=cu e1.a.e (aa (af (bc.d e1.a) 4));letI y:=List.take (List.length p) (List.drop 0 p);letI z:=pe (QD.steps e1.a.q) e1.a.ins e1.a.del (QD.delta e1.a.q) (Int.toNat (↑(e1.a.i):Int));letI A:=rws (k9 (dS z) (aa (af (bc.d e1.a) 3)) y);sp 97 [(0,AV.bJ 8),(1,c 5 0 [] 0),(2,c 6 0 [] 0),(3,c 7 0 [] 0),(5,c 10 0 [] 0),(6,i 11 0 0),(25,h 38 (aa (af (bc.d a) 4))),(26,b (↑(List.length (aa (af (bc.d a) 4))):Int)),(27,b 0)] [f 88 (d [d [b a.q.rel,h 40 a.q.steps,h 38 a.q.out,b a.q.delta],h 51 a.ins,h 70 a.del,i 1 0 a.L.length]),g 70 (rws a.L),f 40 (fv (bc.d a)),f 194 (i 9 0 0),f 2 (b 0),f 86 s,f 3 (b (↑(a.i):Int)),f 91 (et a.e),Jv a,g 2 [],f 40 (fv (bc.d a)),g 72 []]=U8 e1/\ua e1/\(∃(e0:SG×Nat),([c 0 0 [] 0,b (↑(e1.a.i):Int)],[f 88 t,g 70 (rws e1.a.L)])=x6 e0/\rp e0)/\x/\aG (eE z&&(decide (List.length (aa (af (bc.d e1.a) 3))<=100000000)&&decide (List.length y<=100000000))) (x/\ah w 122 8=ah w 122 8/\∃(e0:fT),letI m:=iX e0.a (fE e0.a (List.drop e0.j e0.rs));letI q:=List.length (e0.V++iA m);letI j:=List.take q (List.drop 0 (e0.V++iA m));letI k:=[f 88 (d [d [b (QD.rel e0.a.q),h 40 (QD.steps e0.a.q),h 38 (QD.out e0.a.q),b (QD.delta e0.a.q)],h 51 e0.a.ins,h 70 e0.a.del,i 1 0 (List.length e0.a.L)]),g 70 (rws e0.a.L)];letI r:=AV.aK [b (Ku e0.s (iA m)),e true];letI n:=af (bc.d e0.a) 1;sp 97 [(0,AV.bJ 8),(3,c 7 0 [] 0),(5,c 10 0 [] 0),(44,h 70 A),(45,b (↑(List.length A):Int)),(46,b 0)] (AD e1.a e1.V e1.s [])=Ou e0/\F7 e0/\an (toInt n==(7:Int)) (K r k) (an (toInt n==(8:Int)) (K r k) (an ((↑q:Int)==(0:Int)) (K (AV.aK [b 0,e false]) k) (an (toInt n==(9:Int)) (aG (decide (1<=List.length j)&&decide (List.length j<=100000000)) (K (AV.aK [b (JB (toInt (nth j 0)) (List.drop 1 j)),e true]) k)) (aG (decide (1<=List.length j)&&decide (List.length j<=100000000)) (K (AV.aK [b (Jz (toInt (nth j 0)) (List.drop 1 j)),e true]) k))))))))):=by kernel_rfl
def bc.rows(a:bc):List AV:=pe a.q.steps a.ins a.del a.q.delta a.i
theorem bc.QE(a:bc):a.rows=eS a.q a.ins a.del a.i:=rfl
def bc.OX(a:bc):List AV:=rws (k9 (dS a.rows) (aa (af a.d 3)) (cu a.e (aa (af a.d 4))))
def bc.met(a:bc):List cI:=fE a a.OX
theorem bc.Ua(a:bc):a.met=ug (nth a.q.steps a.i) (eS a.q a.ins a.del a.i) a.e:=by
 unfold bc.met bc.OX fE ug;rw[lY,a.QE];rfl
structure Ad(a:bc):Prop where
 i:a.i<a.q.steps.length
 r:0<=toInt (af a.d 2)/\toInt (af a.d 2)<a.ins.length
 x:eE a.rows=true
 c:(aa (af a.d 3)).length<=100000000
 t:(aa (af a.d 4)).length<=100000
 v: ∀t,t∈aa (af a.d 4)->b7 (dM t).tm=true
 b: ∀r,r∈a.rows->B8 (aa (af a.d 6)) (aa (af a.d 5)) (aa r)
 e: ∀r,r∈a.rows->B8 (aa (af a.d 8)) (aa (af a.d 7)) (aa r)
theorem G0{a:bc}{r:AV}(h:r∈a.OX): ∃s,s∈a.rows/\aa r=aa s:=by
 obtain⟨x,h1,rfl⟩:=List.mem_map.1 h;obtain⟨s,h2,rfl⟩:=List.mem_map.1 (List.mem_filter.1 h1).1;exact⟨s,h2,rfl⟩
theorem Ad.fr{a:bc}(h:Ad a):PC a a.OX:=by
 have hx:=jW h.x;refine⟨?_,fun r hr=>?_,fun r hr=>?_⟩
 ·rw[bc.OX,fq]
  refine Nat.le_trans (List.length_filter_le _ _) ?_;rw[kB];exact hx
 ·obtain⟨s,h1,h2⟩:=G0 hr
  rw[h2];exact h.b s h1
 ·obtain⟨s,h1,h2⟩:=G0 hr
  rw[h2];exact h.e s h1
theorem Ad.m{a:bc}(h:Ad a):eE a.rows=true/\(aa (af a.d 3)).length<=100000000/\(cu a.e (aa (af a.d 4))).length<=100000000:=by
 have:=h.t
 exact⟨h.x,h.c,by rw[cu,List.length_map];omega⟩
structure Ll(a:bc):Prop where
 d:Ad a
 y:toInt (af a.d 1)≠7->b7 (dM (af a.d 11)).tm=true
def YY(a:bc):List AV×List Dn.Obj:=([.ptr 0 0 [] 0, .int a.i,et a.e],om a)
def bc.fV(a:bc):Int:=Cz (toInt (af a.d 1)) (iA (iX a a.met))
def bc.fB(a:bc):Bool:=GN (toInt (af a.d 1)) (iA (iX a a.met))
def XK(a:bc):Out (AV×List Dn.Obj):= .one (.aK [.int a.fV, .bool a.fB],om a)
theorem cFo(κ:Kp):bq (BVr κ).E 12 78 (aX YY Ll XK):=by
 refine a7 ?_;intro a K hs ho
 replace ho:K (.aK [.int a.fV, .bool a.fB]) (om a):=ho
 have h:=hs.d;have hi:=h.i;have hm:=h.m;have hl:(iA (iX a a.met)).length<=100000000:=by
  rw[jf,iX,List.length_map,bc.met,fE];refine Nat.le_trans (List.length_filterMap_le _ _) ?_;rw[kB];exact h.fr.n
 refine Eq.mpr (yFo κ a K) ?_;have c0:(true&&decide ((a.i:Int)<(a.q.steps.length:Int)))=true:=by simp;omega
 refine ai.2 ⟨c0,ai.2 ⟨c0,rfl,⟨a,[],0,[],[],0,[],[],0⟩,rfl,⟨Nat.zero_le _,h.t,h.v⟩,⟨(⟨a.q,a.ins,a.del,a.L⟩,a.i),rfl,hi,h.r⟩,⟨rfl,rfl,rfl,rfl,rfl,rfl,rfl,rfl,trivial⟩,ai.2 ⟨?_,⟨rfl,rfl,rfl,rfl,rfl,rfl,rfl,rfl,trivial⟩,rfl,⟨a,[],0,[],a.OX,0,[],[],0⟩,?_,⟨Nat.zero_le _,h.fr,hs.y,Nat.zero_le _⟩,?_⟩⟩⟩
 ·simp only[ao2,List.take_length,Int.toNat_natCast]
  rw[an3,an3,an2,an2];exact hm
 ·simp only[ao2,List.take_length,Int.toNat_natCast];rfl
 ·simp only[ao2,List.nil_append,List.take_length]
  unfold bc.fV bc.fB bc.met at ho;unfold bc.met at hl;generalize iA (iX a (fE a a.OX))=V at ho hl⊢
  unfold Cz GN at ho;have hq:(((V.length:Int)==0)=false)->(decide (1<=V.length)&&decide (V.length<=100000000))=true:=fun h0=>by
   have h0: ¬ (V.length:Int)=0:=by simpa using h0
   rw[an3,an2,an2];omega
  refine ag.2 ⟨fun e7=>?_,fun e7=>ag.2 ⟨fun e8=>?_,fun e8=>ag.2 ⟨fun e0=>?_,fun e0=>ag.2 ⟨fun e9=>ai.2 ⟨hq e0,?_⟩,fun e9=>ai.2 ⟨hq e0,?_⟩⟩⟩⟩⟩
  ·rw[e7] at ho;exact ho
  ·rw[e7,e8] at ho;exact ho
  ·rw[e7,e8,e0] at ho;exact ho
  ·rw[e7,e8,e0,e9] at ho;exact ho
  ·rw[e7,e8,e0,e9] at ho;exact ho
noncomputable def SU(κ:Kp):EB:=((BVr κ).call (cFo κ)).CV [78]
abbrev UP(x:fT)(V:List AV):S:=sp 144 [(2,et x.a.e),(3, .ptr 2 0 [] 0),(6, .ax 3 0 V.length),(26, .ad 38 x.a.q.out),(27, .int x.a.q.out.length),(28, .int x.k)] (om x.a++[.box 86 (.ptr 0 0 [] 0), .row 72 V])
theorem xHq(κ:Kp)(x:fT)(V:List AV)(I:Nat->S->Prop)(N:Nat)(K:Exit->S->Prop):(vc (SU κ).E 12 35 none 2 (ah (Pr κ).toProgram 35 4) (UP x V) (bh (SU κ).E 35 4 2 I N K))=(
 letI a:=Obj.box
 letI b:=Obj.row
 letI c:=QD.out x.a.q
 letI d:=AV.agg [AV.agg [AV.int (QD.rel x.a.q),AV.ad 40 (QD.steps x.a.q),AV.ad 38 c,AV.int (QD.delta x.a.q)],AV.ad 51 x.a.ins,AV.ad 70 x.a.del,AV.ax 1
  0 (List.length x.a.L)]
 letI e:=(↑(x.k):Int)<(↑(List.length c):Int)
 an (decide e) (aG (true&&decide e) (∃(e1:uX),([et x.a.e,Im (nth c (Int.toNat (↑(x.k):Int)))],[])=kE e1/\b7 (AT.tm e1.t)=true/\aG (decide
 ((V.length+1+1)*33<=70368744177664)) (∃(e0:Nat),e0<N/\I e0 (sp 144 [(2,et x.a.e),(3,AV.ptr 2 0 [] 0),(6,AV.ax 3 0 (V.length+1)),(26,AV.ad
 38 c),(27,AV.int (↑(List.length c):Int)),(28,AV.int (IntKind.wrap IntKind.i64 ((↑(x.k):Int)+(1:Int))))] [a 88 d,b 70 (rws x.a.L),
 a 86 (AV.ptr 0 0 [] 0),b 72 (List.take V.length V++[gz (cX e1.e (AT.tm e1.t))])])))) (K (Exit.exit 0) (sp 144 [(3,AV.ptr 2 0 [] 0),(6,AV.ax 3
 0 V.length)] [a 88 d,b 70 (rws x.a.L),a 86 (AV.ptr 0 0 [] 0),b 72 V]))):=by kernel_rfl
abbrev U7(x:fT):S:=UP x (cu x.a.e (x.a.q.out.take x.k))
def NM(x:fT):Prop:=x.k<=x.a.q.out.length/\x.a.q.out.length<=100000/\∀t,t∈x.a.q.out->b7 (dM t).tm=true
def XM(x:fT):Out (Exit×S):= .one (.exit 0,sp 144 [(3, .ptr 2 0 [] 0),(6, .ax 3 0 (cu x.a.e x.a.q.out).length)] (om x.a++[.box 86 (.ptr 0 0 [] 0), .row 72 (cu x.a.e x.a.q.out)]))
theorem lHq(κ:Kp):aP (SU κ).E 12 35 4 (aI 2 U7 NM XM):=by
 refine aD (fun x=>x.a.q.out.length - x.k) ?_;rintro⟨a,V,s,N,rs,j,row,f,k⟩ K ⟨h1,h2,h3⟩ ho;simp only at h1 h2 h3;rw[show(SU κ).E.P=Pr κ from rfl];refine Eq.mpr (xHq κ ⟨a,V,s,N,rs,j,row,f,k⟩ _ _ _ K) ?_;simp only[Int.toNat_natCast];rw[ag,an2,an4];refine⟨fun h=>?_,fun h=>?_⟩
 ·have hk:k<a.q.out.length:=by omega
  have hm:nth a.q.out k∈a.q.out:=by rw[aJ _ k hk];exact List.getElem_mem _
  have hl:(cu a.e (a.q.out.take k)).length<=100000:=by rw[cu,List.length_map,List.length_take];omega
  refine ai.2 ⟨by simp;omega,⟨a.e,dM (nth a.q.out k)⟩,rfl,h3 _ hm,ai.2 ⟨by rw[an2];omega,_,?_,⟨a,V,s,N,rs,j,row,f,k+1⟩,?_,⟨hk,h2,h3⟩,rfl,ho⟩⟩
  ·simp only;omega
  ·simp only[U7,UP,vH _ hk,List.take_length,ao6,List.length_singleton]
   rw[ay (n:=(k:Int)+1) (by omega) (by omega)];rfl
 ·have ht:a.q.out.take k=a.q.out:=List.take_of_length_le (by omega)
  simp only[ht];exact ho
noncomputable def BHz(κ:Kp):EB:=(SU κ).loop (lHq κ)
def qi(op:Int):Bool:=op==1||(op==2|| !(op==4||op==3))
structure RD(q:QD)(ins del:List AV)(i:Nat):Prop where
 a:qi (toInt (af (nth q.steps i) 0))=true->∀L e,Ad ⟨q,ins,del,L,i,e⟩
 x:toInt (af (nth q.steps i) 0)=4\/toInt (af (nth q.steps i) 0)=3->b7 (dM (af (nth q.steps i) 10)).tm=true
 y:toInt (af (nth q.steps i) 0)=3->b7 (dM (af (nth q.steps i) 11)).tm=true
 z:toInt (af (nth q.steps i) 0)≠1->toInt (af (nth q.steps i) 0)≠2->toInt (af (nth q.steps i) 0)≠4->toInt (af (nth q.steps i) 0)≠3->(toInt (af (nth q.steps i) 1)≠7->b7 (dM (af (nth q.steps i) 11)).tm=true)/\(toStr (af (nth q.steps i) 9)=ByteArray.mk #[]->b7 (dM (af (nth q.steps i) 10)).tm=true)
structure PB(q:QD)(ins del:List AV):Prop where
 n:q.steps.length<=100000
 h:q.out.length<=100000
 hv: ∀t,t∈q.out->b7 (dM t).tm=true
 t: ∀i,i<q.steps.length->RD q ins del i
def bc.is(a:bc):List Nat:=(List.range a.q.steps.length).drop a.i
def bc.res(a:bc):RL:=kX a.q a.ins a.del a.is a.e
structure gK(a:bc):Prop where
 g:PB a.q a.ins a.del
 i:a.i<=a.q.steps.length
 n:a.L.length+a.res.length<=100000000
def qj(a:bc):List AV×List Dn.Obj:=([.ptr 0 0 [] 0, .int a.i,et a.e],om a)
abbrev Ns(a:bc)(N:RL):List Dn.Obj:=[.box 88 (Nr a.q a.ins a.del (.ax 2 0 N.length)), .dead, .row 70 (rws N)]
def R3(a:bc):Out (AV×List Dn.Obj):= .an a.res.isEmpty (.one (.aK [],om a)) (.one (.aK [],Ns a (a.L++a.res)))
def QP(n:Nat):cO:=aX qj (fun a=>gK a/\a.q.steps.length - a.i=n) R3
noncomputable def B7(κ:Kp)(r:Nat):Env:=(BHz κ).E.aB 35 fun args st K=>∃m,m<r/\QP m args st K
noncomputable abbrev Ri(x:fT):S:=sp 97 [(0, .bJ 9),(3, .ptr 8 0 [] 0),(5, .ptr 10 0 [] 0),(44, .ad 70 x.rs),(45, .int x.rs.length),(46, .int x.j)] (m9 x.a (fD x.a) [])
noncomputable abbrev Rj(x:fT):S:=sp 97 [(0, .bJ 9),(3, .ptr 8 0 [] 0),(5, .ptr 11 0 [] 0),(44, .ad 70 x.rs),(45, .int x.rs.length),(46, .int x.j)] (GW x.a x.N (fD x.a) [])
noncomputable abbrev Ox(x:fT):S:=sp 97 [(0, .bJ 9),(3, .ptr 8 0 [] 0),(5, .ptr 10 0 [] 0),(44, .ad 70 x.rs),(45, .int x.rs.length),(46, .int x.j)] (m9 x.a (ky x.a .ready none) [])
theorem xWr(κ:Kp)(r:Nat)(x:fT)(I:Nat->S->Prop)(n:Nat)(K:Exit->S->Prop):(vc (B7 κ r) 12 122 none 10 (ah (Pr κ).toProgram 122 8) (Ri x) (bh (B7 κ r) 122 8 10 I n K))=(
 letI a:=IntKind.wrap IntKind.i64
 letI b:=AV.int
 letI c:=AV.ptr
 letI d:=AV.agg
 letI e:=Obj.box
 letI f:=AV.ad
 letI g:=Pg.toProgram (Env.P (EB.E (gf κ)))
 letI h:=(↑(x.j):Int)<(↑(x.rs.length):Int)
 an (decide h) (aG (true&&decide h) (ah g 122 12=ah g 122 12/\∃(e4:fT),sp 97 [(0,AV.bJ 9),(3,c 8 0 [] 0),(5,c 10 0 [] 0),(10,f 72 (aa (nth x.rs (Int.toNat (↑(x.j):Int))))),(11,et x.a.e),(44,f 70 x.rs),(45,b (↑(x.rs.length):Int)),(46,b (↑(x.j):Int)),(52,f 9 (aa (af (bc.d x.a) 6))),(53,b (↑(List.length (aa (af (bc.d x.a) 6))):Int)),(54,b 0)] (m9 x.a (fD x.a) [])=Ia e4/\pk e4/\ah g 122 17=ah g 122 17/\∃(e3:fT),letI i:=a ((↑(e3.j):Int)+(1:Int));letI j:=[(0,AV.bJ 9),(3,c 8 0 [] 0),(5,c 10 0 [] 0),(44,f 70 e3.rs),(45,b (↑(e3.rs.length):Int)),(46,b i)];sp 97 [(0,AV.bJ 9),(3,c 8 0 [] 0),(5,c 10 0 [] 0),(10,f 72 e4.row),(11,et (gp e4.row (List.drop e4.k (aa (af (bc.d e4.a) 6))) (List.drop e4.k (aa (af (bc.d e4.a) 5))) e4.f)),(44,f 70 e4.rs),(45,b (↑(e4.rs.length):Int)),(46,b (↑(e4.j):Int)),(72,f 9 (aa (af (bc.d e4.a) 8))),(73,b (↑(List.length (aa (af (bc.d e4.a) 8))):Int)),(74,b 0)] (m9 e4.a (fD e4.a) [])=Ib e3/\pn e3/\an (qh e3.f e3.row (List.drop e3.k (aa (af (bc.d e3.a) 8))) (List.drop e3.k (aa (af (bc.d e3.a) 7)))) (∃(e2:Nat),e2<r/\∃(e1:bc),letI k:=[b e1.q.rel,f 40 e1.q.steps,f 38 e1.q.out,b e1.q.delta];([c 0 0 [] 0,b (a ((↑(e3.a.i):Int)+(1:Int))),et e3.f],om e3.a)=qj e1/\(gK e1/\List.length e1.q.steps - e1.i=e2)/\an (List.isEmpty (bc.res e1)) (∃(e0:Nat),e0<n/\I e0 (sp 97 j (e 88 (d [d k,f 51 e1.ins,f 70 e1.del,AV.ax 1 0 e1.L.length])::Obj.row 70 (rws e1.L)::Ed e3.a (fD e3.a) [e 40 (fv (bc.d e3.a))]))) (∃(e0:Nat),e0<n/\I e0 (sp 97 [(0,AV.bJ 9),(3,c 8 0 [] 0),(5,c 11 0 [] 0),(44,f 70 e3.rs),(45,b (↑(e3.rs.length):Int)),(46,b i)] (e 88 (d [d k,f 51 e1.ins,f 70 e1.del,AV.ax 10 0 (List.length (e1.L++bc.res e1))])::Obj.dead::Ed e3.a (fD e3.a) [Obj.row 70 (rws (e1.L++bc.res e1)),e 40 (fv (bc.d e3.a))])))) (∃(e0:Nat),e0<n/\I e0 (sp 97 j (m9 e3.a (fD e3.a) []))))) (K (Exit.exit 2) (sp 97 [] (e 88 (d [d [b (QD.rel x.a.q),f 40 (QD.steps x.a.q),f 38 (QD.out x.a.q),b (QD.delta x.a.q)],f 51 x.a.ins,f 70 x.a.del,AV.ax 1 0 (List.length x.a.L)])::Obj.row 70 (rws x.a.L)::Ed x.a (fD x.a) [])))):=by kernel_rfl
theorem xXr(κ:Kp)(r:Nat)(x:fT)(I:Nat->S->Prop)(n:Nat)(K:Exit->S->Prop):(vc (B7 κ r) 12 122 none 10 (ah (Pr κ).toProgram 122 8) (Rj x) (bh (B7 κ r) 122 8 10 I n K))=(
 letI a:=IntKind.wrap IntKind.i64
 letI b:=AV.int
 letI c:=AV.ptr
 letI d:=AV.agg
 letI e:=Obj.box
 letI f:=Obj.row
 letI g:=AV.ad
 letI h:=Pg.toProgram (Env.P (EB.E (gf κ)))
 letI j:=(↑(x.j):Int)<(↑(x.rs.length):Int)
 an (decide j) (aG (true&&decide j) (ah h 122 12=ah h 122 12/\∃(e4:fT),sp 97 [(0,AV.bJ 9),(3,c 8 0 [] 0),(5,c 11 0 [] 0),(10,g 72 (aa (nth x.rs (Int.toNat (↑(x.j):Int))))),(11,et x.a.e),(44,g 70 x.rs),(45,b (↑(x.rs.length):Int)),(46,b (↑(x.j):Int)),(52,g 9 (aa (af (bc.d x.a) 6))),(53,b (↑(List.length (aa (af (bc.d x.a) 6))):Int)),(54,b 0)] (GW x.a x.N (fD x.a) [])=Ic e4/\pk e4/\ah h 122 17=ah h 122 17/\∃(e3:fT),letI i:=[(0,AV.bJ 9),(3,c 8 0 [] 0),(5,c 11 0 [] 0),(44,g 70 e3.rs),(45,b (↑(e3.rs.length):Int)),(46,b (a ((↑(e3.j):Int)+(1:Int))))];sp 97 [(0,AV.bJ 9),(3,c 8 0 [] 0),(5,c 11 0 [] 0),(10,g 72 e4.row),(11,et (gp e4.row (List.drop e4.k (aa (af (bc.d e4.a) 6))) (List.drop e4.k (aa (af (bc.d e4.a) 5))) e4.f)),(44,g 70 e4.rs),(45,b (↑(e4.rs.length):Int)),(46,b (↑(e4.j):Int)),(72,g 9 (aa (af (bc.d e4.a) 8))),(73,b (↑(List.length (aa (af (bc.d e4.a) 8))):Int)),(74,b 0)] (GW e4.a e4.N (fD e4.a) [])=Ie e3/\pn e3/\an (qh e3.f e3.row (List.drop e3.k (aa (af (bc.d e3.a) 8))) (List.drop e3.k (aa (af (bc.d e3.a) 7)))) (∃(e2:Nat),e2<r/\∃(e1:bc),letI k:=[b e1.q.rel,g 40 e1.q.steps,g 38 e1.q.out,b e1.q.delta];([c 0 0 [] 0,b (a ((↑(e3.a.i):Int)+(1:Int))),et e3.f],[e 88 (d [d [b (QD.rel e3.a.q),g 40 (QD.steps e3.a.q),g 38 (QD.out e3.a.q),b (QD.delta e3.a.q)],g 51 e3.a.ins,g 70 e3.a.del,AV.ax 1 0 e3.N.length]),f 70 (rws e3.N)])=qj e1/\(gK e1/\List.length e1.q.steps - e1.i=e2)/\an (List.isEmpty (bc.res e1)) (∃(e0:Nat),e0<n/\I e0 (sp 97 i (e 88 (d [d k,g 51 e1.ins,g 70 e1.del,AV.ax 10 0 e1.L.length])::Obj.dead::Ed e3.a (fD e3.a) [f 70 (rws e1.L),e 40 (fv (bc.d e3.a))]))) (∃(e0:Nat),e0<n/\I e0 (sp 97 i (e 88 (d [d k,g 51 e1.ins,g 70 e1.del,AV.ax 10 0 (List.length (e1.L++bc.res e1))])::Obj.dead::Ed e3.a (fD e3.a) [f 70 (rws (e1.L++bc.res e1)),e 40 (fv (bc.d e3.a))])))) (∃(e0:Nat),e0<n/\I e0 (sp 97 i (GW e3.a e3.N (fD e3.a) []))))) (K (Exit.exit 2) (sp 97 [] (e 88 (d [d [b (QD.rel x.a.q),g 40 (QD.steps x.a.q),g 38 (QD.out x.a.q),b (QD.delta x.a.q)],g 51 x.a.ins,g 70 x.a.del,AV.ax 10 0 x.N.length])::Obj.dead::Ed x.a (fD x.a) [f 70 (rws x.N)])))):=by kernel_rfl
theorem xYr(κ:Kp)(r:Nat)(x:fT)(I:Nat->S->Prop)(n:Nat)(K:Exit->S->Prop):(vc (B7 κ r) 12 122 none 10 (ah (Pr κ).toProgram 122 8) (Ox x) (bh (B7 κ r) 122 8 10 I n K))=(
 letI a:=AV.int
 letI b:=AV.ptr
 letI c:=AV.ad
 letI d:=Pg.toProgram (Env.P (EB.E (gf κ)))
 letI e:=(↑(x.j):Int)<(↑(x.rs.length):Int)
 letI f:=ky x.a LoopState.ready none
 an (decide e) (aG (true&&decide e) (ah d 122 12=ah d 122 12/\∃(e2:fT),sp 97 [(0,AV.bJ 9),(3,b 8 0 [] 0),(5,b 10 0 [] 0),(10,c
 72 (aa (nth x.rs (Int.toNat (↑(x.j):Int))))),(11,et x.a.e),(44,c 70 x.rs),(45,a (↑(x.rs.length):Int)),(46,a (↑(x.j):Int)),(52,
 c 9 (aa (af (bc.d x.a) 6))),(53,a (↑(List.length (aa (af (bc.d x.a) 6))):Int)),(54,a 0)] (m9 x.a f [])=Ig e2/\pk e2/\ah d 122 17=ah
 d 122 17/\∃(e1:fT),sp 97 [(0,AV.bJ 9),(3,b 8 0 [] 0),(5,b 10 0 [] 0),(10,c 72 e2.row),(11,et (gp e2.row (List.drop e2.k (aa (af
 (bc.d e2.a) 6))) (List.drop e2.k (aa (af (bc.d e2.a) 5))) e2.f)),(44,c 70 e2.rs),(45,a (↑(e2.rs.length):Int)),(46,a (↑(e2.j):Int)),(72,
 c 9 (aa (af (bc.d e2.a) 8))),(73,a (↑(List.length (aa (af (bc.d e2.a) 8))):Int)),(74,a 0)] (m9 e2.a (ky e2.a LoopState.ready none) [])=Ih
 e1/\pn e1/\an (qh e1.f e1.row (List.drop e1.k (aa (af (bc.d e1.a) 8))) (List.drop e1.k (aa (af (bc.d e1.a) 7)))) (K Exit.ret (sp 97 [] (Obj.box 88 (AV.agg
 [AV.agg [a (QD.rel e1.a.q),c 40 (QD.steps e1.a.q),c 38 (QD.out e1.a.q),a (QD.delta e1.a.q)],c 51 e1.a.ins,c 70 e1.a.del,AV.ax 1
 0 (List.length e1.a.L)])::Obj.row 70 (rws e1.a.L)::Ed e1.a (ky e1.a LoopState.done (some Code.ret)) []))) (∃(e0:Nat),e0<n/\I e0 (sp 97 [(0,AV.bJ 9),
 (3,b 8 0 [] 0),(5,b 10 0 [] 0),(44,c 70 e1.rs),(45,a (↑(e1.rs.length):Int)),(46,a (IntKind.wrap IntKind.i64 ((↑(e1.j):Int)
 +(1:Int))))] (m9 e1.a (ky e1.a LoopState.ready none) []))))) (K (Exit.exit 2) (sp 97 [] (Obj.box 88 (AV.agg [AV.agg [a (QD.rel x.a.q),c 40
 (QD.steps x.a.q),c 38 (QD.out x.a.q),a (QD.delta x.a.q)],c 51 x.a.ins,c 70 x.a.del,AV.ax 1 0 (List.length x.a.L)])::Obj.row 70 (rws
 x.a.L)::Ed x.a f [])))):=by kernel_rfl
abbrev goE(a:bc)(lp:Dn.Obj):List Dn.Obj:= .box 88 (Nr a.q a.ins a.del (.ax 1 0 a.L.length)):: .row 70 (rws a.L)::Ed a lp []
abbrev goD(a:bc)(N:RL)(lp:Dn.Obj):List Dn.Obj:= .box 88 (Nr a.q a.ins a.del (.ax 10 0 N.length)):: .dead::Ed a lp [.row 70 (rws N)]
def F8(x:fT):Prop:=x.j<=x.rs.length/\PC x.a x.rs
def Nl(x:fT):Out (Exit×S):= .an (fE x.a (x.rs.drop x.j)).isEmpty (.one (.exit 2,sp 97 [] (goE x.a (ky x.a .ready none)))) (.one (.ret,sp 97 [] (goE x.a (ky x.a .done (some .ret)))))
theorem lYr(κ:Kp)(r:Nat):aP (B7 κ r) 12 122 8 (aI 10 Ox F8 Nl):=by
 refine aD (fun x=>x.rs.length - x.j) ?_;rintro⟨a,V,s,N,rs,j,row,f,k⟩ K ⟨h1,h2⟩ ho;simp only at h1 h2;rw[show(B7 κ r).P=Pr κ from rfl];refine Eq.mpr (xYr κ r ⟨a,V,s,N,rs,j,row,f,k⟩ _ _ K) ?_;have hn:=h2.n;simp only[Int.toNat_natCast,Nl,Out.run] at ho⊢;rw[ag,an2,an4];refine⟨fun h=>?_,fun h=>?_⟩
 ·have hj:j<rs.length:=by omega
  have hm:nth rs j∈rs:=by rw[aJ _ j hj];exact List.getElem_mem _
  have hx:=vo a hj;unfold By at hx;refine ai.2 ⟨by simp;omega,trivial,⟨a,V,s,N,rs,j,aa (nth rs j),a.e,0⟩,rfl,⟨Nat.zero_le _,h2.b _ hm⟩,trivial,⟨a,V,s,N,rs,j,aa (nth rs j),gp (aa (nth rs j)) (aa (af a.d 6)) (aa (af a.d 5)) a.e,0⟩,rfl,⟨Nat.zero_le _,h2.e _ hm⟩,ag.2 ⟨fun c=>?_,fun c=>⟨_,?_,⟨a,V,s,N,rs,j+1,row,f,k⟩,?_,⟨hj,h2⟩,rfl,?_⟩⟩⟩
  ·simp only[ao2] at c
   rw[c,an9] at hx;rw[hx] at ho;exact ho
  ·simp only;omega
  ·simp only[Ox]
   rw[ay (n:=(j:Int)+1) (by omega) (by omega)];rfl
  ·simp only[ao2] at c
   rw[c,an7] at hx;rw[hx] at ho;exact ho
 ·rw[ao0 (by omega)] at ho
  exact ho
def bc.nx(a:bc):cI->RL:=kX a.q a.ins a.del ((List.range a.q.steps.length).drop (a.i+1))
def fT.all(x:fT):RL:=x.N++(fE x.a (x.rs.drop x.j)).flatMap x.a.nx
noncomputable def uS(x:fT):S:=bif x.N.isEmpty then Ri x else Rj ⟨x.a,x.V,x.s,x.a.L++x.N,x.rs,x.j,x.row,x.f,x.k⟩
structure rK(r:Nat)(x:fT):Prop where
 g:PB x.a.q x.a.ins x.a.del
 i:x.a.i<x.a.q.steps.length
 r:x.a.q.steps.length - x.a.i=r
 f:PC x.a x.rs
 j:x.j<=x.rs.length
 n:x.a.L.length+x.all.length<=100000000
noncomputable def re(x:fT):Out (Exit×S):= .an x.all.isEmpty (.one (.exit 2,sp 97 [] (goE x.a (fD x.a)))) (.one (.exit 2,sp 97 [] (goD x.a (x.a.L++x.all) (fD x.a))))
theorem ag7(κ:Kp)(r:Nat):aP (B7 κ r) 12 122 8 (aI 10 uS (rK r) re):=by
 refine aD (fun x=>x.rs.length - x.j) ?_;rintro⟨a,V,s,N,rs,j,row,f,k⟩ K ⟨hg,hi,hr,h2,h1,hl⟩ ho;simp only at hg hi hr h2 h1 hl;rw[show(B7 κ r).P=Pr κ from rfl];have hn:=h2.n;have hq:=hg.n;have hwj:j<rs.length->IntKind.wrap .i64 ((j:Int)+1)=((j+1:Nat):Int):=fun h=>by rw[ay (by omega) (by omega)];omega
 have hwi:IntKind.wrap .i64 ((a.i:Int)+1)=((a.i+1:Nat):Int):=by rw[ay (by omega) (by omega)];omega
 simp only[re,Out.run] at ho;generalize hA:(fT.mk a V s N rs j row f k).all=all at ho hl
 have hA:N++(fE a (rs.drop j)).flatMap a.nx=all:=hA;have uI:j<rs.length->(fE a (rs.drop (j+1))).flatMap a.nx=all->∃m,m<rs.length - j/\gq uS (rK r) re (fun x=>x.rs.length - x.j) K m (Ri ⟨a,V,s,[],rs,j+1,row,f,k⟩):=fun hj e=>by
  have e2:(fT.mk a V s [] rs (j+1) row f k).all=all:=e;exact⟨_,by simp only;omega,⟨a,V,s,[],rs,j+1,row,f,k⟩,rfl,⟨hg,hi,hr,h2,hj,by rw[e2];exact hl⟩,rfl,by simp only[re,Out.run];rw[e2];exact ho⟩
 have nextB:j<rs.length->∀M:RL,M.isEmpty=false->M++(fE a (rs.drop (j+1))).flatMap a.nx=all->∃m,m<rs.length - j/\gq uS (rK r) re (fun x=>x.rs.length - x.j) K m (Rj ⟨a,V,s,a.L++M,rs,j+1,row,f,k⟩):=fun hj M hM e=>by
  have e2:(fT.mk a V s M rs (j+1) row f k).all=all:=e;exact⟨_,by simp only;omega,⟨a,V,s,M,rs,j+1,row,f,k⟩,by rw[uS,hM];rfl,⟨hg,hi,hr,h2,hj,by rw[e2];exact hl⟩,rfl,by simp only[re,Out.run];rw[e2];exact ho⟩
 have go: ∀(M:RL) (g:cI),M++(g::fE a (rs.drop (j+1))).flatMap a.nx=all->gK ⟨a.q,a.ins,a.del,a.L++M,a.i+1,g⟩/\a.q.steps.length - (a.i+1)=r - 1:=fun M g e=>by
  refine⟨⟨hg,hi,?_⟩,by omega⟩;rw[←e,List.flatMap_cons] at hl;simp only[ao6] at hl⊢;have:(bc.mk a.q a.ins a.del (a.L++M) (a.i+1) g).res=a.nx g:=rfl
  rw[this];omega
 cases N with
 | nil=>
  rw[show uS ⟨a,V,s,[],rs,j,row,f,k⟩=Ri ⟨a,V,s,[],rs,j,row,f,k⟩ from rfl];refine Eq.mpr (xWr κ r ⟨a,V,s,[],rs,j,row,f,k⟩ _ _ K) ?_;simp only[Int.toNat_natCast];rw[ag,an2,an4];refine⟨fun h=>?_,fun h=>?_⟩
  ·have hj:j<rs.length:=by omega
   have hm:nth rs j∈rs:=by rw[aJ _ j hj];exact List.getElem_mem _
   have hx:=vo a hj;unfold By at hx;refine ai.2 ⟨by simp;omega,trivial,⟨a,V,s,[],rs,j,aa (nth rs j),a.e,0⟩,rfl,⟨Nat.zero_le _,h2.b _ hm⟩,trivial,⟨a,V,s,[],rs,j,aa (nth rs j),gp (aa (nth rs j)) (aa (af a.d 6)) (aa (af a.d 5)) a.e,0⟩,rfl,⟨Nat.zero_le _,h2.e _ hm⟩,ag.2 ⟨fun c=>?_,fun c=>?_⟩⟩
   ·simp only[ao2] at c
    rw[c,an9] at hx;rw[hx] at hA;obtain⟨g1,g2⟩:=go [] _ hA;rw[List.append_nil] at g1;rw[hwj hj,hwi];rw[List.nil_append,List.flatMap_cons] at hA;refine⟨r - 1,by omega,⟨a.q,a.ins,a.del,a.L,a.i+1,_⟩,rfl,⟨g1,g2⟩,ag.2 ⟨fun e=>uI hj ?_,fun e=>nextB hj _ e hA⟩⟩;have e:a.nx _=[]:=List.isEmpty_iff.1 e;rw[←hA,e,List.nil_append]
   ·simp only[ao2] at c
    rw[c,an7] at hx;rw[hx] at hA;rw[hwj hj];exact uI hj hA
  ·rw[ao0 (by omega)] at hA
   subst hA;exact ho
 | cons n0 N=>
  rw[show uS ⟨a,V,s,n0::N,rs,j,row,f,k⟩=Rj ⟨a,V,s,a.L++n0::N,rs,j,row,f,k⟩ from rfl];have hE:(n0::N).isEmpty=false:=rfl;generalize n0::N=N at hA hE⊢
  refine Eq.mpr (xXr κ r ⟨a,V,s,a.L++N,rs,j,row,f,k⟩ _ _ K) ?_;simp only[Int.toNat_natCast];rw[ag,an2,an4];refine⟨fun h=>?_,fun h=>?_⟩
  ·have hj:j<rs.length:=by omega
   have hm:nth rs j∈rs:=by rw[aJ _ j hj];exact List.getElem_mem _
   have hx:=vo a hj;unfold By at hx;refine ai.2 ⟨by simp;omega,trivial,⟨a,V,s,a.L++N,rs,j,aa (nth rs j),a.e,0⟩,rfl,⟨Nat.zero_le _,h2.b _ hm⟩,trivial,⟨a,V,s,a.L++N,rs,j,aa (nth rs j),gp (aa (nth rs j)) (aa (af a.d 6)) (aa (af a.d 5)) a.e,0⟩,rfl,⟨Nat.zero_le _,h2.e _ hm⟩,ag.2 ⟨fun c=>?_,fun c=>?_⟩⟩
   ·simp only[ao2] at c
    rw[c,an9] at hx;rw[hx] at hA;obtain⟨g1,g2⟩:=go N _ hA;rw[hwj hj,hwi];rw[List.flatMap_cons,←List.append_assoc] at hA;refine⟨r - 1,by omega,⟨a.q,a.ins,a.del,a.L++N,a.i+1,_⟩,rfl,⟨g1,g2⟩,ag.2 ⟨fun e=>nextB hj _ hE ?_,fun e=>?_⟩⟩
    ·have e:a.nx _=[]:=List.isEmpty_iff.1 e
     rw[←hA,e,List.append_nil]
    ·have:=nextB hj _ ?_ hA
     ·rw[←List.append_assoc] at this
      exact this
     ·cases N with
      |nil=>cases hE
      |cons _ _=>rfl
   ·simp only[ao2] at c
    rw[c,an7] at hx;rw[hx] at hA;rw[hwj hj];exact nextB hj _ hE hA
  ·rw[ao0 (by omega)] at hA
   have hA:N++[]=all:=hA;rw[List.append_nil] at hA;subst hA;rw[hE] at ho;exact ho
noncomputable def Vu(κ:Kp)(r:Nat):Env:=(B7 κ r).aq 122 8 (Dv Qc (aI 10 Ox F8 Nl) (aI 10 uS (rK r) re))
theorem eGz(κ:Kp)(r:Nat)(hp: ∀args st K,(∃m,m<r/\QP m args st K)->bt (Pr κ) 35 args st K):aF (Vu κ r)/\aj (Vu κ r)/\(Vu κ r).P=Pr κ:=by
 have ok1:aF (B7 κ r):=(BHz κ).ok.eX hp;have mo1:aj (B7 κ r):=(BHz κ).mono.aB (fun _ _ _ _ hK ⟨m,h1,h2⟩=>⟨m,h1,aZ _ _ _ _ hK h2⟩);exact⟨ok1.aq mo1 (Nu (lYr κ r) (ag7 κ r)),mo1.aq (FT a0 a0),rfl⟩
theorem yGq(κ:Kp)(r:Nat)(a:bc)(K:AV->List Dn.Obj->Prop):(a8 (Vu κ r) 12 35 [.ptr 0 0 [] 0, .int a.i,et a.e] (om a) K)=(
 letI b:=IntKind.wrap IntKind.i64
 letI c:=AV.ptr 0 0 []
 letI d:=AV.int
 letI e:=AV.ptr
 letI f:=AV.agg
 letI g:=AV.lit
 letI h:=Obj.box
 letI i:=Obj.row
 letI j:=AV.aK
 letI k:=AV.ad
 letI l:=AV.ax
 letI I:=Value.int IntKind.i64 (b ((↑(a.i):Int)+(1:Int)))
 letI J:=AV.bp 74 [e 2 0 [] 0,e 3 0 [] 0]
 letI m:=c 0
 letI O:=true&&decide ((↑(a.i):Int)<(↑(List.length a.q.steps):Int))
 letI L:=Pg.toProgram (Env.P (EB.E (gf κ)))
 letI M:=Pg.toProgram (Env.P (B7 κ r))
 letI N:=aa (af (bc.d a) 4)
 letI P:=toStr (af (bc.d a) 9)
 letI Q:=af (bc.d a) 10
 letI n:=af (bc.d a) 0
 letI u:=Pg.toProgram (Env.P (EB.E (SU κ)))
 an ((↑(a.i):Int)==(↑(List.length a.q.steps):Int)) (ah u 35 4=ah u 35 4/\∃(e0:fT),letI t:=QD.out e0.a.q;sp 144 [(2,et a.e),(3,e 2 0 [] 0),(6,l 3 0 0),(26,k 38 a.q.out),(27,d (↑(List.length a.q.out):Int)),(28,d 0)] [h 88 (f [f [d a.q.rel,k 40 a.q.steps,k 38 a.q.out,d a.q.delta],k 51 a.ins,k 70 a.del,l 1 0 a.L.length]),i 70 (rws a.L),h 86 m,i 72 []]=U7 e0/\NM e0/\aG (decide ((List.length e0.a.L+1+1)*25<=70368744177664)) (K (j []) [h 88 (f [f [d (QD.rel e0.a.q),k 40 (QD.steps e0.a.q),k 38 t,d (QD.delta e0.a.q)],k 51 e0.a.ins,k 70 e0.a.del,l 2 0 (List.length e0.a.L+1)]),Obj.dead,i 70 (List.take (List.length e0.a.L) (rws e0.a.L)++[k 72 (List.take (List.length (cu e0.a.e t)) (List.drop 0 (cu e0.a.e t)))])])) (aG O (an (toInt n==(1:Int)) (aG O (ah L 122 3=ah L 122 3/\∃(e1:fT),letI v:=f [f [d (QD.rel e1.a.q),k 40 (QD.steps e1.a.q),k 38 (QD.out e1.a.q),d (QD.delta e1.a.q)],k 51 e1.a.ins,k 70 e1.a.del,l 1 0 (List.length e1.a.L)];letI o:=d (↑(e1.a.i):Int);letI p:=fv (bc.d e1.a);letI w:=h 88 v=h 88 v/\h 86 m=h 86 m/\h 3 o=h 3 o/\h 40 p=h 40 p/\h 131 J=h 131 J/\h 86 m=h 86 m/\h 3 o=h 3 o/\h 91 (et e1.a.e)=h 91 (et e1.a.e)/\h 40 p=h 40 p/\True;letI x:=cu e1.a.e (aa (af (bc.d e1.a) 4));letI y:=List.take (List.length x) (List.drop 0 x);letI z:=pe (QD.steps e1.a.q) e1.a.ins e1.a.del (QD.delta e1.a.q) (Int.toNat (↑(e1.a.i):Int));letI A:=rws (k9 (dS z) (aa (af (bc.d e1.a) 3)) y);sp 97 [(0,AV.bJ 9),(1,e 6 0 [] 0),(2,e 7 0 [] 0),(3,e 8 0 [] 0),(5,e 10 0 [] 0),(6,l 11 0 0),(25,k 38 N),(26,d (↑(List.length N):Int)),(27,d 0)] (m9 a (fD a) [i 72 []])=OB e1/\ua e1/\(∃(e0:SG×Nat),([c 0,d (↑(e1.a.i):Int)],om e1.a)=x6 e0/\rp e0)/\w/\aG (eE z&&(decide (List.length (aa (af (bc.d e1.a) 3))<=100000000)&&decide (List.length y<=100000000))) (w/\ah M 122 8=ah M 122 8/\∃(e0:fT),sp 97 [(0,AV.bJ 9),(3,e 8 0 [] 0),(5,e 10 0 [] 0),(44,k 70 A),(45,g (Value.int IntKind.i64 (↑(List.length A):Int))),(46,d 0)] (m9 e1.a (fD e1.a) [])=uS e0/\rK r e0/\an (List.isEmpty (fT.all e0)) (K (j []) (om e0.a)) (K (j []) (Ns e0.a (e0.a.L++fT.all e0)))))) (an (toInt n==(2:Int)) (aG O (ah L 122 3=ah L 122 3/\∃(e3:fT),letI B:=f [f [d (QD.rel e3.a.q),k 40 (QD.steps e3.a.q),k 38 (QD.out e3.a.q),d (QD.delta e3.a.q)],k 51 e3.a.ins,k 70 e3.a.del,l 1 0 (List.length e3.a.L)];letI q:=d (↑(e3.a.i):Int);letI s:=fv (bc.d e3.a);letI C:=h 88 B=h 88 B/\h 86 m=h 86 m/\h 3 q=h 3 q/\h 40 s=h 40 s/\h 131 J=h 131 J/\h 86 m=h 86 m/\h 3 q=h 3 q/\h 91 (et e3.a.e)=h 91 (et e3.a.e)/\h 40 s=h 40 s/\True;letI D:=cu e3.a.e (aa (af (bc.d e3.a) 4));letI E:=List.take (List.length D) (List.drop 0 D);letI F:=pe (QD.steps e3.a.q) e3.a.ins e3.a.del (QD.delta e3.a.q) (Int.toNat (↑(e3.a.i):Int));letI G:=rws (k9 (dS F) (aa (af (bc.d e3.a) 3)) E);sp 97 [(0,AV.bJ 9),(1,e 6 0 [] 0),(2,e 7 0 [] 0),(3,e 8 0 [] 0),(5,e 10 0 [] 0),(6,l 11 0 0),(25,k 38 N),(26,d (↑(List.length N):Int)),(27,d 0)] (m9 a (ky a LoopState.ready none) [i 72 []])=OC e3/\ua e3/\(∃(e0:SG×Nat),([c 0,d (↑(e3.a.i):Int)],om e3.a)=x6 e0/\rp e0)/\C/\aG (eE F&&(decide (List.length (aa (af (bc.d e3.a) 3))<=100000000)&&decide (List.length E<=100000000))) (C/\ah M 122 8=ah M 122 8/\∃(e2:fT),sp 97 [(0,AV.bJ 9),(3,e 8 0 [] 0),(5,e 10 0 [] 0),(44,k 70 G),(45,g (Value.int IntKind.i64 (↑(List.length G):Int))),(46,d 0)] (m9 e3.a (ky e3.a LoopState.ready none) [])=Ox e2/\F8 e2/\an (List.isEmpty (fE e2.a (List.drop e2.j e2.rs))) (∃(e1:Nat),e1<r/\∃(e0:bc),([c 0,g (Value.int IntKind.i64 (b ((↑(e2.a.i):Int)+(1:Int)))),et a.e],om e2.a)=qj e0/\(gK e0/\List.length e0.q.steps - e0.i=e1)/\an (List.isEmpty (bc.res e0)) (K (j []) (om e0)) (K (j []) (Ns e0 (e0.L++bc.res e0)))) (K (j []) (om e2.a))))) (an (toInt n==(4:Int)) (∃(e3:uX),([et a.e,Im Q],[])=kE e3/\b7 (AT.tm e3.t)=true/\∃(e2:Rz),([et a.e,AV.str P,gz (cX e3.e (AT.tm e3.t))],[])=DR e2/\True/\∃(e1:Nat),e1<r/\∃(e0:bc),([c 0,g I,et (cI.put e2.e e2.s e2.v)],om a)=qj e0/\(gK e0/\List.length e0.q.steps - e0.i=e1)/\an (List.isEmpty (bc.res e0)) (K (j []) (om e0)) (K (j []) (Ns e0 (e0.L++bc.res e0)))) (an (toInt n==(3:Int)) (∃(e4:uX),([et a.e,Im Q],[])=kE e4/\b7 (AT.tm e4.t)=true/\∃(e3:uX),([et a.e,Im (af (bc.d a) 11)],[])=kE e3/\b7 (AT.tm e3.t)=true/\∃(e2:Z9),([d (toInt (af (bc.d a) 1)),gz (cX e4.e (AT.tm e4.t)),gz (cX e3.e (AT.tm e3.t))],[])=YZ e2/\True/\an (qs e2.op e2.x e2.y) (∃(e1:Nat),e1<r/\∃(e0:bc),([c 0,g I,et a.e],om a)=qj e0/\(gK e0/\List.length e0.q.steps - e0.i=e1)/\an (List.isEmpty (bc.res e0)) (K (j []) (om e0)) (K (j []) (Ns e0 (e0.L++bc.res e0)))) (K (j []) (om a))) (∃(e3:bc),letI H:=an (bc.fB e3) (∃(e2:uX),([et a.e,Im Q],[])=kE e2/\b7 (AT.tm e2.t)=true/\an (fI.n (cX e2.e (AT.tm e2.t))==bc.fV e3) (∃(e1:Nat),e1<r/\∃(e0:bc),([c 0,g I,et a.e],om e3)=qj e0/\(gK e0/\List.length e0.q.steps - e0.i=e1)/\an (List.isEmpty (bc.res e0)) (K (j []) (om e0)) (K (j []) (Ns e0 (e0.L++bc.res e0)))) (K (j []) (om e3))) (K (j []) (om e3));([c 0,d (↑(a.i):Int),et a.e],om a)=YY e3/\Ll e3/\an (bc.fB e3) (an (!ByteArray.toList P==ByteArray.toList {data:= #[]}) (∃(e2:Rz),([et a.e,AV.str P,f [AV.bool false,d (bc.fV e3),AV.str {data:= #[]}]],[])=DR e2/\True/\∃(e1:Nat),e1<r/\∃(e0:bc),([c 0,g I,et (cI.put e2.e e2.s e2.v)],om e3)=qj e0/\(gK e0/\List.length e0.q.steps - e0.i=e1)/\an (List.isEmpty (bc.res e0)) (K (j []) (om e0)) (K (j []) (Ns e0 (e0.L++bc.res e0)))) H) H))))))):=by kernel_rfl
theorem bc.Uy(a:bc)(hi:a.i<a.q.steps.length):a.res=bif toInt (af a.d 0)==1 then a.met.flatMap a.nx
  else bif toInt (af a.d 0)==2 then(bif a.met.isEmpty then a.nx a.e else[])
  else bif toInt (af a.d 0)==4 then a.nx (a.e.put (toStr (af a.d 9)) (cX a.e (dM (af a.d 10)).tm))
  else bif toInt (af a.d 0)==3 then(bif qs (toInt (af a.d 1)) (cX a.e (dM (af a.d 10)).tm) (cX a.e (dM (af a.d 11)).tm) then a.nx a.e else[])
  else bif a.fB then
   (bif decide (toStr (af a.d 9)=ByteArray.mk #[]) then(bif (cX a.e (dM (af a.d 10)).tm).n==a.fV then a.nx a.e else[])
    else a.nx (a.e.put (toStr (af a.d 9)) ⟨false,a.fV,ByteArray.mk #[]⟩))
  else[]:=by
 unfold bc.res bc.is bc.fB bc.fV;rw[ao3 (by simpa using hi),List.getElem_range,kX,a.Ua];rfl
theorem cGq(κ:Kp)(r:Nat):bq (Vu κ r) 12 35 (QP r):=by
 refine a7 ?_;rintro a K ⟨hs,hr⟩ ho
 replace ho:an a.res.isEmpty (K (.aK []) (om a)) (K (.aK []) (Ns a (a.L++a.res))):=ho
 refine Eq.mpr (yGq κ r a K) ?_;have hn:=hs.g.n;have hn2:=hs.n;have hle:=hs.i;refine ag.2 ⟨fun e0=>?_,fun e0=>?_⟩
 ·have e0:(a.i:Int)=a.q.steps.length:=by simpa using e0
  have hout:a.res=[cu a.e a.q.out]:=by
   unfold bc.res bc.is;rw[ao0 (by simp;omega)];rfl
  refine⟨rfl,⟨a,[],0,[],[],0,[],[],0⟩,rfl,⟨Nat.zero_le _,hs.g.h,hs.g.hv⟩,ai.2 ⟨?_,?_⟩⟩
  ·rw[hout] at hn2
   simp only[List.length_singleton] at hn2;rw[an2];simp only;omega
  ·rw[hout] at ho
   have hx:List.take a.L.length (rws a.L)++[AV.ad 72 (List.take (cu a.e a.q.out).length (List.drop 0 (cu a.e a.q.out)))]=rws (a.L++[cu a.e a.q.out]):=by
    rw[ao2,List.take_length,←vB,←fq a.L,List.take_length]
   show K (.aK []) [_,_, .row 70 (List.take a.L.length (rws a.L)++[AV.ad 72 (List.take (cu a.e a.q.out).length (List.drop 0 (cu a.e a.q.out)))])]
   rw[hx];have hl:(a.L++[cu a.e a.q.out]).length=a.L.length+1:=by simp
   rw[←hl];exact ho
 ·have e0: ¬ (a.i:Int)=a.q.steps.length:=by simpa using e0
  have hi:a.i<a.q.steps.length:=by omega
  have hw:IntKind.wrap .i64 ((a.i:Int)+1)=((a.i+1:Nat):Int):=by rw[ay (by omega) (by omega)];omega
  have hT:RD a.q a.ins a.del a.i:=hs.g.t a.i hi;have hout:=a.Uy hi;have c0:(true&&decide ((a.i:Int)<(a.q.steps.length:Int)))=true:=by simp;omega
  have next: ∀e',a.res=a.nx e'->∃m,m<r/\∃b:bc,([AV.ptr 0 0 [] 0,AV.int (IntKind.wrap .i64 ((a.i:Int)+1)),et e'],om a)=qj b/\(gK b/\b.q.steps.length - b.i=m)/\an b.res.isEmpty (K (AV.aK []) (om b)) (K (AV.aK []) (Ns b (b.L++b.res))):=fun e' he=>by
   refine⟨a.q.steps.length - (a.i+1),by omega,⟨a.q,a.ins,a.del,a.L,a.i+1,e'⟩,by rw[hw];rfl,⟨⟨hs.g,hi,?_⟩,rfl⟩,?_⟩
   ·show a.L.length+(a.nx e').length<=100000000
    rw[←he];exact hn2
   ·show an (a.nx e').isEmpty (K (AV.aK []) (om a)) (K (AV.aK []) (Ns a (a.L++a.nx e')))
    rw[←he];exact ho
  have none:a.res=[]->K (.aK []) (om a):=fun h=>by rw[h] at ho;exact ho
  refine ai.2 ⟨c0,ag.2 ⟨fun e1=>?p1,fun e1=>ag.2 ⟨fun e2=>?p2,fun e2=>ag.2 ⟨fun e4=>?p4,fun e4=>ag.2 ⟨fun e3=>?p3,fun e3=>?p5⟩⟩⟩⟩⟩
  case p1=>
   have hD:Ad a:=hT.a (by unfold qi;rw[show(toInt (af (nth a.q.steps a.i) 0)==1)=true from e1];rfl) a.L a.e;rw[e1,an9] at hout;have hm:=hD.m;have hall:(fT.mk a [] 0 [] a.OX 0 [] [] 0).all=a.res:=by
    rw[hout];rfl
   refine ai.2 ⟨c0,rfl,⟨a,[],0,[],[],0,[],[],0⟩,rfl,⟨Nat.zero_le _,hD.t,hD.v⟩,⟨(⟨a.q,a.ins,a.del,a.L⟩,a.i),rfl,hi,hD.r⟩,⟨rfl,rfl,rfl,rfl,rfl,rfl,rfl,rfl,rfl,trivial⟩,ai.2 ⟨?_,⟨rfl,rfl,rfl,rfl,rfl,rfl,rfl,rfl,rfl,trivial⟩,rfl,⟨a,[],0,[],a.OX,0,[],[],0⟩,?_,⟨hs.g,hi,hr,hD.fr,Nat.zero_le _,by rw[hall];exact hn2⟩,by rw[hall];exact ho⟩⟩
   ·simp only[ao2,List.take_length,Int.toNat_natCast]
    rw[an3,an3,an2,an2];exact hm
   ·simp only[ao2,List.take_length,Int.toNat_natCast];rfl
  case p2=>
   have hD:Ad a:=hT.a (by unfold qi;rw[show(toInt (af (nth a.q.steps a.i) 0)==1)=false from e1,show(toInt (af (nth a.q.steps a.i) 0)==2)=true from e2];rfl) a.L a.e;rw[e1,e2,an7,an9] at hout;have hm:=hD.m;refine ai.2 ⟨c0,rfl,⟨a,[],0,[],[],0,[],[],0⟩,rfl,⟨Nat.zero_le _,hD.t,hD.v⟩,⟨(⟨a.q,a.ins,a.del,a.L⟩,a.i),rfl,hi,hD.r⟩,⟨rfl,rfl,rfl,rfl,rfl,rfl,rfl,rfl,rfl,trivial⟩,ai.2 ⟨?_,⟨rfl,rfl,rfl,rfl,rfl,rfl,rfl,rfl,rfl,trivial⟩,rfl,⟨a,[],0,[],a.OX,0,[],[],0⟩,?_,⟨Nat.zero_le _,hD.fr⟩,ag.2 ⟨fun hM=>next _ ?_,fun hM=>none ?_⟩⟩⟩
   ·simp only[ao2,List.take_length,Int.toNat_natCast]
    rw[an3,an3,an2,an2];exact hm
   ·simp only[ao2,List.take_length,Int.toNat_natCast];rfl
   ·rw[hout,show a.met.isEmpty=true from hM];rfl
   ·rw[hout,show a.met.isEmpty=false from hM];rfl
  case p4=>
   rw[e1,e2,e4,an7,an7,an9] at hout;exact⟨⟨a.e,dM (af a.d 10)⟩,rfl,hT.x (.inl (beq_iff_eq.1 e4)),⟨a.e,toStr (af a.d 9),cX a.e (dM (af a.d 10)).tm⟩,rfl,trivial,next _ hout⟩
  case p3=>
   rw[e1,e2,e4,e3,an7,an7,an7,an9] at hout;exact⟨⟨a.e,dM (af a.d 10)⟩,rfl,hT.x (.inr (beq_iff_eq.1 e3)),⟨a.e,dM (af a.d 11)⟩,rfl,hT.y (beq_iff_eq.1 e3),⟨toInt (af a.d 1),cX a.e (dM (af a.d 10)).tm,cX a.e (dM (af a.d 11)).tm⟩,rfl,trivial,ag.2 ⟨fun q=>next _ (by rw[hout,show qs (toInt (af a.d 1)) (cX a.e (dM (af a.d 10)).tm) (cX a.e (dM (af a.d 11)).tm)=true from q];rfl),fun q=>none (by rw[hout,show qs (toInt (af a.d 1)) (cX a.e (dM (af a.d 10)).tm) (cX a.e (dM (af a.d 11)).tm)=false from q];rfl)⟩⟩
  case p5=>
   have hD:Ad a:=hT.a (by unfold qi;rw[show(toInt (af (nth a.q.steps a.i) 0)==1)=false from e1,show(toInt (af (nth a.q.steps a.i) 0)==2)=false from e2,show(toInt (af (nth a.q.steps a.i) 0)==4)=false from e4,show(toInt (af (nth a.q.steps a.i) 0)==3)=false from e3];rfl) a.L a.e;obtain⟨z1,z2⟩:=hT.z (beq_eq_false_iff_ne.1 e1) (beq_eq_false_iff_ne.1 e2) (beq_eq_false_iff_ne.1 e4) (beq_eq_false_iff_ne.1 e3);rw[e1,e2,e4,e3,an7,an7,an7,an7] at hout;rw[IN];refine⟨a,rfl,⟨hD,z1⟩,ag.2 ⟨fun fb=>ag.2 ⟨fun hS=>?_,fun hS=>ag.2 ⟨fun _=>?_,fun c=>absurd (fb.symm.trans c) (by simp)⟩⟩,fun fb=>ag.2 ⟨fun c=>absurd (c.symm.trans fb) (by simp),fun _=>none (by rw[hout,fb];rfl)⟩⟩⟩
   ·rw[Bool.not_eq_true'] at hS
    refine⟨⟨a.e,toStr (af a.d 9),⟨false,a.fV,ByteArray.mk #[]⟩⟩,rfl,trivial,next _ ?_⟩;rw[hout,fb,hS];rfl
   ·rw[ao4] at hS
    rw[fb,hS,an9,an9] at hout;exact⟨⟨a.e,dM (af a.d 10)⟩,rfl,z2 (of_decide_eq_true hS),ag.2 ⟨fun q=>next _ (by rw[hout,show((cX a.e (dM (af a.d 10)).tm).n==a.fV)=true from q];rfl),fun q=>none (by rw[hout,show((cX a.e (dM (af a.d 10)).tm).n==a.fV)=false from q];rfl)⟩⟩
theorem qGq(κ:Kp): ∀args st K,aX qj gK R3 args st K->bt (Pr κ) 35 args st K:=by
 rintro args st K ⟨a,h1,h2,h3⟩;exact aF.nf QP (Vu κ) (eGz κ) (cGq κ) (a.q.steps.length - a.i) args st K ⟨a,h1,⟨h2,rfl⟩,h3⟩
noncomputable def BGq(κ:Kp):EB:=(O5 κ).Ee aZ (qGq κ)
def XS(_:Zy):Out (AV×List Dn.Obj):= .one (.bool true,[])
theorem Xv: ∀args st K,aX Ok (fun x=>pj ⟨x.ds,x.rs,x.q,0⟩/\∃y,y∈x.rs/\qK x.ds x.q y) XS args st K->aX Ok (fun x=>pj ⟨x.ds,x.rs,x.q,0⟩) M5 args st K:=by
 rintro args st K ⟨x,h1,h2,h3⟩;exact⟨x,h1,h2.1,fun r hr=>by
  obtain rfl:=hr h2.2;exact h3⟩
theorem TH(κ:Kp)(args:List AV)(st:List Dn.Obj)(K:AV->List Dn.Obj->Prop)(h:aX Ok (fun x=>pj ⟨x.ds,x.rs,x.q,0⟩) M5 args st K):(BGq κ).E.call 33 args st K:=h
noncomputable def BKt(κ:Kp):EB:=(BGq κ).narrow (TH κ) Xv
theorem Rk{E}(b:aF E){f:Nat}{a st K}(h:rD E f a st K):bt E.P f a st K:=by
 refine⟨?_,fun C i e g c d=>by grind [py]⟩;obtain⟨_,h⟩:=ai.1 h;simp[jO] at h;exact(b.call _ _ _ _ h).1
def EB.place(b:EB)(f:Nat)(l:List (Nat×Nat×TypeId)):EB:=
 ⟨b.E.aB f fun c s K=>rD _ f _ _ K,b.ok.eX fun _ _ _ a=>N0 (Dz l (Rk b.ok a)),b.mono.aB fun _ _ _ _ d a=>yd b.mono d a⟩
noncomputable def BRp(κ:Kp):EB:=EB.inline (EB.place (BKt κ) 35 [(0,3,70)]) [34]
theorem yRq(κ:Kp)(ds rs ins del:List AV)(q:QD)(K:AV->List Dn.Obj->Prop):(a8 (BRp κ).E 12 14 [lj ds rs,qA q, .ad 51 ins, .ad 70 del] [] K)=(
 letI a:=AV.int
 letI b:=AV.ad
 letI g:=∃(e1:bc),([AV.ptr 0 0 [] 0,a 0,AV.eO 9 72 [] []],[Obj.box 88 (AV.agg [AV.agg [a q.rel,b 40 q.steps,b 38 q.out,a
  q.delta],b 51 ins,b 70 del,AV.ax 1 0 0]),Obj.row 70 []])=qj e1/\gK e1/\an (List.isEmpty (bc.res e1)) (∃(e0:RL),([b 70 (List.take
  e1.L.length (List.drop 0 (rws e1.L)))],[])=vd e0/\kq e0/\K (AV.aK [b 70 (rws (ie e0)),a 0]) []) (∃(e0:RL),([b 70 (List.take (List.length
  (e1.L++bc.res e1)) (List.drop 0 (rws (e1.L++bc.res e1))))],[])=vd e0/\kq e0/\K (AV.aK [b 70 (rws (ie e0)),a 0]) [])
 letI h:=decide ((0:Int)<=q.delta)&&decide (q.delta<(↑(q.steps.length):Int))
 letI e:=nth q.steps q.delta.toNat
 letI d:=nth ds (Int.toNat (toInt (af e 2)))
 letI f:=K (AV.aK [AV.nil,a 2]) []
 letI j:=K (AV.aK [AV.nil,a 90]) []
 letI k:=decide (q.delta>=(0:Int))
 letI l:=aG (List.all rs fk&&iP ins) (an (!iv ds rs ins) j (an k (aG h (aG (decide ((0:Int)<=toInt (af e 2))&&decide (toInt (af e 2)<
  (↑(ds.length):Int))) (aG (true&&iP [b 70 del]) (an (!iv [AV.agg [AV.lit (Value.string (toStr (af d 0))),b 9 (aa (af d 1)),b 3 (aa (af d
  2)),AV.lit (Value.bool (Dn.toBool (af d 3))),AV.lit (Value.bool (Dn.toBool (af d 4))),AV.lit (Value.int IntKind.i64 (toInt (af d 5)))]] [] [b 70 del])
  j g)))) g))
 ∃(e3:SF),([lj ds rs],[])=Kl e3/\tZ e3/\an (Prod.snd (jy e3.1 e3.2) != (0:Int)) (K (AV.aK [AV.nil,a (Prod.snd (jy e3.1 e3.2))]) []) (∃(e2:Zy),letI m:=Rw.rs {ds:=e2.ds,rs:=e2.rs,q:=e2.q,i:=0};([lj ds rs,AV.agg [a q.rel,b 40 q.steps,b 38 q.out,a q.delta]],[])=Ok e2/\((List.length (Rw.ds {ds:=e2.ds,rs:=e2.rs,q:=e2.q,i:=0})<=9223372036854775807/\List.length m<=100000/\∀(e0:AV),List.Mem e0 m->Li (cG e0))/\∃(e0:AV),letI c:=bB e2.ds (cG e0);List.Mem e0 e2.rs/\QD.rel c=e2.q.rel/\ae (QD.out c)=ae e2.q.out/\List.map sJ (QD.steps c)=List.map sJ e2.q.steps)/\an (decide (q.delta<(-1:Int))) f (an (decide (q.delta>=(↑(q.steps.length):Int))) f (an k (aG h (an (toInt (af e 0) != (1:Int)) f l)) l)))):=by kernel_rfl
abbrev PU(d:AV):AV:= .agg [.lit (.string (toStr (af d 0))), .ad 9 (aa (af d 1)), .ad 3 (aa (af d 2)), .bool (Dn.toBool (af d 3)), .bool (Dn.toBool (af d 4)), .int (toInt (af d 5))]
structure jB where
 ds:List AV
 rs:List AV
 r:AV
 d:Int
 ins:List AV
 del:List AV
def jB.q(x:jB):QD:=⟨(bB x.ds (cG x.r)).rel,(bB x.ds (cG x.r)).steps,(bB x.ds (cG x.r)).out,x.d⟩
def jB.to(x:jB):Int:=toInt (af (nth x.q.steps x.d.toNat) 2)
def jB.fit(x:jB):Bool:=iv x.ds x.rs x.ins&&(bif decide (x.d>=0) then iv [PU (nth x.ds x.to.toNat)] [] [.ad 70 x.del] else true)
def jB.res(x:jB):RL:=kX x.q x.ins x.del (List.range x.q.steps.length) []
structure s8(x:jB):Prop where
 s:j2 x.ds x.rs
 c:(jy x.ds x.rs).2=0
 r:x.r∈x.rs
 n:x.rs.length<=100000
 d0: -1<=x.d
 d1:x.d<x.q.steps.length
 d2:0<=x.d->toInt (af (nth x.q.steps x.d.toNat) 0)=1/\0<=x.to/\x.to<x.ds.length
 f:(x.rs.all fk&&iP x.ins)=true
 e:iP [.ad 70 x.del]=true
 g:x.fit=true->PB x.q x.ins x.del/\x.res.length<=100000000/\kq x.res
def Oo(x:jB):List AV×List Dn.Obj:=([lj x.ds x.rs,qA x.q, .ad 51 x.ins, .ad 70 x.del],[])
def Nb(x:jB):Out (AV×List Dn.Obj):= .an x.fit (.one (.aK [.ad 70 (rws (ie x.res)), .int 0],[])) (.one (.aK [.nil, .int 90],[]))
theorem cQu(κ:Kp):bq (BRp κ).E 12 14 (aX Oo s8 Nb):=by
 refine a7 ?_;intro x K h ho;have yes:x.fit=true->K (.aK [.ad 70 (rws (ie x.res)), .int 0]) []:=fun e=>by
  simp only[Nb,Out.run,e] at ho;exact ho
 have no:x.fit=false->K (.aK [.nil, .int 90]) []:=fun e=>by
  simp only[Nb,Out.run,e] at ho;exact ho
 refine Eq.mpr (yRq κ x.ds x.rs x.ins x.del x.q K) ⟨(x.ds,x.rs),rfl,h.s,?_⟩;rw[show((jy (x.ds,x.rs).1 (x.ds,x.rs).2).2 != 0)=false by rw[h.c];rfl];have fin:x.fit=true->∃a:bc,([AV.ptr 0 0 [] 0,AV.int 0,AV.eO 9 72 [] []],[Dn.Obj.box 88 (Nr x.q x.ins x.del (.ax 1 0 0)), .row 70 []])=qj a/\gK a/\an a.res.isEmpty (∃b:RL,([AV.ad 70 (List.take a.L.length (List.drop 0 (rws a.L)))],([]:List Dn.Obj))=vd b/\kq b/\K (.aK [.ad 70 (rws (ie b)), .int 0]) [])
   (∃b:RL,([AV.ad 70 (List.take (a.L++a.res).length (List.drop 0 (rws (a.L++a.res))))],([]:List Dn.Obj))=vd b/\kq b/\K (.aK [.ad 70 (rws (ie b)), .int 0]) []):=fun e=>by
  obtain⟨g1,g2,g3⟩:=h.g e;have hy:=yes e;have er:(bc.mk x.q x.ins x.del [] 0 []).res=x.res:=rfl;refine⟨⟨x.q,x.ins,x.del,[],0,[]⟩,rfl,⟨g1,Nat.zero_le _,by rw[er];simp only[List.length_nil];omega⟩,?_⟩;rw[er];refine ag.2 ⟨fun e0=>?_,fun _=>⟨x.res,?_,g3,hy⟩⟩
  ·rw[List.isEmpty_iff.1 e0] at hy g3
   exact⟨[],rfl,g3,hy⟩
  ·simp only[List.nil_append,ao2]
   rw[←fq x.res,List.take_length];rfl
 have d0:=h.d0;have d1:=h.d1;have dq:x.q.delta=x.d:=rfl;refine⟨⟨x.ds,x.rs,x.q⟩,rfl,⟨⟨h.s.1,h.n,fun r hr=>pN h.s h.c hr⟩,x.r,h.r,rfl,rfl,rfl⟩,?_⟩;rw[dq];refine ag.2 ⟨fun e=>absurd (of_decide_eq_true e) (by omega),fun _=>ag.2 ⟨fun e=>absurd (of_decide_eq_true e) (by omega),fun _=>ag.2 ⟨fun e=>?pos,fun e=>?neg⟩⟩⟩
 case pos=>
  have e1:0<=x.d:=of_decide_eq_true e;obtain⟨k1,k2,k3⟩:=h.d2 e1;have dd:(decide (0<=x.d)&&decide (x.d<(x.q.steps.length:Int)))=true:=by rw[an3,an2,an2];exact⟨e1,d1⟩
  have bd:(iv x.ds x.rs x.ins=false\/iv [PU (nth x.ds x.to.toNat)] [] [.ad 70 x.del]=false)->x.fit=false:=fun o=>by
   unfold jB.fit;rcases o with o|o
   ·rw[o];rfl
   ·rw[e,o];cases iv x.ds x.rs x.ins<;>rfl
  refine ai.2 ⟨dd,ag.2 ⟨fun c=>absurd k1 (by simpa using c),fun _=>ai.2 ⟨h.f,ag.2 ⟨fun c=>no (bd (.inl (by simpa using c))),fun c=>ag.2 ⟨fun _=>ai.2 ⟨dd,ai.2 ⟨?_,ai.2 ⟨by rw[h.e];rfl,ag.2 ⟨fun c2=>no (bd (.inr ?_)),fun c2=>fin ?_⟩⟩⟩⟩,fun c=>absurd (e.symm.trans c) (by simp)⟩⟩⟩⟩⟩
  ·rw[an3,an2,an2];exact⟨k2,k3⟩
  ·rw[Bool.not_eq_true'] at c2;exact c2
  ·rw[ao4] at c c2
   unfold jB.fit;rw[c,e];exact c2
 case neg=>
  refine ai.2 ⟨h.f,ag.2 ⟨fun c=>no ?_,fun c=>ag.2 ⟨fun c2=>absurd (c2.symm.trans e) (by simp),fun _=>fin ?_⟩⟩⟩
  ·rw[Bool.not_eq_true'] at c
   unfold jB.fit;rw[c];rfl
  ·rw[ao4] at c
   unfold jB.fit;rw[c,e];rfl
noncomputable def Ta(κ:Kp):EB:=((BRp κ).call (cQu κ)).calm [14]
end Go.Proofs.YtioeffnadipbaaaGreatDoor
namespace Go.Proofs.YtioeffnadipbaaaGreatDoor
open Go Go.Dn Go.Rl Go.Proofs
def yS(l:List _):=(l.filter fun x=>toInt (af x 0)==1).length
def RM r:=decide (yS (aa (af r 1))<=3)
theorem Fm{p}: ∀n {l:List _},l.Nodup->(∀x,x∈l->x<n)->(l.filter p).length<=((List.range n).filter p).length:=by
 intro n l d e;have c:(l.filter p).Nodup:=d.filter _;have g: ∀x,x∈l.filter p->x∈(List.range n).filter p:=fun x h=>by
  grind
 generalize l.filter p=a at*
 generalize (List.range n).filter p=b at*
 clear d e;induction a generalizing b with
 |nil=>exact Nat.zero_le _
 |cons x a f=>
  rw[List.nodup_cons] at c;have:=f c.2 (b.erase x) (by grind)
  grind
theorem sC q: ∀l:List _,((List.range l.length).filter fun k=>q (nth l k)).length=(l.filter q).length
 |[]=>rfl
 | a::l=>by
  have b:=sC q l;rw[List.length_cons,List.range_succ_eq_map,List.filter_cons,List.filter_cons];have e:((List.range l.length).map Nat.succ).filter (fun k=>q (nth (a::l) k))=((List.range l.length).filter fun k=>q (nth l k)).map Nat.succ:=by
   rw[List.filter_map];rfl
  grind [nth]
structure ZV(xs:List AV):Prop where
 f:iP xs=true
 r: ∀x,x∈xs->∀r,r∈aa x->r= .ad 72 (aa r)
 v: ∀x,x∈xs->∀r,r∈aa x->∀v,v∈aa r->v=gz (uv v)
theorem HA: ∀{l},(∀r,r∈l->r= .ad 72 (aa r))->rws (dS l)=l
 |[],_=>rfl
 |a::l,h=>by
  have c:=h a (by simp);have b:=HA (l:=l) (by grind);show AV.ad _ _::rws (dS l)=a::l
  grind
theorem OI: ∀{t b},Io t b=true->(∀v,v∈t->v=gz (uv v))->Bd t
 |[],[],_,_,v,c=>nomatch c
 | v::t,k::b,h,d,w,a=>by
  simp only[Io,an3] at h;rcases List.mem_cons.1 a with rfl|a
  ·refine⟨d _ (by simp),?_⟩
   grind [VE]
  ·exact OI h.2 (by grind) w a
theorem wo: ∀{xs ds},uB xs ds=true->∀i,i<xs.length->uA (aa (nth xs i)) (aa (af (nth ds i) 2))=true
 |[],_,_,i,a=>absurd a (by simp)
 |x::xs,[],h,_,_=>by cases h
 |x::xs,d::ds,h,i,a=>by
  rw[uB,an3] at h;cases i with
  |zero=>exact h.1
  |succ i=>exact wo h.2 i (by grind)
theorem EY{a s n l}(h:a=1\/a=2\/a=3):b7 (.mk a s n l)=true:=by
 have c: ∀b,(a==1||(a==2||(a==3||b)))=true:=fun b=>by grind
 match l with
 |[]=>grind [b7]
 |[_]=>grind [b7]
 |[_,_]=>exact c _
 |_::_::_::_=>grind [b7]
theorem lu: ∀h t,ak h t=true->t.op≠4->b7 t=true
 |0,t,c,_=>by simp[ak] at c
 | h+1, .mk f s n l,c,i=>by
  rw[pY] at c;by_cases j:f=0
  ·grind
  rw[an6 j,an7] at c;cases d:lQ f with
  | true=>
   rw[d,an9] at c;simp only[an3,an2,lX,List.all_eq_true,Bool.not_eq_true',Bool.or_eq_false_iff,an4] at c;obtain⟨⟨_,k⟩,e⟩:=c;match l,k,e with
   |[a,b],_,e=>
    have g:=e a (by simp);have d:=e b (by simp);simp only[b7,lu h a g.2 g.1.2,lu h b d.2 d.1.2,Bool.and_true,Bool.or_true]
  |false=>
   rw[d,an7,an3] at c;have m:=c.1;have i:f≠4:=i
   grind [bare,EY,decide_eq_false]
theorem rk{a}(h:bj a=true):a.l.length<=8/\∀t,t∈a.l->t.op≠4->b7 t=true:=by
 grind [bj,lu]
theorem G5{t}(h:TZ t=true):b7 t=true:=by
 obtain⟨a,s,n,l⟩:=t;simp[TZ] at h;exact EY (h.imp id .inl)
theorem Qv{t}(h:t.op=1):b7 t=true:=by
 obtain⟨a,s,n,l⟩:=t;exact EY (.inl h)
structure Wm(l:Lt):Prop where
 a:wI l.op=true->bj l.a=true
 x:(l.op==1)=false->(l.op==2)=false->b7 l.x=true
 y:(l.op==1)=false->(l.op==2)=false->l.op≠7->b7 l.y=true
theorem TO{l}(h:iM l=true):Wm l:=by
 unfold iM at h;by_cases b:(decide (l.op=1)||decide (l.op=2))=true
 ·rw[b,an9,an3] at h
  refine⟨fun _=>h.1,fun e d=>?_,fun e d=>?_⟩
  all_goals
   simp only[Bool.or_eq_true,an2] at b;rcases b with c|c<;>simp[c] at e d
 ·have b:(decide (l.op=1)||decide (l.op=2))=false:=by simpa using b
  rw[b,an7] at h;by_cases a:(decide (l.op=3)||decide (l.op=4)||decide (l.op=5)||decide (l.op=6))=true
  ·rw[a,an9] at h
   simp only[an3,Bool.not_eq_true',an4] at h;refine⟨fun g=>?_,fun _ _=>lu 20 _ h.1.2 h.1.1.1.2,fun _ _ _=>lu 20 _ h.2 h.1.1.2⟩;simp only[Bool.or_eq_true,an2] at a;rcases a with((c|c)|c)|c<;>simp[wI,c] at g
  ·have a:(decide (l.op=3)||decide (l.op=4)||decide (l.op=5)||decide (l.op=6))=false:=by simpa using a
   rw[a,an7] at h;by_cases c7:l.op=7
   ·rw[an8 c7,an9] at h
    simp only[an3] at h;exact⟨fun _=>h.1.1,fun _ _=>G5 h.1.2.1,fun _ _ f=>absurd c7 f⟩
   ·rw[an6 c7,an7] at h
    cases c8:(decide (l.op=8)||decide (l.op=9)||decide (l.op=10)) with
    |true=>
     rw[c8,an9] at h;simp only[an3,an2] at h;exact⟨fun _=>h.1.1.1,fun _ _=>G5 h.1.1.2.1,fun _ _ _=>Qv h.1.1.2.2⟩
    |false=>rw[c8] at h;cases h
def Zn ds i:=(aa (af (nth ds i) 2)).length
structure am9(ds:List AV)(all:List RL):Prop where
 len:all.length=ds.length
 v: ∀L,L∈all->iL L
 r: ∀L,L∈all->dr L=true
 w: ∀i r,r∈all.getD i []->r.length=Zn ds i
theorem Cv{s:ByteArray}: ∀{ds:List AV} {k:Nat},jV s (cP ds)=some k->k<ds.length/\toStr (af (nth ds k) 0)=s/\((cP ds).getD k ⟨ByteArray.empty,[]⟩).types.length=(aa (af (nth ds k) 2)).length
 |[],k,h=>nomatch h
 | d::ds,k,h=>by
  rw[show cP (d::ds)=PT d::cP ds from rfl,jV,show(PT d).rel=toStr (af d 0) from rfl] at h;cases e:oh (toStr (af d 0)) s with
  |true=>
   rw[e,an9] at h;cases h;exact⟨by simp,Ax.1 e,by show((aa (af d 2)).map toInt).length=_;rw[List.length_map];rfl⟩
  | false=>
   rw[e,an7] at h;cases e2:jV s (cP ds) with
   |none=>rw[e2] at h;cases h
   |some m=>
    rw[e2] at h;cases h;obtain⟨h1,h2,h3⟩:=Cv e2;exact⟨by simp only[List.length_cons];omega,h2,h3⟩
def Gx(ds:List AV)(s:ByteArray)(n:Nat):Prop:=0<=ck s ds/\ck s ds<ds.length/\toStr (af (nth ds (ck s ds).toNat) 0)=s/\(aa (af (nth ds (ck s ds).toNat) 2)).length=n
theorem Mb{ds:List AV}{a:At}(h:known (cP ds) a=0):Gx ds a.rel a.l.length:=by
 unfold known at h;cases e:jV a.rel (cP ds) with
 |none=>rw[e] at h;cases h
 | some k=>
  rw[e] at h;obtain⟨_,h2,h3⟩:=rZ e;obtain⟨_,k2,k3⟩:=Cv e;unfold Gx;rw[h2];refine⟨by omega,by omega,by simpa using k2,?_⟩;simp only[Int.toNat_natCast];rw[←k3];have:(da (cP ds) a.rel).length=a.l.length:=by
   cases e3:decide ((da (cP ds) a.rel).length=a.l.length) with
   |true=>simpa using e3
   |false=>simp only[e3,an7] at h;cases h
  unfold da at this;rw[e] at this;exact this
theorem Nt{ds rs:List AV}(h:(jy ds rs).2=0){r:AV}(hr:r∈rs):Gx ds (toStr (af (af r 0) 0)) (aH (cG r)).head.l.length/\
  ∀l,l∈aa (af r 1)->gQ (toInt (af l 0))=true->Gx ds (toStr (af (af l 1) 0)) (aa (af (af l 1) 1)).length:=by
 obtain⟨h1,_,h2,_⟩:=LD.1 h;have ht:=h2 r hr;have hk:ke (cP ds) (aH (cG r))=0:=by
  refine Zj ?_;unfold lz at ht;cases e:fR ds [aw (cG r)] with
  |true=>rw[e,an9] at ht;exact ht
  |false=>rw[e,an7] at ht;cases ht
 unfold ke at hk;cases e:decide (known (cP ds) (aH (cG r)).head=0) with
 |false=>rw[e,an7] at hk;simp[hk] at e
 | true=>
  rw[e,an9] at hk;refine⟨Mb (a:=(aH (cG r)).head) (by simpa using e),fun l hl ha=>?_⟩;have hm:c9 l∈(aH (cG r)).body:=List.mem_map_of_mem hl;have:=Mb (a:=(c9 l).a) (wP hk _ hm ?_)
  ·rw[show(c9 l).a.l.length=(aa (af (af l 1) 1)).length from dz _] at this
   exact this
  ·have e1:(c9 l).op=toInt (af l 0):=rfl
   unfold Rl.gQ;rw[e1];unfold gQ at ha;cases h3:decide (toInt (af l 0)<3) with
   |true=>rfl
   |false=>rw[h3,an7] at ha;simpa using ha
structure O3(ds:List AV)(d:SD):Prop where
 r0:0<=d.rl
 r1:d.rl<ds.length
 ev:d.q.IG
 nd:d.q.all.Nodup
 lt: ∀x,x∈d.q.all->0<=x/\x<(aa (af (nth ds d.rl.toNat) 2)).length
 le:(aa (af (nth ds d.rl.toNat) 2)).length<=100000
 l2:d.q.all.length<=100000
theorem Oz{ds rs:List AV}(hs:j2 ds rs)(h:(jy ds rs).2=0){r:AV}(hr:r∈rs){l:AV}(hl:l∈aa (af r 1))(bd:List AV):
  (jt ds bd l).op=3\/(jt ds bd l).op=4\/O3 ds (jt ds bd l):=by
 have key:gQ (toInt (af l 0))=true->O3 ds ⟨0,0,ck (toStr (af (af l 1) 0)) ds,fW bd (dn (aa (af (af l 1) 1)) 0),ByteArray.mk #[],zT,zT⟩:=fun ha=>by
  obtain⟨h1,h2,_,h4⟩:=(Nt h hr).2 l hl ha;obtain⟨k1,k2,k3⟩:=QW bd (aa (af (af l 1) 1));have hf:=(wX (hs.2.2 r hr) hl).1;have hn:=eu (ae (aa (af (af l 1) 1)));rw[dz] at hn;have hp:=(Ge bd (dn (aa (af (af l 1) 1)) 0) Kk).length_eq;have hc:=rU (aa (af (af l 1) 1)) 0;refine⟨h1,h2,k1,k2,fun x hx=>?_,?_,?_⟩
  ·simp only;rw[h4];exact k3 x hx
  ·simp only;rw[h4];omega
  ·have:(SS.all Kk).length=0:=rfl
   rw[ao6,List.length_map,this] at hp;show(fW bd (dn (aa (af (af l 1) 1)) 0)).all.length<=100000
   unfold fW;omega
 have mk: ∀{op na:Int} {t:ByteArray} {X Y:AT},gQ (toInt (af l 0))=true->O3 ds ⟨op,na,ck (toStr (af (af l 1) 0)) ds,fW bd (dn (aa (af (af l 1) 1)) 0),t,X,Y⟩:=fun ha=>by
  obtain⟨a,b,c,d,e,f,g⟩:=key ha;exact⟨a,b,c,d,e,f,g⟩
 unfold jt ud;generalize toInt (af l 0)=op at mk⊢
 by_cases e2:op=2
 ·subst e2;exact Or.inr (Or.inr (mk rfl))
 by_cases e1:op=1
 ·subst e1;exact Or.inr (Or.inr (mk rfl))
 rw[show(op==2)=false by simpa using e2,show(op==1)=false by simpa using e1,an7,an7];by_cases e3:op=3
 ·subst e3
  rw[show((3:Int)==3)=true from rfl,an9];cases qP bd (dM (af l 2)) with
  |true=>exact Or.inr (Or.inl rfl)
  |false=>cases qP bd (dM (af l 3)) with
   |true=>exact Or.inr (Or.inl rfl)
   |false=>exact Or.inl rfl
 rw[show(op==3)=false by simpa using e3,an7];by_cases e4:op=4\/op=5\/op=6
 ·rw[show(op==4||(op==5||op==6))=true by simpa using e4,an9]
  exact Or.inl rfl
 ·rw[show(op==4||(op==5||op==6))=false by simpa[not_or] using e4,an7]
  have ha:gQ op=true:=by
   unfold gQ;cases h3:decide (op<3) with
   |true=>rfl
   |false=>
    rw[an7,an2];have: ¬ op<3:=by simpa using h3
    omega
  cases qP bd (dM (af l 2)) with
  |true=>exact Or.inr (Or.inr (mk ha))
  |false=>exact Or.inr (Or.inr (mk ha))
structure Wk(ds ins:List AV):Prop where
 l:ins.length=ds.length
 x: ∀i,eE (aa (nth ins i))=true
 r: ∀i,aa (nth ins i)=rws (dS (aa (nth ins i)))
 v: ∀i,iL (dS (aa (nth ins i)))
 w: ∀i r,r∈aa (nth ins i)->(aa r).length=Zn ds i
theorem WO{ds rs ins:List AV}(hs:ZV ins)(h:iv ds rs ins=true):Wk ds ins:=by
 simp only[iv,an3,an2] at h;obtain⟨_,hl,hw⟩:=h;have key: ∀i,i<ins.length->nth ins i∈ins:=fun i hi=>by rw[aJ _ i hi];exact List.getElem_mem _
 have ty: ∀i,i<ins.length->∀r,r∈aa (nth ins i)->Io (aa r) (aa (af (nth ds i) 2))=true:=fun i hi r hr=>by
  have h1:=wo hw i hi;simp only[uA,an3,Sz,List.all_eq_true] at h1;exact h1.1 r hr
 have no: ∀i,ins.length<=i->aa (nth ins i)=[]:=fun i hi=>by rw[iF _ i hi];rfl
 refine⟨hl,fun i=>oK hs.f i,fun i=>?_,fun i=>?_,fun i r hr=>?_⟩
 ·rcases Nat.lt_or_ge i ins.length with hi|hi
  ·exact(HA fun r hr=>hs.r _ (key i hi) r hr).symm
  ·rw[no i hi];rfl
 ·rcases Nat.lt_or_ge i ins.length with hi|hi
  ·intro x hx
   obtain⟨r,hr,rfl⟩:=List.mem_map.1 hx;exact OI (ty i hi r hr) (hs.v _ (key i hi) r hr)
  ·rw[no i hi];exact fun _ h=>nomatch h
 ·rcases Nat.lt_or_ge i ins.length with hi|hi
  ·exact B3 _ _ (ty i hi r hr)
  ·rw[no i hi] at hr;cases hr
structure Wn(ds:List AV)(d:SD):Prop where
 a:qi d.op=true->O3 ds d/\∀t,t∈d.q.cn->b7 (dM t).tm=true
 x:d.op=4\/d.op=3->b7 d.X.tm=true
 y:d.op=3->b7 d.Y.tm=true
 z:d.op≠1->d.op≠2->d.op≠4->d.op≠3->(d.na≠7->b7 d.Y.tm=true)/\(d.t=ByteArray.mk #[]->b7 d.X.tm=true)
theorem PV(t:AT):(dM (I4 t)).tm=t.tm:=by
 rw[eY];show bX (Aw t.tm)=_
 exact B2 _
theorem mE(t:AT):(mD t).tm=t.tm:=by
 unfold mD AT.tm;simp only;rw[sX]
theorem DH(bd:List AV): ∀(l:List (Int×AT)) (s:SS) (t:AV),t∈(l.foldl (my bd) s).cn->t∈s.cn\/ ∃e,e∈l/\t=I4 e.2
 |[],_,_,h=> .inl h
 | e::l,s,t,h=>by
  rw[List.foldl_cons] at h;rcases DH bd l _ t h with h|⟨e',h1,h2⟩
  ·unfold my at h
   cases c: !qP bd e.2 with
   |true=>
    rw[c,an9] at h;rcases List.mem_append.1 h with h|h
    ·exact .inl h
    ·exact .inr ⟨e,by simp,List.mem_singleton.1 h⟩
   |false=>
    rw[c,an7] at h;cases c2:mu e.2.s (strs s.binds)<;>rw[c2] at h<;>exact .inl h
  ·exact .inr ⟨e',by simp[h1],h2⟩
theorem we: ∀(l:List AV) (i:Int) (e:Int×AT),e∈dn l i->∃t,t∈l/\toInt (af t 0)≠4/\e.2=dM t
 |[],_,_,h=>nomatch h
 | t::l,i,e,h=>by
  rw[dn] at h;by_cases c:toInt (af t 0)=4
  ·rw[an8 c,an9] at h
   obtain⟨u,h1,h2⟩:=we l _ e h;exact⟨u,by simp[h1],h2⟩
  ·rw[an6 c,an7] at h
   rcases List.mem_cons.1 h with rfl|h
   ·exact⟨t,by simp,c,rfl⟩
   ·obtain⟨u,h1,h2⟩:=we l _ e h
    exact⟨u,by simp[h1],h2⟩
theorem Ds{u:Tm}(h:ak 20 u=true)(h1:u.op=1)(h2:u.s=ByteArray.mk #[]):False:=by
 obtain⟨op,s,n,l⟩:=u;have h1:op=1:=h1;have h2:s=ByteArray.mk #[]:=h2;subst h1 h2;rw[pY] at h;have e:oh (ByteArray.mk #[]) (ByteArray.mk #[])=true:=Ax.2 rfl;simp[lQ,bare,isName,e] at h
theorem TP{l:Lt}(h:iM l=true)(h1:l.op≠1)(h2:l.op≠2)(h3:l.op≠3)(h4:l.op≠4)(h5:l.op≠5)(h6:l.op≠6):ak 20 l.x=true:=by
 unfold iM at h;simp only[h1,h2,h3,h4,h5,h6,decide_false,Bool.or_self,an7] at h;cases c7:decide (l.op=7) with
 |true=>rw[c7,an9,an3] at h;exact h.2
 |false=>
  rw[c7,an7] at h;cases c8:(decide (l.op=8)||decide (l.op=9)||decide (l.op=10)) with
  |true=>rw[c8,an9,an3,an3] at h;exact h.1.2
  |false=>rw[c8] at h;cases h
theorem Oy{ds rs:List AV}(hs:j2 ds rs)(hc:(jy ds rs).2=0){r:AV}(hr:r∈rs){l:AV}(hl:l∈aa (af r 1))(bd:List AV):Wn ds (jt ds bd l):=by
 have ask:=Oz hs hc hr hl bd;have hR:=(pN hs hc hr).r;simp only[ba,an3,List.all_eq_true] at hR;have hL:iM (c9 l)=true:=hR.2 _ (List.mem_map_of_mem hl);have hF:=TO hL;have ht:wI (toInt (af l 0))=true->∀t,t∈(fW bd (dn (aa (af (af l 1) 1)) 0)).cn->b7 (dM t).tm=true:=fun ha t h=>by
  rcases DH bd _ _ t h with h|⟨e,h1,rfl⟩
  ·cases h
  ·obtain⟨u,h2,h3,h4⟩:=we _ _ _ h1
   rw[PV,h4,eY];refine(rk (hF.a ha)).2 _ (List.mem_map_of_mem h2) ?_;rw[cF];exact h3
 have hx:toInt (af l 0)≠1->toInt (af l 0)≠2->b7 (dM (af l 2)).tm=true:=fun e1 e2=>by rw[eY];exact hF.x (beq_eq_false_iff_ne.2 e1) (beq_eq_false_iff_ne.2 e2)
 have hy:toInt (af l 0)≠1->toInt (af l 0)≠2->toInt (af l 0)≠7->b7 (dM (af l 3)).tm=true:=fun e1 e2 e7=>by rw[eY];exact hF.y (beq_eq_false_iff_ne.2 e1) (beq_eq_false_iff_ne.2 e2) e7
 have hn:toInt (af l 0)≠1->toInt (af l 0)≠2->toInt (af l 0)≠3->toInt (af l 0)≠4->toInt (af l 0)≠5->toInt (af l 0)≠6->qP bd (dM (af l 2))=true->(dM (af l 2)).s=ByteArray.mk #[]->False:=fun h1 h2 h3 h4 h5 h6 hf hz=>by
  have h7:=TP hL h1 h2 h3 h4 h5 h6;unfold qP at hf;rw[an3,beq_iff_eq] at hf;have e:(c9 l).x=bX (af l 2):=rfl;rw[e,cF] at h7;exact Ds h7 hf.1 hz
 unfold jt ud at ask⊢;generalize toInt (af l 0)=op at ask ht hx hy hn⊢
 generalize dM (af l 2)=u at ask hx hn⊢
 generalize dM (af l 3)=v at ask hy⊢
 by_cases e2:op=2
 ·subst e2
  rcases ask with c|c|c
  ·cases c
  ·cases c
  ·exact⟨fun _=>⟨c,ht rfl⟩,(fun h=>by simp at h),(fun h=>by simp[qi] at h),fun _ h=>absurd rfl h⟩
 by_cases e1:op=1
 ·subst e1
  rcases ask with c|c|c
  ·cases c
  ·cases c
  ·exact⟨fun _=>⟨c,ht rfl⟩,(fun h=>by simp at h),(fun h=>by simp[qi] at h),fun h=>absurd rfl h⟩
 have f2:(op==2)=false:=by simpa using e2
 have f1:(op==1)=false:=by simpa using e1
 rw[f2,f1,an7,an7] at ask⊢;by_cases e3:op=3
 ·subst e3
  have hx:=hx (by omega) (by omega);have hy:=hy (by omega) (by omega) (by omega);rw[show((3:Int)==3)=true from rfl,an9];cases qP bd u with
  |true=>exact⟨(fun h=>by simp[qi] at h),fun _=>(congrArg b7 (mE v)).trans hy,(fun h=>by simp[qi] at h),fun _ _ h=>absurd rfl h⟩
  |false=>cases qP bd v with
   |true=>exact⟨(fun h=>by simp[qi] at h),fun _=>(congrArg b7 (mE u)).trans hx,(fun h=>by simp[qi] at h),fun _ _ h=>absurd rfl h⟩
   |false=>exact⟨(fun h=>by simp[qi] at h),fun _=>(congrArg b7 (mE u)).trans hx,fun _=>(congrArg b7 (mE v)).trans hy,fun _ _ _ h=>absurd rfl h⟩
 have f3:(op==3)=false:=by simpa using e3
 rw[f3,an7] at ask⊢;by_cases e4:op=4\/op=5\/op=6
 ·rw[show(op==4||(op==5||op==6))=true by simpa using e4,an9]
  have hx:=hx e1 e2;have hy:=hy e1 e2 (by omega);exact⟨(fun h=>by simp[qi] at h),fun _=>(congrArg b7 (mE u)).trans hx,fun _=>(congrArg b7 (mE v)).trans hy,fun _ _ _ h=>absurd rfl h⟩
 ·have f4:(op==4||(op==5||op==6))=false:=by simpa[not_or] using e4
  rw[f4,an7] at ask⊢;have ha:wI op=true:=by
   unfold wI;rw[f1,f2,f3];simp only[Bool.or_eq_false_iff] at f4;rw[f4.1,f4.2.1,f4.2.2];rfl
  cases hf:qP bd u with
  |true=>
   rw[hf,an9] at ask;rw[an9];rcases ask with c|c|c
   ·cases c
   ·cases c
   ·exact⟨fun _=>⟨c,ht ha⟩,(fun h=>by simp at h),(fun h=>by simp[qi] at h),fun _ _ _ _=>⟨hy e1 e2,fun hz=>(hn e1 e2 e3 (by omega) (by omega) (by omega) hf hz).elim⟩⟩
  |false=>
   rw[hf,an7] at ask;rw[an7];rcases ask with c|c|c
   ·cases c
   ·cases c
   ·exact⟨fun _=>⟨c,ht ha⟩,(fun h=>by simp at h),(fun h=>by simp[qi] at h),fun _ _ _ _=>⟨hy e1 e2,fun _=>hx e1 e2⟩⟩
theorem A0{ds rs:List AV}(hs:j2 ds rs)(hc:(jy ds rs).2=0){r:AV}(hr:r∈rs):(bB ds (cG r)).steps.length=(bI (aH (cG r))).length/\(bB ds (cG r)).steps.length<=100000/\
  ∀i,i<(bB ds (cG r)).steps.length->∃bd,(bI (aH (cG r))).getD i 0<(cG r).bl.length/\nth (bB ds (cG r)).steps i=Q2 (jt ds bd (nth (cG r).bl ((bI (aH (cG r))).getD i 0))):=by
 have hw:=mX (pN hs hc hr).f;have hbl:=(hs.2.2 r hr).2;have h1:(bB ds (cG r)).steps.length=(bI (aH (cG r))).length:=by rw[bB,ry]
 refine⟨h1,by rw[h1,hw];exact hbl,fun i hi=>?_⟩;rw[h1] at hi;have hgd:(bI (aH (cG r))).getD i 0=(bI (aH (cG r)))[i]:=by simp[List.getD_eq_getElem?_getD,hi]
 refine⟨strs (j6 (aH (cG r)) i),?_,?_⟩
 ·rw[hgd]
  have:=pF (List.getElem_mem hi)
  rwa [fK] at this
 ·rw[aJ _ _ (by rw[h1];exact hi)]
  simp[bB,ju]
theorem Ui(ds bd:List AV)(l:AV):(toInt (af (Q2 (jt ds bd l)) 0)==1)=(toInt (af l 0)==1):=by
 show((jt ds bd l).op==1)=_
 unfold jt ud;generalize toInt (af l 0)=op
 by_cases e2:op=2
 ·subst e2;rfl
 by_cases e1:op=1
 ·subst e1;rfl
 rw[show(op==2)=false by simpa using e2,show(op==1)=false by simpa using e1,an7,an7];cases op==3 with
 |true=>cases qP bd (dM (af l 2)) with
  |true=>rfl
  |false=>cases qP bd (dM (af l 3))<;>rfl
 |false=>cases op==4||(op==5||op==6) with
  |true=>rfl
  |false=>cases qP bd (dM (af l 2))<;>rfl
theorem Mp: ∀w:List Nat,(List.range w.length).map (fun i=>w.getD i 0)=w:=fun w=>by
 refine List.ext_getElem (by simp) fun i h1 h2=>?_
 simp[List.getD_eq_getElem?_getD,h2]
theorem QF{ds rs:List AV}(hs:j2 ds rs)(hc:(jy ds rs).2=0){r:AV}(hr:r∈rs)(h3:RM r=true){q:QD}(hq:q.steps=(bB ds (cG r)).steps):mC q (List.range q.steps.length)<=3:=by
 obtain⟨h1,_,h2⟩:=A0 hs hc hr;refine Nat.le_trans ?_ (of_decide_eq_true h3);unfold mC;rw[hq];have e:(List.range (bB ds (cG r)).steps.length).filter (fun i=>toInt (af (nth (bB ds (cG r)).steps i) 0)==1)=(List.range (bB ds (cG r)).steps.length).filter (fun i=>(fun k=>toInt (af (nth (cG r).bl k) 0)==1) ((bI (aH (cG r))).getD i 0)):=by
  refine List.filter_congr fun i hi=>?_
  obtain⟨bd,_,h4⟩:=h2 i (List.mem_range.1 hi);rw[h4,Ui]
 rw[e,h1];have h5:=List.filter_map (f:=fun i=>(bI (aH (cG r))).getD i 0) (p:=fun k=>toInt (af (nth (cG r).bl k) 0)==1) (l:=List.range (bI (aH (cG r))).length);rw[Mp] at h5;have h6:=congrArg List.length h5;rw[List.length_map] at h6;have h7:=Fm (p:=fun k=>toInt (af (nth (cG r).bl k) 0)==1) (cG r).bl.length (D4 (aH (cG r))) fun x hx=>by
  have:=pF hx
  rwa [fK] at this
 rw[sC (fun t=>toInt (af t 0)==1) (cG r).bl] at h7;exact Nat.le_trans (Nat.le_of_eq h6.symm) h7
structure Le(x:jB):Prop where
 s:j2 x.ds x.rs
 c:(jy x.ds x.rs).2=0
 r:x.r∈x.rs
 i:Wk x.ds x.ins
 d: ∀v,v∈x.del->0<=x.d->v∈aa (nth x.ins x.to.toNat)
 x:eE x.del=true
theorem Hw{x:jB}(h:Le x)(i:Nat): ∀v,v∈eS x.q x.ins x.del i->v∈aa (nth x.ins (toInt (af (nth x.q.steps i) 2)).toNat):=by
 intro v hv;unfold eS at hv;cases e:(i:Int)==x.q.delta with
 |false=>rw[e] at hv;exact hv
 |true=>
  rw[e] at hv;have e:(i:Int)=x.d:=beq_iff_eq.1 e;have:=h.d v hv (by omega)
  unfold jB.to at this;rw[←e] at this;exact this
theorem WN{x:jB}(h:Le x):PB x.q x.ins x.del:=by
 obtain⟨h1,h2,h3⟩:=A0 h.s h.c h.r;have hR:=(pN h.s h.c h.r).r;simp only[ba,an3,List.all_eq_true] at hR;have hA:=rk hR.1.1.1;have ho: ∀t,t∈cr (ae (cG x.r).hl)->∃u,u∈ae (cG x.r).hl/\t=Aw u:=fun t ht=>by
  revert ht
  generalize ae (cG x.r).hl=l
  intro ht;induction l with
  |nil=>cases ht
  | cons u l ih=>
   rw[cr] at ht;rcases List.mem_cons.1 ht with rfl|ht
   ·exact⟨u,by simp,rfl⟩
   ·obtain⟨w,h4,h5⟩:=ih ht
    exact⟨w,by simp[h4],h5⟩
 refine⟨h2,?_,fun t ht=>?_,fun i hi=>?_⟩
 ·show(cr (ae (cG x.r).hl)).length<=_
  rw[pO];have:=hA.1
  have e:(aH (cG x.r)).head.l=ae (cG x.r).hl:=rfl;rw[e] at this;omega
 ·obtain⟨u,h4,rfl⟩:=ho t ht
  rw[eY,B2];have h5:=hR.1.2 u h4;simp only[tp,an3,Bool.not_eq_true',an4] at h5;exact hA.2 u h4 h5.1.1
 ·obtain⟨bd,h4,h5⟩:=h3 i hi
  have hl:nth (cG x.r).bl ((bI (aH (cG x.r))).getD i 0)∈aa (af x.r 1):=by
   rw[aJ _ _ h4];exact List.getElem_mem _
  have hF:=Oy h.s h.c h.r hl bd;have hrow:=Hw h i;generalize jt x.ds bd (nth (cG x.r).bl ((bI (aH (cG x.r))).getD i 0))=d at h5 hF
  have h5:nth x.q.steps i=Q2 d:=h5;refine⟨fun ha L e=>?_,fun ho=>?_,fun ho=>?_,fun o1 o2 o4 o3=>?_⟩
  ·rw[h5] at ha
   obtain⟨k1,k2⟩:=hF.a ha;have f2:toInt (af (nth x.q.steps i) 2)=d.rl:=by rw[h5];rfl
   have f3:aa (af (nth x.q.steps i) 3)=iA d.q.dU:=by rw[h5];rfl
   have f4:aa (af (nth x.q.steps i) 4)=d.q.cn:=by rw[h5];rfl
   have f5:aa (af (nth x.q.steps i) 5)=iA d.q.cx:=by rw[h5];rfl
   have f6:aa (af (nth x.q.steps i) 6)=strs d.q.binds:=by rw[h5];rfl
   have f7:aa (af (nth x.q.steps i) 7)=iA d.q.cy:=by rw[h5];rfl
   have f8:aa (af (nth x.q.steps i) 8)=strs d.q.eqs:=by rw[h5];rfl
   obtain⟨v1,v2,v3⟩:=k1.ev;have hl2:=k1.l2;have hall:d.q.all.length=d.q.dU.length+d.q.cx.length+d.q.cy.length:=by simp[SS.all,Nat.add_assoc]
   have hlen:=h.i.l;have r0:=k1.r0;have r1:=k1.r1;rw[f2] at hrow;have wid: ∀v,v∈eS x.q x.ins x.del i->(aa v).length=(aa (af (nth x.ds d.rl.toNat) 2)).length:=fun v hv=>h.i.w _ v (hrow v hv)
   have dU: ∀(cs:List Int),(∀c,c∈cs->c∈d.q.all)->∀v,v∈eS x.q x.ins x.del i->∀c,c∈iA cs->0<=toInt c/\toInt c<(aa v).length:=fun cs hcs v hv c hc=>by
    obtain⟨y,hy,rfl⟩:=List.mem_map.1 hc;have:=k1.lt y (hcs y hy)
    rw[wid v hv];exact this
   refine⟨hi,?_,?_,?_,?_,?_,fun v hv=>⟨?_,?_,?_⟩,fun v hv=>⟨?_,?_,?_⟩⟩
   ·show 0<=toInt (af (nth x.q.steps i) 2)/\toInt (af (nth x.q.steps i) 2)<x.ins.length
    rw[f2];omega
   ·show eE (eS x.q x.ins x.del i)=true
    unfold eS;cases(i:Int)==x.q.delta with
    |true=>exact h.x
    |false=>exact h.i.x _
   ·show(aa (af (nth x.q.steps i) 3)).length<=_
    rw[f3,jf];omega
   ·show(aa (af (nth x.q.steps i) 4)).length<=_
    rw[f4];omega
   ·show∀t,t∈aa (af (nth x.q.steps i) 4)->_
    rw[f4];exact k2
   ·show(aa (af (nth x.q.steps i) 6)).length<=(aa (af (nth x.q.steps i) 5)).length
    rw[f5,f6,jf,aR];omega
   ·show(aa (af (nth x.q.steps i) 6)).length<=_
    rw[f6,aR];omega
   ·show∀c,c∈aa (af (nth x.q.steps i) 5)->_
    rw[f5];exact dU _ (fun c hc=>by simp[SS.all,hc]) v hv
   ·show(aa (af (nth x.q.steps i) 8)).length<=(aa (af (nth x.q.steps i) 7)).length
    rw[f7,f8,jf,aR];omega
   ·show(aa (af (nth x.q.steps i) 8)).length<=_
    rw[f8,aR];omega
   ·show∀c,c∈aa (af (nth x.q.steps i) 7)->_
    rw[f7];exact dU _ (fun c hc=>by simp[SS.all,hc]) v hv
  ·rw[h5] at ho⊢
   exact hF.x ho
  ·rw[h5] at ho⊢
   exact hF.y ho
  ·rw[h5] at o1 o2 o4 o3⊢
   exact hF.z o1 o2 o4 o3
theorem Ut{ds rs:List AV}(hs:j2 ds rs)(hc:(jy ds rs).2=0){r:AV}(hr:r∈rs):(bB ds (cG r)).out.length<=8:=by
 have hR:=(pN hs hc hr).r;simp only[ba,an3,List.all_eq_true] at hR;have:=(rk hR.1.1.1).1
 show(cr (ae (cG r).hl)).length<=_
 rw[pO];exact this
theorem XA{x:jB}(h:Le x):Xz x.q x.ins x.del:=fun i r hr=>by
 obtain⟨v,hv,rfl⟩:=List.mem_map.1 hr;exact h.i.v _ _ (List.mem_map_of_mem (Hw h i v hv))
theorem vz{x:jB}(h:Le x):iL x.res:=GY (XA h) _ fun _ hx=>nomatch hx
theorem QC{x:jB}(h:Le x)(h3:RM x.r=true)(hn: ∀i,(eS x.q x.ins x.del i).length<=20):x.res.length<=8000/\kq x.res:=by
 have h1:=AH hn (by omega) (List.range x.q.steps.length) [];have h2:mC x.q (List.range x.q.steps.length)<=3:=QF h.s h.c h.r h3 rfl;have h4:x.res.length<=8000:=Nat.le_trans h1 (Nat.le_trans (Nat.pow_le_pow_right (by omega) h2) (by decide));have ho:=Ut h.s h.c h.r;refine⟨h4,⟨by omega,fun r hr=>?_,vz h⟩⟩;have h5:r.length=x.q.out.length:=GZ (q:=x.q) _ hr;have h5:r.length=(bB x.ds (cG x.r)).out.length:=h5;omega
theorem Kj{ds rs:List AV}{r:AV}{ins A B:List AV}{j:Nat}(h:Le ⟨ds,rs,r, -1,ins,[]⟩)(hA:Le ⟨ds,rs,r,j,ins,A⟩)(hB:Le ⟨ds,rs,r,j,ins,B⟩)(hj:j<(bB ds (cG r)).steps.length)(h1:toInt (af (nth (bB ds (cG r)).steps j) 0)=1)
  (hab:aa (nth ins (toInt (af (nth (bB ds (cG r)).steps j) 2)).toNat)=A++B):lE (ie (jB.mk ds rs r j ins A).res) (ie (jB.mk ds rs r j ins B).res)=ie (jB.mk ds rs r (-1) ins []).res:=by
 have sA:=nQ (vz hA);have sB:=nQ (vz hB);have e:(jB.mk ds rs r (-1) ins []).res=kX (jB.mk ds rs r j ins A).q ins (A++B) (List.range (bB ds (cG r)).steps.length) []:=by
  refine wE (q:=(jB.mk ds rs r (-1) ins []).q) (q':=(jB.mk ds rs r j ins A).q) rfl rfl _ _ fun i hi=>?_
  unfold eS;show(bif (i:Int)== -1 then[] else aa (nth ins (toInt (af (nth (bB ds (cG r)).steps i) 2)).toNat))=bif (i:Int)==(j:Int) then A++B else aa (nth ins (toInt (af (nth (bB ds (cG r)).steps i) 2)).toNat)
  rw[show((i:Int)== -1)=false by simp,an7];cases c:(i:Int)==(j:Int) with
  |false=>rfl
  |true=>
   have c:(i:Int)=j:=by simpa using c
   have c:i=j:=by omega
   subst c;rw[hab];rfl
 refine x5 (vz h) (mV sA.2.2 sB.2.2 sA.1 sB.1) fun x=>?_
 rw[jv sA.2.2 sB.2.2,sA.2.1,sB.2.1,e];exact((y3 (q:=(jB.mk ds rs r j ins A).q) (ins:=ins) (A:=A) (B:=B) (j:=j) rfl h1 (List.range (bB ds (cG r)).steps.length) [] x List.nodup_range).resolve_right fun c=>c (List.mem_range.2 hj)).symm
theorem tQ: ∀{L M:RL},M.Sublist L->dr L=true->dr M=true
 |_,_, .slnil,h=>h
 |_,_, .cons _ hs,h=>tQ hs (dx.1 h).2
 |_,_, .cons_cons _ hs,h=>dx.2 ⟨fun b hb=>(dx.1 h).1 b (hs.subset hb),tQ hs (dx.1 h).2⟩
theorem LP{xs ys:List AV}(hs:ys.Sublist xs)(h:eE xs=true):eE ys=true:=by
 simp only[eE,an3,an2,List.all_eq_true] at h⊢;exact⟨Nat.le_trans hs.length_le h.1,fun x hx=>h.2 x (hs.subset hx)⟩
theorem I9{ds rs ins ys:List AV}{i:Nat}(h:iv ds rs ins=true)(hi:i<ins.length)(hs:ys.Sublist (aa (nth ins i))):iv [PU (nth ds i)] [] [.ad 70 ys]=true:=by
 simp only[iv,an3,an2] at h;obtain⟨h1,h2,h3⟩:=h;have h4:=wo h3 i hi;simp only[fR,an3,an2,List.all_eq_true] at h1;have hd:EK (nth ds i)=true:=h1.1.2 _ (by rw[aJ _ i (by omega)];exact List.getElem_mem _);have hd:EK (PU (nth ds i))=true:=hd;simp only[uA,an3,Sz,List.all_eq_true] at h4;have hr:dr (dS ys)=true:=tQ (hs.map aa) h4.2;have ht:Sz ys (aa (af (nth ds i) 2))=true:=List.all_eq_true.2 fun x hx=>h4.1 x (hs.subset hx)
 simp only[iv,fR,ao8,List.all_nil,hd,Bool.and_true,an3,an2,uB,uA];exact⟨⟨by simp,by simp⟩,rfl,ht,hr⟩
end Go.Proofs.YtioeffnadipbaaaGreatDoor
