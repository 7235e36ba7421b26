import Derived.Test.YthaiinlfnommnaaGreatDoorDbMA
import Derived.Test.YthaiinlfnommnaaGreatDoorDoJ
namespace Go.Proofs.YthaiinlfnommnaaGreatDoor
open Go Go.Dn Go.Rl Go.Proofs
mutual
def Nd:Tm->AV
 | .mk op s n l=> .agg [.int op, .lit (.string s), .int n, .ad 56 (cR l)]
def cR:List Tm->List AV
 |[]=>[]
 |t::l=>Nd t::cR l
end
theorem xF: ∀l:List Tm,(cR l).length=l.length
 |[]=>rfl
 |_::l=>by simp[cR,xF l]
theorem xn: ∀a b:List Tm,cR (a++b)=cR a++cR b
 |[],_=>rfl
 |_::a,b=>by simp[cR,xn a b]
abbrev Qa(t:AT):AV:= .agg [.int t.op, .lit (.string t.s), .int t.n, .ad 56 (cR (aa t.l))]
structure SS where
 eI:List Int
 df:List AV
 cW:List Int
 binds:List ByteArray
 cX:List Int
 eqs:List ByteArray
def lB(s:ByteArray)(l:List AV):Bool:=decide (dQ s l 0>=0)
def Gy(bd:List AV)(t:AT):Bool:=(t.op==1)&& !lB t.s bd
def AP(bd:List AV)(s:SS)(e:Int×AT):SS:=
 bif !Gy bd e.2 then{s with eI:=s.eI++[e.1],df:=s.df++[Qa e.2]}
 else bif lB e.2.s (strs s.binds) then{s with cX:=s.cX++[e.1],eqs:=s.eqs++[e.2.s]}
 else{s with cW:=s.cW++[e.1],binds:=s.binds++[e.2.s]}
def PM:SS:=⟨[],[],[],[],[],[]⟩
def eR:List AV->Int->List (Int×AT)
 |[],_=>[]
 |t::l,i=>bif decide (toInt (ae t 0)=4) then eR l (i+1) else(i,wv t)::eR l (i+1)
def A4(l:List (Int×AT)):List AV:=l.map fun e=> .ba [.int e.1,cv e.2]
def iD(bd:List AV)(l:List (Int×AT)):SS:=l.foldl (AP bd) PM
theorem BF: ∀(l:List AV) (i:Int),(eR l i).length<=l.length
 |[],_=>Nat.le_refl _
 |t::l,i=>by
  have:=BF l (i+1)
  rw[eR]
  cases decide (toInt (ae t 0)=4) with
  |true=>rw[aa8];simp only[List.length_cons];omega
  |false=>rw[aa6];simp only[List.length_cons];omega
def SS.le(s:SS)(n:Nat):Prop:=s.eI.length<=n/\s.df.length<=n/\s.cW.length<=n/\s.binds.length<=n/\s.cX.length<=n/\s.eqs.length<=n
theorem Qh:PM.le 0:=⟨Nat.le_refl _,Nat.le_refl _,Nat.le_refl _,Nat.le_refl _,Nat.le_refl _,Nat.le_refl _⟩
theorem M9{bd:List AV}{s:SS}{n:Nat}(h:s.le n)(e:Int×AT):(AP bd s e).le (n+1):=by
 obtain⟨h1,h2,h3,h4,h5,h6⟩:=h
 unfold AP SS.le
 cases !Gy bd e.2 with
 |true=>simp only[aa8,ab9,List.length_singleton];omega
 |false=>
  cases lB e.2.s (strs s.binds) with
  |true=>simp only[aa8,aa6,ab9,List.length_singleton];omega
  |false=>simp only[aa6,ab9,List.length_singleton];omega
theorem Oq{bd:List AV}: ∀(l:List (Int×AT)) {s:SS} {n:Nat},s.le n->(l.foldl (AP bd) s).le (n+l.length)
 |[],_,_,h=>h
 |e::l,s,n,h=>by
  have:=Oq (bd:=bd) l (M9 (bd:=bd) h e)
  rw[List.foldl_cons,List.length_cons]
  rw[show n+(l.length+1)=n+1+l.length by omega];exact this
abbrev Ux(op sX rl:Int)(s:SS)(t:ByteArray)(X Y:AV):AV:= .agg [.int op, .int sX, .int rl, .ad 3 (iA s.eI), .ad 56 s.df, .ad 3 (iA s.cW), .ad 9 (strs s.binds), .ad 3 (iA s.cX), .ad 9 (strs s.eqs), .lit (.string t),X,Y]
def zT:AT:=⟨0,ByteArray.mk #[],0,[]⟩
def xD(t:AT):AT:=⟨t.op,t.s,t.n,cR (aa t.l)⟩
structure SD where
 op:Int
 sX:Int
 rl:Int
 q:SS
 t:ByteArray
 X:AT
 Y:AT
abbrev Uc(d:SD):AV:=Ux d.op d.sX d.rl d.q d.t (cv d.X) (cv d.Y)
def wo(ds bd:List AV)(rel:ByteArray)(l:List AV)(op:Int)(u v:AT):SD:=
 bif op==2 then⟨2,0,bt rel ds,iD bd (eR l 0),ByteArray.mk #[],zT,zT⟩
 else bif op==1 then⟨1,0,bt rel ds,iD bd (eR l 0),ByteArray.mk #[],zT,zT⟩
 else bif op==3 then(bif Gy bd u then⟨4,0,0,PM,u.s,xD v,zT⟩ else bif Gy bd v then⟨4,0,0,PM,v.s,xD u,zT⟩ else⟨3,op,0,PM,ByteArray.mk #[],xD u,xD v⟩)
 else bif op==4||(op==5||op==6) then⟨3,op,0,PM,ByteArray.mk #[],xD u,xD v⟩
 else bif Gy bd u then⟨5,op,bt rel ds,iD bd (eR l 0),u.s,zT,v⟩
 else⟨5,op,bt rel ds,iD bd (eR l 0),ByteArray.mk #[],u,v⟩
def KP(ds bd:List AV)(l:AV):SD:=wo ds bd (toStr (ae (ae l 1) 0)) (ai (ae (ae l 1) 1)) (toInt (ae l 0)) (wv (ae l 2)) (wv (ae l 3))
structure QD where
 rel:Int
 steps:List AV
 out:List AV
 delta:Int
abbrev qA(q:QD):AV:= .agg [.int q.rel, .ad 58 q.steps, .ad 56 q.out, .int q.delta]
def Ap(q:QD)(g:List Int):List AV->Int->List QD
 |[],_=>[]
 |s::l,i=>bif decide (toInt (ae s 0)=1)&&g.contains (toInt (ae s 2)) then{q with delta:=i}::Ap q g l (i+1) else Ap q g l (i+1)
def Ly(mk:AV->QD)(hd:AV->Int)(ag:AV->Bool)(g:List Int):List AV->List QD
 |[]=>[]
 |r::rs=>bif g.contains (hd r)&& !ag r then mk r::Ly mk hd ag g rs else Ly mk hd ag g rs
def MQ(mk:AV->QD)(hd:AV->Int)(ag:AV->Bool)(g:List Int):List AV->List QD
 |[]=>[]
 |r::rs=>(bif g.contains (hd r)&&ag r then Ap (mk r) g (mk r).steps 0 else[])++MQ mk hd ag g rs
end Go.Proofs.YthaiinlfnommnaaGreatDoor
namespace Go.Proofs.YthaiinlfnommnaaGreatDoor
open Go Go.Dn Go.Rl Go.Proofs
attribute [local irreducible] a9 vc
set_option maxRecDepth 20000
noncomputable def BH(κ:Kp):EB:=EB.calm ⟨VS κ,eHg κ,Yz κ⟩ [37,888888]
theorem yRc(κ:Kp)(ds rs:List AV)(k:Int)(K:AV->List Dn.Obj->Prop):(a9 (BH κ).E 12 18 [gC ds rs, .int k] [] K)=(
 letI z1:=nth rs k.toNat
 letI z2:=decide ((0:Int)<=k)&&decide (k<(↑(rs.length):Int))
 letI z3:=toStr (ae (ae z1 0) 0)
 letI z4:=ai (ae (ae z1 0) 1)
 letI z5:=toInt (ae z1 2)
 letI z6:=ai (ae z1 1)
 ∃(e3:Us),([AV.agg [AV.ad 61 ds,AV.ad 66 rs],AV.int k,AV.int k,AV.int (↑(rs.length):Int)],[])=PC e3/\D8 e3/\aD (wq e3.ds e3.rs e3.a e3.b e3.n !=
 (0:Int)) (K (AV.ba [AV.bool false,AV.int (wq e3.ds e3.rs e3.a e3.b e3.n)]) []) ((∃(e2:qB),([AV.agg [AV.ad 61 ds,AV.ad 66 rs]],[])=MY e2/\sK e2.1
 e2.2/\aD (Nat.beq e2.1.length 0) (a7 z2 (∃(e1:z7),([AV.ptr 0 0 [] 0,AV.agg [AV.ad 61 ds,AV.ad 66 rs],AV.agg [AV.agg [AV.str z3,AV.ad 56 z4],AV.ad 72
 z6,AV.int z5],AV.bI 44 []],[Obj.box 122 (AV.agg [AV.ar 1 0 e2.1.length,AV.nil]),Obj.rows 38 3 (dt (pr e2.1 e2.2)) none])=wZ e1/\(e1.h=bt e1.a.rel
 e1.ds/\((0:Int)<=e1.h/\e1.h<(↑(e1.n):Int))/\e1.ds.length<=9223372036854775807/\List.length e1.a.bl<=9223372036854775807/\∀(e0:AV),List.Mem e0
 e1.a.bl->fF (toInt (ae e0 0))=true->(0:Int)<=bt (toStr (ae (ae e0 1) 0)) e1.ds/\bt (toStr (ae (ae e0 1) 0)) e1.ds<(↑(e1.n):Int))/\K (AV.ba [AV.bool
 (iy fF e1.n e1.m e1.L e1.ds e1.h e1.a.bl),AV.int 0]) [])) (a7 z2 (∃(e1:z7),([AV.ptr 0 0 [] 0,AV.agg [AV.ad 61 ds,AV.ad 66 rs],AV.agg [AV.agg [AV.str z3,
 AV.ad 56 z4],AV.ad 72 z6,AV.int z5],AV.bI 44 []],[Obj.box 122 (AV.agg [AV.ar 1 0 e2.1.length,AV.ar 2 0 (List.length (bn e2.1.length (jE e2.1 e2.2) (pr e2.1
 e2.2) e2.1.length))]),Obj.rows 38 3 (dt (pr e2.1 e2.2)) none,Obj.row 89 (bn e2.1.length (jE e2.1 e2.2) (pr e2.1 e2.2) e2.1.length)])=wZ e1/\(e1.h=bt
 e1.a.rel e1.ds/\((0:Int)<=e1.h/\e1.h<(↑(e1.n):Int))/\e1.ds.length<=9223372036854775807/\List.length e1.a.bl<=9223372036854775807/\∀(e0:AV),
 List.Mem e0 e1.a.bl->fF (toInt (ae e0 0))=true->(0:Int)<=bt (toStr (ae (ae e0 1) 0)) e1.ds/\bt (toStr (ae (ae e0 1) 0)) e1.ds<(↑(e1.n):Int))/\K
 (AV.ba [AV.bool (iy fF e1.n e1.m e1.L e1.ds e1.h e1.a.bl),AV.int 0]) [])))/\a7 z2 (∃(e2:qB),([AV.agg [AV.ad 61 ds,AV.ad 66 rs]],[])=MY e2/\sK e2.1
 e2.2/\aD (Nat.beq e2.1.length 0) (∃(e1:z7),([AV.ptr 0 0 [] 0,AV.agg [AV.ad 61 ds,AV.ad 66 rs],AV.agg [AV.agg [AV.str z3,AV.ad 56 z4],AV.ad 72 z6,
 AV.int z5],AV.bI 44 []],[Obj.box 122 (AV.agg [AV.ar 1 0 e2.1.length,AV.nil]),Obj.rows 38 3 (dt (pr e2.1 e2.2)) none])=wZ e1/\(e1.h=bt e1.a.rel e1.ds/\
 ((0:Int)<=e1.h/\e1.h<(↑(e1.n):Int))/\e1.ds.length<=9223372036854775807/\List.length e1.a.bl<=9223372036854775807/\∀(e0:AV),List.Mem e0 e1.a.bl
 ->fF (toInt (ae e0 0))=true->(0:Int)<=bt (toStr (ae (ae e0 1) 0)) e1.ds/\bt (toStr (ae (ae e0 1) 0)) e1.ds<(↑(e1.n):Int))/\K (AV.ba [AV.bool (iy fF
 e1.n e1.m e1.L e1.ds e1.h e1.a.bl),AV.int 0]) []) (∃(e1:z7),([AV.ptr 0 0 [] 0,AV.agg [AV.ad 61 ds,AV.ad 66 rs],AV.agg [AV.agg [AV.str z3,AV.ad 56 z4],
 AV.ad 72 z6,AV.int z5],AV.bI 44 []],[Obj.box 122 (AV.agg [AV.ar 1 0 e2.1.length,AV.ar 2 0 (List.length (bn e2.1.length (jE e2.1 e2.2) (pr e2.1 e2.2)
 e2.1.length))]),Obj.rows 38 3 (dt (pr e2.1 e2.2)) none,Obj.row 89 (bn e2.1.length (jE e2.1 e2.2) (pr e2.1 e2.2) e2.1.length)])=wZ e1/\(e1.h=bt e1.a.rel
 e1.ds/\((0:Int)<=e1.h/\e1.h<(↑(e1.n):Int))/\e1.ds.length<=9223372036854775807/\List.length e1.a.bl<=9223372036854775807/\∀(e0:AV),List.Mem e0
 e1.a.bl->fF (toInt (ae e0 0))=true->(0:Int)<=bt (toStr (ae (ae e0 1) 0)) e1.ds/\bt (toStr (ae (ae e0 1) 0)) e1.ds<(↑(e1.n):Int))/\K (AV.ba [AV.bool
 (iy fF e1.n e1.m e1.L e1.ds e1.h e1.a.bl),AV.int 0]) [])))):=by kernel_rfl
def QO(ds rs:List AV)(k:Int):Bool:=decide (wq ds rs k k rs.length=0)&&FV fF ds.length (jE ds rs) (pr ds rs) ds (nth rs k.toNat)
structure Ue where
 ds:List AV
 rs:List AV
 k:Int
def Sl(x:Ue):List AV×List Dn.Obj:=([gC x.ds x.rs, .int x.k],[])
def JM(x:Ue):Prop:=fX x.ds x.rs
def Og(x:Ue):Out (AV×List Dn.Obj):= .one (.ba [.bool (QO x.ds x.rs x.k), .int (wq x.ds x.rs x.k x.k x.rs.length)],[])
theorem cRc(κ:Kp):bq (BH κ).E 12 18 (aM Sl JM Og):=by
 refine aZ ?_
 rintro⟨ds,rs,k⟩ K hs ho
 refine Eq.mpr (yRc κ ds rs k K) ?_
 simp only[Og,Out.run,QO] at ho
 refine⟨⟨ds,rs,k,k,rs.length⟩,rfl,hs,?_⟩
 rw[ah]
 refine⟨fun e=>?_,fun e=>?_⟩
 ·have e:wq ds rs k k rs.length≠0:=by simpa using e
  rw[aa5 e,Bool.false_and] at ho
  exact ho
 ·have e:wq ds rs k k rs.length=0:=by simpa using e
  obtain⟨hc,ha,_⟩:=NJ e
  rw[e] at ho
  have hf:=kr hc
  have hk:k.toNat<rs.length:=by omega
  have hx:nth rs k.toNat∈rs:=by rw[bg _ _ hk];exact List.getElem_mem _
  have hG:=AI hs hc _ hx
  have hn:Nat.beq ds.length 0=false:=by
   have h1:0<=BK ds (nth rs k.toNat)/\BK ds (nth rs k.toNat)<ds.length:=hG.hd
   rw[Bool.eq_false_iff]
   exact fun h=>by have:=Nat.eq_of_beq_eq_true h;omega
  have hi:(decide (0<=k)&&decide (k<(rs.length:Int)))=true:=by simp[ha]
  have hd:ds.length<=aR:=hs.1
  refine⟨⟨(ds,rs),rfl,hf,?_⟩,an.2 ⟨hi,(ds,rs),rfl,hf,?_⟩⟩<;>rw[ah]
  ·exact⟨fun e=>absurd (hn.symm.trans e) (by decide),fun _=>an.2 ⟨hi,⟨ds.length,jE ds rs,pr ds rs,ds,rs,eE (nth rs k.toNat),BK ds (nth rs k.toNat)⟩,rfl,⟨rfl,hG.hd,hd,hG.le,fun l hl h=>hG.at_ l hl (ur h)⟩,ho⟩⟩
  ·exact⟨fun e=>absurd (hn.symm.trans e) (by decide),fun _=>⟨⟨ds.length,jE ds rs,pr ds rs,ds,rs,eE (nth rs k.toNat),BK ds (nth rs k.toNat)⟩,rfl,⟨rfl,hG.hd,hd,hG.le,fun l hl h=>hG.at_ l hl (ur h)⟩,ho⟩⟩
noncomputable def QJ(κ:Kp):EB:=(BH κ).call (cRc κ)
def HD(l:List AV):List AV×List Dn.Obj:=([.ad 56 l],[])
def K3(n:Nat)(l:List AV):Prop:=aX (aa l)=n/\n<=100000
def Fg(l:List AV):Out (AV×List Dn.Obj):= .one (.ad 56 (cR (aa l)),[])
def L2(n:Nat):dj:=aM HD (K3 n) Fg
noncomputable def LJ(κ:Kp)(r:Nat):Env:=(QJ κ).E.ay 76 fun args st K=>∃m,m<r/\L2 m args st K
theorem Y7(κ:Kp)(r:Nat)(l:List AV)(i:Int)(xs:List AV)(k:Nat)(I:Nat->S->Prop)(n:Nat)(K:Exit->S->Prop):(vc (LJ κ r) 12 76 none 0 (af (Pr κ).toProgram 76 3) (sp 19 [(3, .ar 0 0 k),(6, .ad 56 l),(7, .int l.length),(8, .int i)] [.row 56 xs]) (bH (LJ κ r) 76 3 0 I n K))=(
 letI z1:=nth l i.toNat
 letI z2:=i<(↑(l.length):Int)
 aD (decide z2) (a7 (decide ((0:Int)<=i)&&decide z2) (∃(e2:Nat),e2<r/\∃(e1:List AV),([AV.ad 56 (ai (ae z1 3))],[])=HD e1/\K3 e2 e1/\a7
 (decide ((k+1+1)*57<=70368744177664)) (∃(e0:Nat),e0<n/\I e0 (sp 19 [(3,AV.ar 0 0 (k+1)),(6,AV.ad 56 l),(7,AV.int (↑(l.length):Int)),(8,
 AV.int (IntKind.wrap IntKind.i64 (i+(1:Int))))] [Obj.row 56 (List.take k xs++[AV.agg [AV.int (toInt (ae z1 0)),AV.str (toStr (ae z1 1)),AV.int (toInt
 (ae z1 2)),AV.ad 56 (cR (aa e1))]])])))) (K (Exit.exit 0) (sp 19 [(3,AV.ar 0 0 k)] [Obj.row 56 xs]))):=by kernel_rfl
theorem Pv(x:AV):Nd (cM x)= .agg [.int (toInt (ae x 0)), .lit (.string (toStr (ae x 1))), .int (toInt (ae x 2)), .ad 56 (cR (aa (ai (ae x 3))))]:=by
 rw[da,Nd]
theorem KH(l:List AV)(i:Nat)(h:i<l.length):cR (aa (l.take (i+1)))=cR (aa (l.take i))++[Nd (cM (nth l i))]:=by
 rw[List.take_add_one,ab7 h,←bg l i h]
 simp[aa,xn,cR]
theorem Mx(l:List AV):(cR (aa l)).length=l.length:=by rw[xF,eC]
abbrev FU(a:List AV×Nat):S:=sp 19 [(3, .ar 0 0 (cR (aa (a.1.take a.2))).length),(6, .ad 56 a.1),(7, .int a.1.length),(8, .int a.2)] [.row 56 (cR (aa (a.1.take a.2)))]
def yH(r:Nat)(a:List AV×Nat):Prop:=a.2<=a.1.length/\a.1.length<=100000/\aX (aa (a.1.drop a.2))<=r/\r<=100000
def Jd(a:List AV×Nat):Out (Exit×S):= .one (.exit 0,sp 19 [(3, .ar 0 0 (cR (aa a.1)).length)] [.row 56 (cR (aa a.1))])
theorem lCp(κ:Kp)(r:Nat):bh (LJ κ r) 12 76 3 (aP 0 FU (yH r) Jd):=by
 refine aL (fun a=>a.1.length - a.2) ?_
 rintro⟨l,i⟩ K ⟨h1,h2,h3,h4⟩ ho
 simp only at h1 h2 h3
 rw[show(LJ κ r).P=Pr κ from rfl]
 refine Eq.mpr (Y7 κ r l i (cR (aa (l.take i))) (cR (aa (l.take i))).length _ _ K) ?_
 rw[ah,aa1,aa3]
 refine⟨fun h=>an.2 ⟨by simp;omega,?_⟩,fun h=>?_⟩
 ·have hk:i<l.length:=by omega
  have hc:=EX l i hk
  have he:=KH l i hk
  rw[Int.toNat_natCast]
  refine⟨_,?_,ai (ae (nth l i) 3),rfl,⟨rfl,by omega⟩,an.2 ⟨?_,_,?_,(l,i+1),?_,⟨hk,h2,by simp only;omega,h4⟩,rfl,ho⟩⟩
  ·simp only[Nat.lt_iff_add_one_le];omega
  ·rw[aa1,Mx,List.length_take];omega
  ·simp only;omega
  ·simp only[FU]
   rw[he,←Pv,List.take_length,aW (n:=(i:Int)+1) (by omega) (by omega),ab9]
   rfl
 ·obtain rfl:i=l.length:=by omega
  rw[List.take_length];exact ho
noncomputable def QF(κ:Kp)(r:Nat):Env:=(LJ κ r).ak 76 3 (aP 0 FU (yH r) Jd)
theorem YW(κ:Kp)(r:Nat)(l:List AV)(K:AV->List Dn.Obj->Prop):(a9 (QF κ r) 12 76 [.ad 56 l] [] K)=(
 letI z1:=Pg.toProgram (Env.P (LJ κ r))
 af z1 76 3=af z1 76 3/\∃(e0:List AV×Nat),sp 19 [(3,AV.ar 0 0 0),(6,AV.ad 56 l),(7,AV.int (↑(l.length):Int)),(8,AV.int 0)] [Obj.row 56 []]=FU
 e0/\yH r e0/\K (AV.ad 56 (List.take (List.length (cR (aa e0.1))) (List.drop 0 (cR (aa e0.1))))) []):=by kernel_rfl
theorem eCq(κ:Kp)(r:Nat)(hp: ∀args st K,(∃m,m<r/\L2 m args st K)->dp (Pr κ) 76 args st K):aB (QF κ r)/\aj (QF κ r)/\(QF κ r).P=Pr κ:=
 have h:aB (LJ κ r):=(QJ κ).ok.iz hp
 have hm:aj (LJ κ r):=(QJ κ).mono.ay (fun _ _ _ _ hK ⟨m,h1,h2⟩=>⟨m,h1,aJ _ _ _ _ hK h2⟩)
 ⟨h.ak hm (lCp κ r),hm.ak aF,rfl⟩
theorem cCp(κ:Kp)(r:Nat):bq (QF κ r) 12 76 (L2 r):=by
 refine aZ ?_
 rintro l K ⟨h1,h2⟩ ho
 refine Eq.mpr (YW κ r l K) ?_
 have:=fk (aa l)
 rw[eC] at this
 refine⟨rfl,(l,0),rfl,⟨Nat.zero_le _,by simp only;omega,by simp only[ab1];omega,h2⟩,?_⟩
 simp only[Fg,Out.run] at ho
 rw[ab1,List.take_length]
 exact ho
def yf(l:List AV):Prop:=aX (aa l)<=100000
theorem qCp(κ:Kp): ∀args st K,aM HD yf Fg args st K->dp (Pr κ) 76 args st K:=by
 rintro args st K ⟨l,h1,h2,h3⟩
 exact aB.sV L2 (QF κ) (eCq κ) (cCp κ) (aX (aa l)) args st K ⟨l,h1,⟨rfl,h2⟩,h3⟩
noncomputable def PY(κ:Kp):EB:=⟨(QJ κ).E.ay 76 (aM HD yf Fg),(QJ κ).ok.iz (qCp κ),(QJ κ).mono.ay aJ⟩
structure RJ where
 rel:ByteArray
 l:List AV
 xs:List AV
 i:Nat
abbrev IV(x:RJ):S:=sp 24 [(0, .cu 0),(6, .ad 56 x.l),(7, .int x.l.length),(8, .int x.i)] [.ext (some x.xs), .box 63 (.agg [.lit (.string x.rel), .ad 56 x.l])]
theorem xCl(κ:Kp)(x:RJ)(I:Nat->S->Prop)(n:Nat)(K:Exit->S->Prop):(vc (PY κ).E 12 241 none 2 (af (Pr κ).toProgram 241 1) (IV x) (bH (PY κ).E 241 1 2 I n K))=(
 letI z1:=nth x.l (Int.toNat (↑(x.i):Int))
 letI z2:=AV.agg [AV.str x.rel,AV.ad 56 x.l]
 letI z3:=IntKind.wrap IntKind.i64 ((↑(x.i):Int)+(1:Int))
 letI z4:=(↑(x.i):Int)<(↑(x.l.length):Int)
 aD (decide z4) (a7 (true&&decide z4) (aD (toInt (ae z1 0) != (4:Int)) (∃(e1:List AV),x.xs=AV.ba [AV.int (↑(x.i):Int),AV.agg [AV.int (toInt (ae z1
 0)),AV.str (toStr (ae z1 1)),AV.int (toInt (ae z1 2)),AV.ad 56 (ai (ae z1 3))]]::e1/\(∃(e0:Nat),e0<n/\I e0 (sp 24 [(0,AV.cu 0),(6,AV.ad 56 x.l),
 (7,AV.int (↑(x.l.length):Int)),(8,AV.int z3)] [Obj.ext (some e1),Obj.box 63 z2]))/\K Exit.ret (sp 24 [] [Obj.ext none,Obj.box 63 z2])) (∃(e0:Nat),e0
 <n/\I e0 (sp 24 [(0,AV.cu 0),(6,AV.ad 56 x.l),(7,AV.int (↑(x.l.length):Int)),(8,AV.int z3)] [Obj.ext (some x.xs),Obj.box 63 z2])))) (K (Exit.exit 0)
 (sp 24 [] [Obj.ext (some x.xs),Obj.box 63 z2]))):=by kernel_rfl
def DW(x:RJ):Prop:=x.l.length<=100000/\x.i<=x.l.length/\x.xs=A4 (eR (x.l.drop x.i) x.i)
def Ok(x:RJ):Out (Exit×S):= .all (fun _:Bool=>True) fun b=> .aD b
 (.one (.exit 0,sp 24 [] [.ext (some []), .box 63 (.agg [.lit (.string x.rel), .ad 56 x.l])]))
 (.one (.ret,sp 24 [] [.ext none, .box 63 (.agg [.lit (.string x.rel), .ad 56 x.l])]))
theorem Ia(l:List AV)(i:Nat)(h:i<l.length):eR (l.drop i) i=bif decide (toInt (ae (nth l i) 0)=4) then eR (l.drop (i+1)) ((i+1:Nat):Int) else((i:Int),wv (nth l i))::eR (l.drop (i+1)) ((i+1:Nat):Int):=by
 rw[ab2 h,←bg l i h,eR];rfl
theorem lCl(κ:Kp):bh (PY κ).E 12 241 1 (aP 2 IV DW Ok):=by
 refine aL (fun x=>x.l.length - x.i) ?_
 rintro⟨rel,l,xs,i⟩ K ⟨h1,h2,h3⟩ ho
 simp only at h1 h2 h3
 rw[show(PY κ).E.P=Pr κ from rfl]
 refine Eq.mpr (xCl κ ⟨rel,l,xs,i⟩ _ _ K) ?_
 have ho1:=ho true trivial
 have ho2:=ho false trivial
 simp only[Out.run,aD] at ho1 ho2
 rw[ah,aa1,aa3]
 refine⟨fun h=>an.2 ⟨by simp at h⊢;omega,?_⟩,fun h=>?_⟩
 ·have hk:i<l.length:=by simp only at h;omega
  have hd:=Ia l i hk
  rw[hd] at h3
  have next: ∀ys,ys=A4 (eR (l.drop (i+1)) ((i+1:Nat):Int))->∃m,m<l.length - i/\fe IV DW Ok (fun x=>x.l.length - x.i) K m (IV ⟨rel,l,ys,i+1⟩):=fun ys hy=>
   ⟨_,by simp only;omega,⟨rel,l,ys,i+1⟩,rfl,⟨h1,hk,hy⟩,rfl,ho⟩
  simp only[Int.toNat_natCast]
  rw[aW (n:=(i:Int)+1) (by omega) (by omega),ah]
  refine⟨fun e=>?_,fun e=>?_⟩
  ·rw[aa5 (by simpa using e),aa6] at h3
   exact⟨_,h3,next _ rfl,ho2⟩
  ·rw[aa7 (by simpa using e),aa8] at h3
   exact next _ h3
 ·have hk:i=l.length:=by simp only at h;omega
  rw[aa9 (by omega)] at h3
  have h3:xs=[]:=h3
  subst h3
  exact ho1
noncomputable def VP(κ:Kp):EB:=(PY κ).loop (lCl κ)
theorem ZK(κ:Kp)(l xs:List AV)(rel:ByteArray)(K:AV->List Dn.Obj->Prop):(a9 (VP κ).E 12 241 [.cu 0, .ptr 1 0 [] 0] [.ext (some xs), .box 63 (.agg [.lit (.string rel), .ad 56 l])] K)=(
 letI z1:=Pg.toProgram (Env.P (EB.E (PY κ)))
 af z1 241 1=af z1 241 1/\∃(e1:RJ),sp 24 [(0,AV.cu 0),(6,AV.ad 56 l),(7,AV.int (↑(l.length):Int)),(8,AV.int 0)] [Obj.ext (some xs),Obj.box 63
 (AV.agg [AV.str rel,AV.ad 56 l])]=IV e1/\DW e1/\∀(e0:Bool),True->aD e0 (K (AV.ba []) [Obj.ext (some []),Obj.box 63 (AV.agg [AV.str e1.rel,AV.ad 56
 e1.l])]) (K (AV.ba []) [Obj.ext none,Obj.box 63 (AV.agg [AV.str e1.rel,AV.ad 56 e1.l])])):=by kernel_rfl
abbrev VR:=ByteArray×List AV
def N9(x:VR):List AV×List Dn.Obj:=([.cu 0, .ptr 1 0 [] 0],[.ext (some (A4 (eR x.2 0))), .box 63 (.agg [.lit (.string x.1), .ad 56 x.2])])
def Ga(x:VR):Prop:=x.2.length<=100000
def Ls(_:VR):Out (AV×List Dn.Obj):= .all (fun st'=>qP st') fun st'=> .one (.ba [],st')
theorem Zb(κ:Kp):bq (VP κ).E 12 241 (aM N9 Ga Ls):=by
 refine aZ ?_
 rintro⟨rel,l⟩ K h1 ho
 refine Eq.mpr (ZK κ l (A4 (eR l 0)) rel K) ?_
 refine⟨rfl,⟨rel,l,A4 (eR l 0),0⟩,rfl,⟨h1,Nat.zero_le _,rfl⟩,fun y _=>?_⟩
 cases y
 ·exact ho _ trivial
 ·exact ho _ trivial
noncomputable def VQ(κ:Kp):EB:=(VP κ).call (Zb κ)
theorem Wh(κ:Kp)(t:AT)(K:AV->List Dn.Obj->Prop):(a9 (VQ κ).E 12 120 [cv t] [] K)=(
 ∃(a:List AV),([AV.ad 56 t.l],[])=HD a/\yf a/\K (AV.agg [AV.int t.op,AV.str t.s,AV.int t.n,AV.ad 56 (cR (aa a))]) []):=by kernel_rfl
def im(t:AT):List AV×List Dn.Obj:=([cv t],[])
def Py(t:AT):Out (AV×List Dn.Obj):= .one (Qa t,[])
theorem Wf(κ:Kp):bq (VQ κ).E 12 120 (aM im (fun t=>t.tm.iS<=100000) Py):=by
 refine aZ ?_
 rintro t K h ho
 refine Eq.mpr (Wh κ t K) ?_
 have hc:t.tm.iS=1+aX (aa t.l):=by rw[AT.tm,Tm.iS]
 exact⟨t.l,rfl,by show aX (aa t.l)<=100000;omega,ho⟩
noncomputable def QI(κ:Kp):EB:=(((VQ κ).call (Wf κ)).Q4 [120]).calm [120,76,56]
structure sz where
 ds:List AV
 rs:List AV
 bd:List AV
 rel:ByteArray
 l:List AV
 op:Int
 sX:Int
 rl:Int
 s:ByteArray
 u:AT
 v:AT
abbrev QE(x:sz):Dn.Obj:= .box 131 (.agg [gC x.ds x.rs, .ad 9 x.bd])
abbrev Su(x:sz):Dn.Obj:= .box 63 (.agg [.lit (.string x.rel), .ad 56 x.l])
abbrev Qi(x:sz)(rl:Int)(a b c d e f:AV):Dn.Obj:= .box 58 (.agg [.int x.op, .int x.sX, .int rl,a,b,c,d,e,f, .lit (.string x.s),cv x.u,cv x.v])
noncomputable abbrev Qs(κ:Kp)(x:sz):Dn.Obj:=
 .loop (fR (Pr κ).toProgram 126 3 .ready none (fK (bz 102) [(0, .ptr 0 0 [] 0),(1, .agg [.lit (.string x.rel), .ad 56 x.l]),(2, .ptr 1 0 [] 0),(3, .ptr 2 0 [] 0),(4, .ptr 3 0 [] 0),(5, .ptr 4 0 [] 0),(8, .ba [.int (bt x.rel x.ds), .bool (fh x.rel x.ds)]),(9, .ptr 1 0 [] 0),(10, .ptr 0 0 [] 0),(11, .ptr 0 0 [] 0),(12, .ptr 0 0 [0] 0),(13, .ptr 0 0 [0,0] 0),(14, .ad 61 x.ds),(15, .ptr 3 0 [0] 0),(16, .lit (.string x.rel)),(17, .ba [.int (bt x.rel x.ds), .bool (fh x.rel x.ds)]),(18, .int (bt x.rel x.ds)),(19, .bool (fh x.rel x.ds)),(20, .ptr 1 0 [] 0),(21, .ptr 1 0 [2] 2),(22, .agg [.lit (.string x.rel), .ad 56 x.l]),(23, .bI 241 [.ptr 5 0 [] 0])]))
noncomputable abbrev mQ(κ:Kp)(x:sz):List Dn.Obj:=[QE x,Qi x (bt x.rel x.ds) .nil .nil .nil .nil .nil .nil, .box 129 (.ptr 0 0 [] 0),Su x, .box 186 (.ptr 1 0 [] 0),Su x,Qs κ x]
noncomputable abbrev SJ(κ:Kp)(x:sz):List Dn.Obj:=[QE x,Qi x (bt x.rel x.ds) .nil .nil .nil .nil .nil .nil, .box 129 (.ptr 0 0 [] 0),Su x, .box 186 (.ptr 1 0 [] 0), .dead,Qs κ x]
noncomputable abbrev kX(κ:Kp)(x:sz)(q:SS):List Dn.Obj:=[QE x,Qi x (bt x.rel x.ds) (.ar 7 0 (iA q.eI).length) (.ar 8 0 q.df.length) (.ar 9 0 (iA q.cW).length) (.ar 10 0 (strs q.binds).length) (.ar 11 0 (iA q.cX).length) (.ar 12 0 (strs q.eqs).length), .box 129 (.ptr 0 0 [] 0),Su x, .box 186 (.ptr 1 0 [] 0), .dead,Qs κ x,
 .row 3 (iA q.eI), .row 56 q.df, .row 3 (iA q.cW), .row 9 (strs q.binds), .row 3 (iA q.cX), .row 9 (strs q.eqs)]
def Ye:List (Nat×Nat×TypeId):=[(1,3,3),(1,4,56),(1,5,3),(1,6,9),(1,7,3),(1,8,9)]
theorem sAm(κ:Kp)(x:sz)(Q:List Dn.Obj->Prop):(tidy (Pr κ).toProgram 7 (dO (mQ κ x) (ct (mQ κ x) [.ptr 5 0 [] 0])) Q)=(
 letI z1:=bt x.rel x.ds
 letI z2:=fh x.rel x.ds
 Q [Obj.box 131 (AV.agg [AV.agg [AV.ad 61 x.ds,AV.ad 66 x.rs],AV.ad 9 x.bd]),Obj.box 58 (AV.agg [AV.int x.op,AV.int x.sX,AV.int z1,AV.nil,AV.nil,AV.nil,
 AV.nil,AV.nil,AV.nil,AV.str x.s,cv x.u,cv x.v]),Obj.box 129 (AV.ptr 0 0 [] 0),Obj.box 63 (AV.agg [AV.str x.rel,AV.ad 56 x.l]),Obj.box 186 (AV.ptr 1 0
 [] 0),Obj.dead,Dn.Obj.loop (fR Tryz.prog 126 3 LoopState.ready none (fK (bz 102) [(0,AV.ptr 0 0 [] 0),(1,AV.agg [AV.str x.rel,AV.ad 56 x.l]),(2,AV.ptr 1
 0 [] 0),(3,AV.ptr 2 0 [] 0),(4,AV.ptr 3 0 [] 0),(5,AV.ptr 4 0 [] 0),(8,AV.ba [AV.int z1,AV.bool z2]),(9,AV.ptr 1 0 [] 0),(10,AV.ptr 0 0 [] 0),(11,
 AV.ptr 0 0 [] 0),(12,AV.ptr 0 0 [0] 0),(13,AV.ptr 0 0 [0,0] 0),(14,AV.ad 61 x.ds),(15,AV.ptr 3 0 [0] 0),(16,AV.str x.rel),(17,AV.ba [AV.int z1,
 AV.bool z2]),(18,AV.int z1),(19,AV.bool z2),(20,AV.ptr 1 0 [] 0),(21,AV.ptr 1 0 [2] 2),(22,AV.agg [AV.str x.rel,AV.ad 56 x.l]),(23,AV.bI 241
 [AV.ptr 5 0 [] 0])]))]):=by kernel_rfl
theorem rAm(κ:Kp)(x:sz)(q:SS)(i:Int)(t:AT)(Q:List Dn.Obj->Prop)(K2:List Dn.Obj->Prop):(gG (vc (QI κ).E 12) 6 [.int i,cv t] (kX κ x q) (fun r st''=>match r with| .lit (.bool true)=>tidy (Pr κ).toProgram 7 st'' Q| .lit (.bool false)=>K2 st''|_=>False))=(
 letI z5:=decide ((List.length (iA q.cX)+1+1)*9<=70368744177664)
 letI z6:=decide ((List.length (iA q.cW)+1+1)*9<=70368744177664)
 letI z7:=strs q.binds
 letI z8:=AV.agg [AV.agg [AV.ad 61 x.ds,AV.ad 66 x.rs],AV.ad 9 x.bd]
 letI z9:=AV.agg [AV.str x.rel,AV.ad 56 x.l]
 letI z10:=strs q.eqs
 letI z11:=bt x.rel x.ds
 letI z12:=List.length z7
 letI z13:=List.length (iA q.eI)
 letI z14:=List.length (iA q.cX)
 letI z15:=List.length (iA q.cW)
 letI z16:=List.take z12 (List.drop 0 z7)
 letI z17:=List.length z10
 letI z18:=AV.ptr 0 0 [] 0
 letI z19:=AV.ptr 1 0 [] 0
 letI z20:=fh x.rel x.ds
 letI z1:=fR Tryz.prog 126 3 LoopState.ready none (fK (bz 102) [(0,AV.ptr 0 0 [] 0),(1,AV.agg [AV.str x.rel,AV.ad 56 x.l]),(2,AV.ptr 1 0 [] 0),(3,
  AV.ptr 2 0 [] 0),(4,AV.ptr 3 0 [] 0),(5,AV.ptr 4 0 [] 0),(8,AV.ba [AV.int z11,AV.bool z20]),(9,AV.ptr 1 0 [] 0),(10,AV.ptr 0 0 [] 0),(11,AV.ptr 0 0
  [] 0),(12,AV.ptr 0 0 [0] 0),(13,AV.ptr 0 0 [0,0] 0),(14,AV.ad 61 x.ds),(15,AV.ptr 3 0 [0] 0),(16,AV.str x.rel),(17,AV.ba [AV.int z11,AV.bool
  z20]),(18,AV.int z11),(19,AV.bool z20),(20,AV.ptr 1 0 [] 0),(21,AV.ptr 1 0 [2] 2),(22,AV.agg [AV.str x.rel,AV.ad 56 x.l]),(23,AV.bI 241 [AV.ptr 5 0
  [] 0])])
 letI z2:=a7 (decide ((List.length z7+1+1)*17<=70368744177664)) (Q [Obj.box 131 z8,Obj.box 58 (AV.agg [AV.int x.op,AV.int x.sX,AV.int z11,AV.ar 7 0
  z13,AV.ar 8 0 q.df.length,AV.ar 9 0 (List.length (iA q.cW)+1),AV.ar 10 0 (List.length z7+1),AV.ar 11 0 z14,AV.ar 12 0 z17,AV.str x.s,cv x.u,cv
  x.v]),Obj.box 129 z18,Obj.box 63 z9,Obj.box 186 z19,Obj.dead,Dn.Obj.loop z1,Obj.row 3 (iA q.eI),Obj.row 56 q.df,Obj.row 3 (List.take z15 (iA q.cW)++
  [AV.int i]),Obj.row 9 (List.take z12 z7++[AV.str t.s]),Obj.row 3 (iA q.cX),Obj.row 9 z10])
 letI z3:=a7 (decide ((List.length z10+1+1)*17<=70368744177664)) (Q [Obj.box 131 z8,Obj.box 58 (AV.agg [AV.int x.op,AV.int x.sX,AV.int z11,AV.ar 7 0
  z13,AV.ar 8 0 q.df.length,AV.ar 9 0 z15,AV.ar 10 0 z12,AV.ar 11 0 (List.length (iA q.cX)+1),AV.ar 12 0 (List.length z10+1),AV.str x.s,cv x.u,cv
  x.v]),Obj.box 129 z18,Obj.box 63 z9,Obj.box 186 z19,Obj.dead,Dn.Obj.loop z1,Obj.row 3 (iA q.eI),Obj.row 56 q.df,Obj.row 3 (iA q.cW),Obj.row 9 z7,
  Obj.row 3 (List.take z14 (iA q.cX)++[AV.int i]),Obj.row 9 (List.take z17 z10++[AV.str t.s])])
 letI z4:=a7 (decide ((List.length (iA q.eI)+1+1)*9<=70368744177664)) (∃(e0:AT),([cv t],[])=im e0/\Tm.iS (AT.tm e0)<=100000/\a7 (decide
  ((q.df.length+1+1)*57<=70368744177664)) (Q [Obj.box 131 z8,Obj.box 58 (AV.agg [AV.int x.op,AV.int x.sX,AV.int z11,AV.ar 7 0 (List.length (iA q.eI)+
  1),AV.ar 8 0 (q.df.length+1),AV.ar 9 0 z15,AV.ar 10 0 z12,AV.ar 11 0 z14,AV.ar 12 0 z17,AV.str x.s,cv x.u,cv x.v]),Obj.box 129 z18,Obj.box 63 z9,
  Obj.box 186 z19,Obj.dead,Dn.Obj.loop z1,Obj.row 3 (List.take z13 (iA q.eI)++[AV.int i]),Obj.row 56 (List.take q.df.length q.df++[AV.agg [AV.int e0.op,
  AV.str e0.s,AV.int e0.n,AV.ad 56 (cR (aa e0.l))]]),Obj.row 3 (iA q.cW),Obj.row 9 z7,Obj.row 3 (iA q.cX),Obj.row 9 z10]))
 aD (t.op==(1:Int)) (a7 (decide (x.bd.length<=9223372036854775807)) (aD (!!decide (dQ t.s x.bd (0:Int)>=(0:Int))) z4 (a7 (decide (List.length z16<=
 9223372036854775807)) (aD (decide (dQ t.s z16 (0:Int)>=(0:Int))) ((a7 z5 z3/\a7 z5 z3)/\a7 z5 z3) ((a7 z6 z2/\a7 z6 z2)/\a7 z6 z2))))) z4):=by kernel_rfl
theorem ZW(κ:Kp)(x:sz):oR Ye (SJ κ x)=kX κ x PM:=by kernel_rfl
theorem ZR(κ:Kp)(x:sz):mV (mQ κ x) [.ptr 5 0 [] 0]=true:=by kernel_rfl
theorem kAm(κ:Kp)(x:sz)(xs:List AV):(AV.cu 0::fM (ju (ct (mQ κ x) [.ptr 5 0 [] 0])) [.ptr 5 0 [] 0],Obj.ext (some xs)::fZ (ju (ct (mQ κ x) [.ptr 5 0 [] 0])) (gE (mQ κ x) (ct (mQ κ x) [.ptr 5 0 [] 0])))=([.cu 0, .ptr 1 0 [] 0],[.ext (some xs),Su x]):=by kernel_rfl
theorem Fa: ∀{l:List AV} {x:AV},x∈l->(cM x).iS<=aX (aa l)
 | a::l,x,h=>by
  rw[aa,ac1,aX]
  rcases List.mem_cons.1 h with rfl|h
  ·omega
  ·have:=Fa h
   rw[aa] at this;omega
theorem yc: ∀{l:List AV} {i:Int} {e:Int×AT},e∈eR l i->∃x,x∈l/\e.2=wv x
 |[],_,_,h=>by simp[eR] at h
 | a::l,i,e,h=>by
  rw[eR] at h
  cases hc:decide (toInt (ae a 0)=4) with
  |true=>
   rw[hc,aa8] at h
   obtain⟨x,h1,h2⟩:=yc h
   exact⟨x,by simp[h1],h2⟩
  | false=>
   rw[hc,aa6] at h
   rcases List.mem_cons.1 h with rfl|h
   ·exact⟨a,by simp,rfl⟩
   ·obtain⟨x,h1,h2⟩:=yc h
    exact⟨x,by simp[h1],h2⟩
structure pZ(x:sz):Prop where
 hl:aX (aa x.l)<=100000
 hb:x.bd.length<=100000
 hd:x.ds.length<=aR
noncomputable def Sc(κ:Kp)(x:sz):List AV×List Dn.Obj:=([.ptr 5 0 [] 0],mQ κ x)
noncomputable def Sv(κ:Kp):dv:=fun caps st K=>∃x:sz,(caps,st)=Sc κ x/\pZ x/\K (kX κ x (iD x.bd (eR x.l 0)))
theorem HL(κ:Kp):(Sv κ).iT:=by
 rintro caps st K K' hK ⟨a,h1,h2,h3⟩
 exact⟨a,h1,h2,hK _ h3⟩
theorem Qb(κ:Kp)(args:List AV)(st:List Dn.Obj)(K:AV->List Dn.Obj->Prop)(h:aM N9 Ga Ls args st K):(QI κ).E.call 241 args st K:=h
theorem Wd{n:Nat}(h:n<=200000):decide ((n+1+1)*9<=70368744177664)=true:=by rw[aa1];omega
theorem RQ{n:Nat}(h:n<=200000):decide ((n+1+1)*17<=70368744177664)=true:=by rw[aa1];omega
theorem Uw{n:Nat}(h:n<=200000):decide ((n+1+1)*57<=70368744177664)=true:=by rw[aa1];omega
attribute [local irreducible] oR
theorem gAm(κ:Kp):tH (QI κ).E 12 241 Ye (Sv κ):=by
 rintro caps st K ⟨x,h1,hf,h5⟩
 obtain⟨rfl,rfl⟩:=Prod.mk.inj (show(caps,st)=([.ptr 5 0 [] 0],mQ κ x) from h1)
 have hll:=fk (aa x.l)
 rw[eC] at hll
 have hl:=hf.hl
 have hb:=hf.hb
 have hcl:=BF x.l 0
 refine⟨A4 (eR x.l 0),fun items st'=>∃E1 E2,items=A4 E2/\st'=kX κ x (iD x.bd E1)/\E1++E2=eR x.l 0,⟨ZR κ x,?_,?_,?_,?_⟩⟩
 ·refine Qb κ _ _ _ ⟨(x.rel,x.l),?_,by show x.l.length<=100000;omega,fun st' h=>h⟩
  rw[kAm];rfl
 ·rw[show(QI κ).E.P=Pr κ from rfl,show(mQ κ x).length=7 from rfl,sAm]
  refine Exists.intro [] (Exists.intro (eR x.l 0) (And.intro (Eq.refl _) (And.intro ?_ (List.nil_append _))))
  exact ZW κ x
 ·rintro us rest st' ⟨E1,E2,e1,rfl,e3⟩
  cases E2 with
  |nil=>cases e1
  | cons e E2=>
   obtain⟨i,t⟩:=e
   obtain⟨hu,rfl⟩:=List.cons.inj e1
   obtain rfl:=AV.ba.inj hu
   rw[show(QI κ).E.P=Pr κ from rfl,show(mQ κ x).length=7 from rfl]
   rw[show(7:Nat) - 1=6 from rfl,show[AV.int (i,t).1,cv (i,t).2]=[AV.int i,cv t] from rfl]
   refine Eq.mpr (rAm κ x (iD x.bd E1) i t (fun st'=>∃F1 F2,A4 E2=A4 F2/\st'=kX κ x (iD x.bd F1)/\F1++F2=eR x.l 0) K) ?_
   have hle:(iD x.bd E1).le (0+E1.length):=Oq (bd:=x.bd) E1 Qh
   have hE:E1.length<=(eR x.l 0).length:=by rw[←e3];simp
   obtain⟨q1,q2,q3,q4,q5,q6⟩:=hle
   simp only[Nat.zero_add] at q1 q2 q3 q4 q5 q6
   have hc:t.tm.iS<=100000:=by
    obtain⟨y,y1,y2⟩:=yc (show(i,t)∈eR x.l 0 by rw[←e3];simp)
    have:=Fa y1
    simp only at y2
    rw[y2,nQ];omega
   have next: ∀st',st'=kX κ x (AP x.bd (iD x.bd E1) (i,t))->∃F1 F2,A4 E2=A4 F2/\st'=kX κ x (iD x.bd F1)/\F1++F2=eR x.l 0:=fun st' h=>
    ⟨E1++[(i,t)],E2,rfl,by rw[h];simp[iD],by rw[←e3];simp⟩
   generalize iD x.bd E1=q at*
   have hbd:decide (x.bd.length<=9223372036854775807)=true:=by rw[aa1];omega
   have hbn:decide ((strs q.binds).length<=9223372036854775807)=true:=by rw[aa1,aU];clear next;omega
   rw[←fP q.eI] at q1
   rw[←fP q.cW] at q3
   rw[←aU q.binds] at q4
   rw[←fP q.cX] at q5
   rw[←aU q.eqs] at q6
   have cA:Gy x.bd t=false->∃F1 F2,A4 E2=A4 F2/\kX κ x {q with eI:=q.eI++[i],df:=q.df++[Qa t]}=kX κ x (iD x.bd F1)/\F1++F2=eR x.l 0:=fun h=>next _ (by unfold AP;simp only[h];rfl)
   have cB:Gy x.bd t=true->lB t.s (strs q.binds)=true->∃F1 F2,A4 E2=A4 F2/\kX κ x {q with cX:=q.cX++[i],eqs:=q.eqs++[t.s]}=kX κ x (iD x.bd F1)/\F1++F2=eR x.l 0:=fun h h2=>next _ (by unfold AP;simp only[h,h2];rfl)
   have cC:Gy x.bd t=true->lB t.s (strs q.binds)=false->∃F1 F2,A4 E2=A4 F2/\kX κ x {q with cW:=q.cW++[i],binds:=q.binds++[t.s]}=kX κ x (iD x.bd F1)/\F1++F2=eR x.l 0:=fun h h2=>next _ (by unfold AP;simp only[h,h2];rfl)
   have iA1:iA [i]=[AV.int i]:=rfl
   have st1:strs [t.s]=[AV.str t.s]:=rfl
   simp only[kX,Qi,tJ,gR,ab9,iA1,st1,List.length_singleton] at cA cB cC
   clear next h5 hf h1
   simp only[ab1,List.take_length]
   have b1:=Wd (n:=(iA q.eI).length) (by omega)
   have b2:=Uw (n:=q.df.length) (by omega)
   have b3:=Wd (n:=(iA q.cX).length) (by omega)
   have b4:=RQ (n:=(strs q.eqs).length) (by omega)
   have b5:=Wd (n:=(iA q.cW).length) (by omega)
   have b6:=RQ (n:=(strs q.binds).length) (by omega)
   rw[ah]
   refine⟨fun e1=>an.2 ⟨hbd,ah.2 ⟨fun e2=>?_,fun e2=>an.2 ⟨hbn,ah.2 ⟨fun e3=>?_,fun e3=>?_⟩⟩⟩⟩,fun e1=>?_⟩
   ·exact an.2 ⟨b1,t,rfl,hc,an.2 ⟨b2,cA (by unfold Gy lB;rw[Bool.not_not] at e2;rw[e2,Bool.not_true,Bool.and_false])⟩⟩
   ·have h:=cB (by unfold Gy lB;rw[Bool.not_not] at e2;rw[e2,e1];rfl) e3
    repeat' first
     |exact an.2 ⟨b3,an.2 ⟨b4,h⟩⟩
     |refine And.intro ?_ ?_
   ·have h:=cC (by unfold Gy lB;rw[Bool.not_not] at e2;rw[e2,e1];rfl) e3
    repeat' first
     |exact an.2 ⟨b5,an.2 ⟨b6,h⟩⟩
     |refine And.intro ?_ ?_
   ·exact an.2 ⟨b1,t,rfl,hc,an.2 ⟨b2,cA (by unfold Gy;rw[e1,Bool.false_and])⟩⟩
 ·rintro st' ⟨E1,E2,e1,rfl,e3⟩
  obtain rfl:E2=[]:=by cases E2 with|nil=>rfl|cons _ _=>cases e1
  rw[List.append_nil] at e3
  rw[e3];exact h5
noncomputable def Vh(κ:Kp):EB:=(QI κ).Pd 126 3 (HL κ) (gAm κ) (fun f=>jM f (241::OV))
theorem yAm(κ:Kp)(x:sz)(K:AV->List Dn.Obj->Prop):(a9 (Vh κ).E 12 126 [.ptr 0 0 [] 0, .agg [.lit (.string x.rel), .ad 56 x.l], .ptr 1 0 [] 0] [QE x,Qi x x.rl .nil .nil .nil .nil .nil .nil] K)=(
 letI z1:=AV.agg [AV.str x.rel,AV.ad 56 x.l]
 ∃(e1:List AV×ByteArray),([AV.ad 61 x.ds,AV.str x.rel],[])=AH e1/\gx e1/\∃(e0:sz),([AV.ptr 5 0 [] 0],[Obj.box 131 (AV.agg [AV.agg [AV.ad 61
 x.ds,AV.ad 66 x.rs],AV.ad 9 x.bd]),Obj.box 58 (AV.agg [AV.int x.op,AV.int x.sX,AV.int (bt e1.2 e1.1),AV.nil,AV.nil,AV.nil,AV.nil,AV.nil,AV.nil,
 AV.str x.s,cv x.u,cv x.v]),Obj.box 129 (AV.ptr 0 0 [] 0),Obj.box 63 z1,Obj.box 186 (AV.ptr 1 0 [] 0),Obj.box 63 z1,Dn.Obj.loop (fR Tryz.prog 126 3
 LoopState.ready none (fK (bz 102) [(0,AV.ptr 0 0 [] 0),(1,AV.agg [AV.str x.rel,AV.ad 56 x.l]),(2,AV.ptr 1 0 [] 0),(3,AV.ptr 2 0 [] 0),(4,AV.ptr 3 0 []
 0),(5,AV.ptr 4 0 [] 0),(8,AV.ba [AV.int (bt e1.2 e1.1),AV.bool (fh e1.2 e1.1)]),(9,AV.ptr 1 0 [] 0),(10,AV.ptr 0 0 [] 0),(11,AV.ptr 0 0 [] 0),(12,
 AV.ptr 0 0 [0] 0),(13,AV.ptr 0 0 [0,0] 0),(14,AV.ad 61 x.ds),(15,AV.ptr 3 0 [0] 0),(16,AV.str x.rel),(17,AV.ba [AV.int (bt e1.2 e1.1),AV.bool (fh
 e1.2 e1.1)]),(18,AV.int (bt e1.2 e1.1)),(19,AV.bool (fh e1.2 e1.1)),(20,AV.ptr 1 0 [] 0),(21,AV.ptr 1 0 [2] 2),(22,AV.agg [AV.str x.rel,AV.ad 56
 x.l]),(23,AV.bI 241 [AV.ptr 5 0 [] 0])]))])=Sc κ e0/\pZ e0/\K (AV.ba []) [Obj.box 131 (AV.agg [AV.agg [AV.ad 61 e0.ds,AV.ad 66 e0.rs],AV.ad 9 e0.bd]),
 Obj.box 58 (AV.agg [AV.int e0.op,AV.int e0.sX,AV.int (bt e0.rel e0.ds),AV.ar 2 0 (List.length (iA (SS.eI (iD e0.bd (eR e0.l (0:Int)))))),AV.ar 3 0
 (List.length (SS.df (iD e0.bd (eR e0.l (0:Int))))),AV.ar 4 0 (List.length (iA (SS.cW (iD e0.bd (eR e0.l (0:Int)))))),AV.ar 5 0 (List.length (strs
 (SS.binds (iD e0.bd (eR e0.l (0:Int)))))),AV.ar 6 0 (List.length (iA (SS.cX (iD e0.bd (eR e0.l (0:Int)))))),AV.ar 7 0 (List.length (strs (SS.eqs (iD e0.bd
 (eR e0.l (0:Int)))))),AV.str e0.s,cv e0.u,cv e0.v]),Obj.row 3 (iA (SS.eI (iD e0.bd (eR e0.l (0:Int))))),Obj.row 56 (SS.df (iD e0.bd (eR e0.l (0:
 Int)))),Obj.row 3 (iA (SS.cW (iD e0.bd (eR e0.l (0:Int))))),Obj.row 9 (strs (SS.binds (iD e0.bd (eR e0.l (0:Int))))),Obj.row 3 (iA (SS.cX (iD e0.bd (eR
 e0.l (0:Int))))),Obj.row 9 (strs (SS.eqs (iD e0.bd (eR e0.l (0:Int)))))]):=by kernel_rfl
def wR(x:sz):List AV×List Dn.Obj:=([.ptr 0 0 [] 0, .agg [.lit (.string x.rel), .ad 56 x.l], .ptr 1 0 [] 0],[QE x,Qi x x.rl .nil .nil .nil .nil .nil .nil])
def iu(x:sz):SS:=iD x.bd (eR x.l 0)
abbrev RN(x:sz)(q:SS):List Dn.Obj:=[QE x,Qi x (bt x.rel x.ds) (.ar 2 0 (iA q.eI).length) (.ar 3 0 q.df.length) (.ar 4 0 (iA q.cW).length) (.ar 5 0 (strs q.binds).length) (.ar 6 0 (iA q.cX).length) (.ar 7 0 (strs q.eqs).length),
 .row 3 (iA q.eI), .row 56 q.df, .row 3 (iA q.cW), .row 9 (strs q.binds), .row 3 (iA q.cX), .row 9 (strs q.eqs)]
def O8(x:sz):Out (AV×List Dn.Obj):= .one (.ba [],RN x (iu x))
theorem cAm(κ:Kp):bq (Vh κ).E 12 126 (aM wR pZ O8):=by
 refine aZ ?_
 rintro x K hf ho
 refine Eq.mpr (yAm κ x K) ?_
 exact⟨(x.ds,x.rel),rfl,hf.hd,x,rfl,hf,ho⟩
noncomputable def UX(κ:Kp):EB:=(Vh κ).opened [(1,[10,3],56),(1,[11,3],56)] [] (cAm κ)
structure QP where
 ds:List AV
 rs:List AV
 bd:List AV
 rel:ByteArray
 l:List AV
 op:Int
 u:AT
 v:AT
abbrev Ur(x:QP):Dn.Obj:= .box 131 (.agg [gC x.ds x.rs, .ad 9 x.bd])
theorem ySp(κ:Kp)(x:QP)(K:AV->List Dn.Obj->Prop):(a9 (UX κ).E 12 78 [.ptr 0 0 [] 0, .agg [.int x.op, .agg [.lit (.string x.rel), .ad 56 x.l],cv x.u,cv x.v]] [Ur x] K)=(
 letI z4:=AV.agg [AV.agg [AV.ad 61 x.ds,AV.ad 66 x.rs],AV.ad 9 x.bd]
 letI z1:=∃(e1:AT),([AV.agg [AV.int x.u.op,AV.str x.u.s,AV.int x.u.n,AV.ad 56 x.u.l]],[])=im e1/\Tm.iS (AT.tm e1)<=100000/\∃(e0:AT),([AV.agg [AV.int x.v.op,AV.str x.v.s,AV.int x.v.n,AV.ad 56 x.v.l]],[])=im e0/\Tm.iS (AT.tm e0)<=100000/\K (AV.agg [AV.int 3,AV.int x.op,AV.int 0,AV.ad 3 [],AV.ad 56 [],AV.ad 3 [],AV.ad 9 [],AV.ad 3 [],AV.ad 9 [],AV.str {data:= #[]},AV.agg [AV.int e1.op,AV.str e1.s,AV.int e1.n,AV.ad 56 (cR (aa e1.l))],AV.agg [AV.int e0.op,AV.str e0.s,AV.int e0.n,AV.ad 56 (cR (aa e0.l))]]) [Obj.box 131 z4]
 letI z2:=∃(e0:sz),([AV.ptr 0 0 [] 0,AV.agg [AV.str x.rel,AV.ad 56 x.l],AV.ptr 1 0 [] 0],[Obj.box 131 z4,Obj.box 58 (AV.agg [AV.int 5,AV.int x.op,AV.int 0,AV.nil,AV.nil,AV.nil,AV.nil,AV.nil,AV.nil,AV.str {data:= #[]},AV.agg [AV.int x.u.op,AV.str x.u.s,AV.int x.u.n,AV.ad 56 x.u.l],AV.agg [AV.int x.v.op,AV.str x.v.s,AV.int x.v.n,AV.ad 56 x.v.l]])])=wR e0/\pZ e0/\K (AV.agg [AV.int e0.op,AV.int e0.sX,AV.int (bt e0.rel e0.ds),AV.ad 3 (List.take (List.length (iA (SS.eI (iu e0)))) (List.drop 0 (iA (SS.eI (iu e0))))),AV.ad 56 (List.take (List.length (SS.df (iu e0))) (List.drop 0 (SS.df (iu e0)))),AV.ad 3 (List.take (List.length (iA (SS.cW (iu e0)))) (List.drop 0 (iA (SS.cW (iu e0))))),AV.ad 9 (List.take (List.length (strs (SS.binds (iu e0)))) (List.drop 0 (strs (SS.binds (iu e0))))),AV.ad 3 (List.take (List.length (iA (SS.cX (iu e0)))) (List.drop 0 (iA (SS.cX (iu e0))))),AV.ad 9 (List.take (List.length (strs (SS.eqs (iu e0)))) (List.drop 0 (strs (SS.eqs (iu e0))))),AV.str e0.s,AV.agg [AV.int e0.u.op,AV.str e0.u.s,AV.int e0.u.n,AV.ad 56 e0.u.l],AV.agg [AV.int e0.v.op,AV.str e0.v.s,AV.int e0.v.n,AV.ad 56 e0.v.l]]) [Obj.box 131 (AV.agg [AV.agg [AV.ad 61 e0.ds,AV.ad 66 e0.rs],AV.ad 9 e0.bd])]
 letI z5:=decide (x.bd.length<=9223372036854775807)
 letI z3:=a7 z5 (aD (!decide (dQ x.v.s x.bd (0:Int)>=(0:Int))) (∃(e0:AT),([AV.agg [AV.int x.u.op,AV.str x.u.s,AV.int x.u.n,AV.ad 56 x.u.l]],[])=im e0/\Tm.iS (AT.tm e0)<=100000/\K (AV.agg [AV.int 4,AV.int 0,AV.int 0,AV.ad 3 [],AV.ad 56 [],AV.ad 3 [],AV.ad 9 [],AV.ad 3 [],AV.ad 9 [],AV.str x.v.s,AV.agg [AV.int e0.op,AV.str e0.s,AV.int e0.n,AV.ad 56 (cR (aa e0.l))],AV.agg [AV.int 0,AV.str {data:= #[]},AV.int 0,AV.ad 56 []]]) [Obj.box 131 z4]) z1)
 letI z6:=!decide (dQ x.u.s x.bd (0:Int)>=(0:Int))
 aD (x.op==(2:Int)) (∃(e0:sz),([AV.ptr 0 0 [] 0,AV.agg [AV.str x.rel,AV.ad 56 x.l],AV.ptr 1 0 [] 0],[Obj.box 131 z4,Obj.box 58 (AV.agg [AV.int 2,AV.int 0,AV.int 0,AV.nil,AV.nil,AV.nil,AV.nil,AV.nil,AV.nil,AV.str {data:= #[]},AV.agg [AV.int 0,AV.str {data:= #[]},AV.int 0,AV.ad 56 []],AV.agg [AV.int 0,AV.str {data:= #[]},AV.int 0,AV.ad 56 []]])])=wR e0/\pZ e0/\K (AV.agg [AV.int e0.op,AV.int e0.sX,AV.int (bt e0.rel e0.ds),AV.ad 3 (List.take (List.length (iA (SS.eI (iu e0)))) (List.drop 0 (iA (SS.eI (iu e0))))),AV.ad 56 (List.take (List.length (SS.df (iu e0))) (List.drop 0 (SS.df (iu e0)))),AV.ad 3 (List.take (List.length (iA (SS.cW (iu e0)))) (List.drop 0 (iA (SS.cW (iu e0))))),AV.ad 9 (List.take (List.length (strs (SS.binds (iu e0)))) (List.drop 0 (strs (SS.binds (iu e0))))),AV.ad 3 (List.take (List.length (iA (SS.cX (iu e0)))) (List.drop 0 (iA (SS.cX (iu e0))))),AV.ad 9 (List.take (List.length (strs (SS.eqs (iu e0)))) (List.drop 0 (strs (SS.eqs (iu e0))))),AV.str e0.s,AV.agg [AV.int e0.u.op,AV.str e0.u.s,AV.int e0.u.n,AV.ad 56 e0.u.l],AV.agg [AV.int e0.v.op,AV.str e0.v.s,AV.int e0.v.n,AV.ad 56 e0.v.l]]) [Obj.box 131 (AV.agg [AV.agg [AV.ad 61 e0.ds,AV.ad 66 e0.rs],AV.ad 9 e0.bd])]) (aD (x.op==(1:Int)) (∃(e0:sz),([AV.ptr 0 0 [] 0,AV.agg [AV.str x.rel,AV.ad 56 x.l],AV.ptr 1 0 [] 0],[Obj.box 131 z4,Obj.box 58 (AV.agg [AV.int 1,AV.int 0,AV.int 0,AV.nil,AV.nil,AV.nil,AV.nil,AV.nil,AV.nil,AV.str {data:= #[]},AV.agg [AV.int 0,AV.str {data:= #[]},AV.int 0,AV.ad 56 []],AV.agg [AV.int 0,AV.str {data:= #[]},AV.int 0,AV.ad 56 []]])])=wR e0/\pZ e0/\K (AV.agg [AV.int e0.op,AV.int e0.sX,AV.int (bt e0.rel e0.ds),AV.ad 3 (List.take (List.length (iA (SS.eI (iu e0)))) (List.drop 0 (iA (SS.eI (iu e0))))),AV.ad 56 (List.take (List.length (SS.df (iu e0))) (List.drop 0 (SS.df (iu e0)))),AV.ad 3 (List.take (List.length (iA (SS.cW (iu e0)))) (List.drop 0 (iA (SS.cW (iu e0))))),AV.ad 9 (List.take (List.length (strs (SS.binds (iu e0)))) (List.drop 0 (strs (SS.binds (iu e0))))),AV.ad 3 (List.take (List.length (iA (SS.cX (iu e0)))) (List.drop 0 (iA (SS.cX (iu e0))))),AV.ad 9 (List.take (List.length (strs (SS.eqs (iu e0)))) (List.drop 0 (strs (SS.eqs (iu e0))))),AV.str e0.s,AV.agg [AV.int e0.u.op,AV.str e0.u.s,AV.int e0.u.n,AV.ad 56 e0.u.l],AV.agg [AV.int e0.v.op,AV.str e0.v.s,AV.int e0.v.n,AV.ad 56 e0.v.l]]) [Obj.box 131 (AV.agg [AV.agg [AV.ad 61 e0.ds,AV.ad 66 e0.rs],AV.ad 9 e0.bd])]) (aD (x.op==(3:Int)) (aD (x.u.op==(1:Int)) (a7 z5 (aD z6 (∃(e0:AT),([AV.agg [AV.int x.v.op,AV.str x.v.s,AV.int x.v.n,AV.ad 56 x.v.l]],[])=im e0/\Tm.iS (AT.tm e0)<=100000/\K (AV.agg [AV.int 4,AV.int 0,AV.int 0,AV.ad 3 [],AV.ad 56 [],AV.ad 3 [],AV.ad 9 [],AV.ad 3 [],AV.ad 9 [],AV.str x.u.s,AV.agg [AV.int e0.op,AV.str e0.s,AV.int e0.n,AV.ad 56 (cR (aa e0.l))],AV.agg [AV.int 0,AV.str {data:= #[]},AV.int 0,AV.ad 56 []]]) [Obj.box 131 z4]) (aD (x.v.op==(1:Int)) z3 (∃(e1:AT),([AV.agg [AV.int x.u.op,AV.str x.u.s,AV.int x.u.n,AV.ad 56 x.u.l]],[])=im e1/\Tm.iS (AT.tm e1)<=100000/\∃(e0:AT),([AV.agg [AV.int x.v.op,AV.str x.v.s,AV.int x.v.n,AV.ad 56 x.v.l]],[])=im e0/\Tm.iS (AT.tm e0)<=100000/\K (AV.agg [AV.int 3,AV.int x.op,AV.int 0,AV.ad 3 [],AV.ad 56 [],AV.ad 3 [],AV.ad 9 [],AV.ad 3 [],AV.ad 9 [],AV.str {data:= #[]},AV.agg [AV.int e1.op,AV.str e1.s,AV.int e1.n,AV.ad 56 (cR (aa e1.l))],AV.agg [AV.int e0.op,AV.str e0.s,AV.int e0.n,AV.ad 56 (cR (aa e0.l))]]) [Obj.box 131 z4])))) (aD (x.v.op==(1:Int)) z3 z1)) (aD (x.op==(4:Int)) z1 (aD (x.op==(5:Int)) z1 (aD (x.op==(6:Int)) z1 (aD (x.u.op==(1:Int)) (a7 z5 (aD z6 (∃(e0:sz),([AV.ptr 0 0 [] 0,AV.agg [AV.str x.rel,AV.ad 56 x.l],AV.ptr 1 0 [] 0],[Obj.box 131 z4,Obj.box 58 (AV.agg [AV.int 5,AV.int x.op,AV.int 0,AV.nil,AV.nil,AV.nil,AV.nil,AV.nil,AV.nil,AV.str x.u.s,AV.agg [AV.int 0,AV.str {data:= #[]},AV.int 0,AV.ad 56 []],AV.agg [AV.int x.v.op,AV.str x.v.s,AV.int x.v.n,AV.ad 56 x.v.l]])])=wR e0/\pZ e0/\K (AV.agg [AV.int e0.op,AV.int e0.sX,AV.int (bt e0.rel e0.ds),AV.ad 3 (List.take (List.length (iA (SS.eI (iu e0)))) (List.drop 0 (iA (SS.eI (iu e0))))),AV.ad 56 (List.take (List.length (SS.df (iu e0))) (List.drop 0 (SS.df (iu e0)))),AV.ad 3 (List.take (List.length (iA (SS.cW (iu e0)))) (List.drop 0 (iA (SS.cW (iu e0))))),AV.ad 9 (List.take (List.length (strs (SS.binds (iu e0)))) (List.drop 0 (strs (SS.binds (iu e0))))),AV.ad 3 (List.take (List.length (iA (SS.cX (iu e0)))) (List.drop 0 (iA (SS.cX (iu e0))))),AV.ad 9 (List.take (List.length (strs (SS.eqs (iu e0)))) (List.drop 0 (strs (SS.eqs (iu e0))))),AV.str e0.s,AV.agg [AV.int e0.u.op,AV.str e0.u.s,AV.int e0.u.n,AV.ad 56 e0.u.l],AV.agg [AV.int e0.v.op,AV.str e0.v.s,AV.int e0.v.n,AV.ad 56 e0.v.l]]) [Obj.box 131 (AV.agg [AV.agg [AV.ad 61 e0.ds,AV.ad 66 e0.rs],AV.ad 9 e0.bd])]) z2)) z2))))))):=by kernel_rfl
structure OO(x:QP):Prop where
 hl:aX (aa x.l)<=100000
 hb:x.bd.length<=100000
 hd:x.ds.length<=aR
 hu:x.u.tm.iS<=100000
 hv:x.v.tm.iS<=100000
def Tk(x:QP):List AV×List Dn.Obj:=([.ptr 0 0 [] 0, .agg [.int x.op, .agg [.lit (.string x.rel), .ad 56 x.l],cv x.u,cv x.v]],[Ur x])
def Sx(x:QP):Out (AV×List Dn.Obj):= .one (Uc (wo x.ds x.bd x.rel x.l x.op x.u x.v),[Ur x])
theorem YC(κ:Kp):bq (UX κ).E 12 78 (aM Tk OO Sx):=by
 refine aZ ?_
 rintro x K hf ho
 refine Eq.mpr (ySp κ x K) ?_
 have hbd:decide (x.bd.length<=9223372036854775807)=true:=by
  have:=hf.hb
  rw[aa1];omega
 have fa: ∀op sX rl s u v,pZ ⟨x.ds,x.rs,x.bd,x.rel,x.l,op,sX,rl,s,u,v⟩:=fun _ _ _ _ _ _=>⟨hf.hl,hf.hb,hf.hd⟩
 have ho:K (Uc (wo x.ds x.bd x.rel x.l x.op x.u x.v)) [Ur x]:=ho
 unfold wo Gy at ho
 simp only[ab1,List.take_length,hbd]
 cases h2:(x.op==2) with
 |true=>
  rw[h2] at ho
  exact⟨⟨x.ds,x.rs,x.bd,x.rel,x.l,2,0,0,ByteArray.mk #[],zT,zT⟩,rfl,fa _ _ _ _ _ _,ho⟩
 | false=>
  rw[h2] at ho
  cases h1:(x.op==1) with
  |true=>
   rw[h1] at ho
   exact⟨⟨x.ds,x.rs,x.bd,x.rel,x.l,1,0,0,ByteArray.mk #[],zT,zT⟩,rfl,fa _ _ _ _ _ _,ho⟩
  | false=>
   rw[h1] at ho
   cases h3:(x.op==3) with
   | true=>
    rw[h3] at ho
    cases hu1:(x.u.op==1)<;>rw[hu1] at ho
    ·cases hv1:(x.v.op==1)<;>rw[hv1] at ho
     ·exact⟨x.u,rfl,hf.hu,x.v,rfl,hf.hv,ho⟩
     ·cases hv2:lB x.v.s x.bd<;>rw[hv2] at ho<;>unfold lB at hv2<;>rw[hv2]
      ·exact⟨x.u,rfl,hf.hu,ho⟩
      ·exact⟨x.u,rfl,hf.hu,x.v,rfl,hf.hv,ho⟩
    ·cases hu2:lB x.u.s x.bd<;>rw[hu2] at ho<;>unfold lB at hu2<;>rw[hu2]
     ·exact⟨x.v,rfl,hf.hv,ho⟩
     ·cases hv1:(x.v.op==1)<;>rw[hv1] at ho
      ·exact⟨x.u,rfl,hf.hu,x.v,rfl,hf.hv,ho⟩
      ·cases hv2:lB x.v.s x.bd<;>rw[hv2] at ho<;>unfold lB at hv2<;>rw[hv2]
       ·exact⟨x.u,rfl,hf.hu,ho⟩
       ·exact⟨x.u,rfl,hf.hu,x.v,rfl,hf.hv,ho⟩
   | false=>
    rw[h3] at ho
    cases h4:(x.op==4) with
    |true=>rw[h4] at ho;exact⟨x.u,rfl,hf.hu,x.v,rfl,hf.hv,ho⟩
    | false=>
     rw[h4] at ho
     cases h5:(x.op==5) with
     |true=>rw[h5] at ho;exact⟨x.u,rfl,hf.hu,x.v,rfl,hf.hv,ho⟩
     | false=>
      rw[h5] at ho
      cases h6:(x.op==6) with
      |true=>rw[h6] at ho;exact⟨x.u,rfl,hf.hu,x.v,rfl,hf.hv,ho⟩
      | false=>
       rw[h6] at ho
       cases hu1:(x.u.op==1)<;>rw[hu1] at ho
       ·exact⟨⟨x.ds,x.rs,x.bd,x.rel,x.l,5,x.op,0,ByteArray.mk #[],x.u,x.v⟩,rfl,fa _ _ _ _ _ _,ho⟩
       ·cases hu2:lB x.u.s x.bd<;>rw[hu2] at ho<;>unfold lB at hu2<;>rw[hu2]
        ·exact⟨⟨x.ds,x.rs,x.bd,x.rel,x.l,5,x.op,0,x.u.s,zT,x.v⟩,rfl,fa _ _ _ _ _ _,ho⟩
        ·exact⟨⟨x.ds,x.rs,x.bd,x.rel,x.l,5,x.op,0,ByteArray.mk #[],x.u,x.v⟩,rfl,fa _ _ _ _ _ _,ho⟩
noncomputable def Xx(κ:Kp):EB:=(((UX κ).call (YC κ)).calm [78]).opens [(41,5,[(1193,some 58)])]
end Go.Proofs.YthaiinlfnommnaaGreatDoor
