import Derived.Test.YthaiinlfnommnaaGreatDoorDbMA
import Derived.Test.YthaiinlfnommnaaGreatDoorDoJ
namespace Go.Proofs.YthaiinlfnommnaaGreatDoor
open Go Go.Dn Go.Rl Go.Proofs
mutual
def O3:Tm->AV
 | .mk op s n l=> .agg [.int op, .lit (.string s), .int n, .ad 56 (c9 l)]
def c9:List Tm->List AV
 |[]=>[]
 |t::l=>O3 t::c9 l
end
theorem xX: ∀l:List Tm,(c9 l).length=l.length
 |[]=>rfl
 |_::l=>by simp[c9,xX l]
theorem yK: ∀a b:List Tm,c9 (a++b)=c9 a++c9 b
 |[],_=>rfl
 |_::a,b=>by simp[c9,yK a b]
abbrev RJ(t:AT):AV:= .agg [.int t.op, .lit (.string t.s), .int t.n, .ad 56 (c9 (aa t.l))]
structure SS where
 eT:List Int
 dm:List AV
 da:List Int
 binds:List ByteArray
 df:List Int
 eqs:List ByteArray
def lO(s:ByteArray)(l:List AV):Bool:=decide (eb s l 0>=0)
def Dr(bd:List AV)(t:AT):Bool:=(t.op==1)&& !lO t.s bd
def Cu(bd:List AV)(s:SS)(e:Int×AT):SS:=
 bif !Dr bd e.2 then{s with eT:=s.eT++[e.1],dm:=s.dm++[RJ e.2]}
 else bif lO e.2.s (strs s.binds) then{s with df:=s.df++[e.1],eqs:=s.eqs++[e.2.s]}
 else{s with da:=s.da++[e.1],binds:=s.binds++[e.2.s]}
def RD:SS:=⟨[],[],[],[],[],[]⟩
def ff:List AV->Int->List (Int×AT)
 |[],_=>[]
 |t::l,i=>bif decide (toInt (ae t 0)=4) then ff l (i+1) else(i,xz t)::ff l (i+1)
def Cx(l:List (Int×AT)):List AV:=l.map fun e=> .bh [.int e.1,cy e.2]
def jd(bd:List AV)(l:List (Int×AT)):SS:=l.foldl (Cu bd) RD
theorem BT: ∀(l:List AV) (i:Int),(ff l i).length<=l.length
 |[],_=>Nat.le_refl _
 |t::l,i=>by
  have:=BT l (i+1)
  rw[ff]
  cases decide (toInt (ae t 0)=4) with
  |true=>rw[aa8];simp only[List.length_cons];omega
  |false=>rw[aa6];simp only[List.length_cons];omega
def SS.le(s:SS)(n:Nat):Prop:=s.eT.length<=n/\s.dm.length<=n/\s.da.length<=n/\s.binds.length<=n/\s.df.length<=n/\s.eqs.length<=n
theorem RH:RD.le 0:=⟨Nat.le_refl _,Nat.le_refl _,Nat.le_refl _,Nat.le_refl _,Nat.le_refl _,Nat.le_refl _⟩
theorem NQ{bd:List AV}{s:SS}{n:Nat}(h:s.le n)(e:Int×AT):(Cu bd s e).le (n+1):=by
 obtain⟨h1,h2,h3,h4,h5,h6⟩:=h
 unfold Cu SS.le
 cases !Dr bd e.2 with
 |true=>simp only[aa8,ab9,List.length_singleton];omega
 |false=>
  cases lO e.2.s (strs s.binds) with
  |true=>simp only[aa8,aa6,ab9,List.length_singleton];omega
  |false=>simp only[aa6,ab9,List.length_singleton];omega
theorem PI{bd:List AV}: ∀(l:List (Int×AT)) {s:SS} {n:Nat},s.le n->(l.foldl (Cu bd) s).le (n+l.length)
 |[],_,_,h=>h
 |e::l,s,n,h=>by
  have:=PI (bd:=bd) l (NQ (bd:=bd) h e)
  rw[List.foldl_cons,List.length_cons]
  rw[show n+(l.length+1)=n+1+l.length by omega];exact this
abbrev WT(op th rl:Int)(s:SS)(t:ByteArray)(X Y:AV):AV:= .agg [.int op, .int th, .int rl, .ad 3 (iA s.eT), .ad 56 s.dm, .ad 3 (iA s.da), .ad 9 (strs s.binds), .ad 3 (iA s.df), .ad 9 (strs s.eqs), .lit (.string t),X,Y]
def zT:AT:=⟨0,ByteArray.mk #[],0,[]⟩
def yE(t:AT):AT:=⟨t.op,t.s,t.n,c9 (aa t.l)⟩
structure SD where
 op:Int
 th:Int
 rl:Int
 q:SS
 t:ByteArray
 X:AT
 Y:AT
abbrev VT(d:SD):AV:=WT d.op d.th d.rl d.q d.t (cy d.X) (cy d.Y)
def tD(ds bd:List AV)(rel:ByteArray)(l:List AV)(op:Int)(u v:AT):SD:=
 bif op==2 then⟨2,0,bw rel ds,jd bd (ff l 0),ByteArray.mk #[],zT,zT⟩
 else bif op==1 then⟨1,0,bw rel ds,jd bd (ff l 0),ByteArray.mk #[],zT,zT⟩
 else bif op==3 then(bif Dr bd u then⟨4,0,0,RD,u.s,yE v,zT⟩ else bif Dr bd v then⟨4,0,0,RD,v.s,yE u,zT⟩ else⟨3,op,0,RD,ByteArray.mk #[],yE u,yE v⟩)
 else bif op==4||(op==5||op==6) then⟨3,op,0,RD,ByteArray.mk #[],yE u,yE v⟩
 else bif Dr bd u then⟨5,op,bw rel ds,jd bd (ff l 0),u.s,zT,v⟩
 else⟨5,op,bw rel ds,jd bd (ff l 0),ByteArray.mk #[],u,v⟩
def JJ(ds bd:List AV)(l:AV):SD:=tD ds bd (toStr (ae (ae l 1) 0)) (ai (ae (ae l 1) 1)) (toInt (ae l 0)) (xz (ae l 2)) (xz (ae l 3))
structure QD where
 rel:Int
 steps:List AV
 out:List AV
 delta:Int
abbrev qA(q:QD):AV:= .agg [.int q.rel, .ad 58 q.steps, .ad 56 q.out, .int q.delta]
def xx(q:QD)(g:List Int):List AV->Int->List QD
 |[],_=>[]
 |s::l,i=>bif decide (toInt (ae s 0)=1)&&g.contains (toInt (ae s 2)) then{q with delta:=i}::xx q g l (i+1) else xx q g l (i+1)
def IS(mk:AV->QD)(hd:AV->Int)(ag:AV->Bool)(g:List Int):List AV->List QD
 |[]=>[]
 |r::rs=>bif g.contains (hd r)&& !ag r then mk r::IS mk hd ag g rs else IS mk hd ag g rs
def Jj(mk:AV->QD)(hd:AV->Int)(ag:AV->Bool)(g:List Int):List AV->List QD
 |[]=>[]
 |r::rs=>(bif g.contains (hd r)&&ag r then xx (mk r) g (mk r).steps 0 else[])++Jj mk hd ag g rs
theorem qB{q:QD}{g:List Int}: ∀{l:List AV} {i:Int} {x:QD},x∈xx q g l i->x.rel=q.rel/\x.steps=q.steps/\x.out=q.out
 |[],_,_,h=>by simp[xx] at h
 | s::l,i,x,h=>by
  rw[xx] at h
  cases e:(decide (toInt (ae s 0)=1)&&g.contains (toInt (ae s 2))) with
  |true=>
   rw[e,aa8] at h
   rcases List.mem_cons.1 h with rfl|h
   ·exact⟨rfl,rfl,rfl⟩
   ·exact qB h
  |false=>rw[e,aa6] at h;exact qB h
theorem qy{mk:AV->QD}{hd:AV->Int}{ag:AV->Bool}{g:List Int}: ∀{rs:List AV} {x:QD},x∈IS mk hd ag g rs->∃r,r∈rs/\hd r∈g/\ag r=false/\x=mk r
 |[],_,h=>by simp[IS] at h
 | r::rs,x,h=>by
  rw[IS] at h
  cases e:(g.contains (hd r)&& !ag r) with
  | true=>
   rw[e,aa8] at h
   rcases List.mem_cons.1 h with rfl|h
   ·simp only[aa2,List.contains_eq_mem,aa1,Bool.not_eq_true'] at e
    exact⟨r,by simp,e.1,e.2,rfl⟩
   ·obtain⟨r',h1,h2⟩:=qy h
    exact⟨r',by simp[h1],h2⟩
  |false=>
   rw[e,aa6] at h
   obtain⟨r',h1,h2⟩:=qy h
   exact⟨r',by simp[h1],h2⟩
theorem ui{mk:AV->QD}{hd:AV->Int}{ag:AV->Bool}{g:List Int}: ∀{rs:List AV} {x:QD},x∈Jj mk hd ag g rs->∃r,r∈rs/\hd r∈g/\ag r=true/\x∈xx (mk r) g (mk r).steps 0
 |[],_,h=>by simp[Jj] at h
 | r::rs,x,h=>by
  rw[Jj] at h
  rcases List.mem_append.1 h with h|h
  ·cases e:(g.contains (hd r)&&ag r) with
   |true=>
    rw[e,aa8] at h
    simp only[aa2,List.contains_eq_mem,aa1] at e
    exact⟨r,by simp,e.1,e.2,h⟩
   |false=>rw[e] at h;simp at h
  ·obtain⟨r',h1,h2⟩:=ui h
   exact⟨r',by simp[h1],h2⟩
end Go.Proofs.YthaiinlfnommnaaGreatDoor
namespace Go.Proofs.YthaiinlfnommnaaGreatDoor
open Go Go.Dn Go.Rl Go.Proofs
attribute [local irreducible] a8 vc
set_option maxRecDepth 20000
noncomputable def BH(κ:Kp):EB:=EB.calm ⟨Yi κ,eHg κ,mHg κ⟩ [37,888888]
theorem yRc(κ:Kp)(ds rs:List AV)(k:Int)(K:AV->List Dn.Obj->Prop):(a8 (BH κ).E 12 18 [gJ ds rs, .int k] [] K)=(
 letI z1:=nth rs k.toNat
 letI z2:=decide ((0:Int)<=k)&&decide (k<(↑(rs.length):Int))
 letI z3:=toStr (ae (ae z1 0) 0)
 letI z4:=ai (ae (ae z1 0) 1)
 letI z5:=toInt (ae z1 2)
 letI z6:=ai (ae z1 1)
 ∃(e3:Wg),([AV.agg [AV.ad 61 ds,AV.ad 66 rs],AV.int k,AV.int k,AV.int (↑(rs.length):Int)],[])=RS e3/\Ex e3/\aD (xl e3.ds e3.rs e3.a e3.b e3.n !=
 (0:Int)) (K (AV.bh [AV.bool false,AV.int (xl e3.ds e3.rs e3.a e3.b e3.n)]) []) ((∃(e2:rT),([AV.agg [AV.ad 61 ds,AV.ad 66 rs]],[])=M8 e2/\pN e2.1
 e2.2/\aD (Nat.beq e2.1.length 0) (aX z2 (∃(e1:A6),([AV.ptr 0 0 [] 0,AV.agg [AV.ad 61 ds,AV.ad 66 rs],AV.agg [AV.agg [AV.str z3,AV.ad 56 z4],AV.ad 72
 z6,AV.int z5],AV.bL 44 []],[Obj.box 122 (AV.agg [AV.an 1 0 e2.1.length,AV.nil]),Obj.rows 38 3 (dz (ph e2.1 e2.2)) none])=xL e1/\(e1.h=bw e1.a.rel
 e1.ds/\((0:Int)<=e1.h/\e1.h<(↑(e1.n):Int))/\e1.ds.length<=9223372036854775807/\List.length e1.a.bl<=9223372036854775807/\∀(e0:AV),List.Mem e0
 e1.a.bl->fZ (toInt (ae e0 0))=true->(0:Int)<=bw (toStr (ae (ae e0 1) 0)) e1.ds/\bw (toStr (ae (ae e0 1) 0)) e1.ds<(↑(e1.n):Int))/\K (AV.bh [AV.bool
 (jh fZ e1.n e1.m e1.L e1.ds e1.h e1.a.bl),AV.int 0]) [])) (aX z2 (∃(e1:A6),([AV.ptr 0 0 [] 0,AV.agg [AV.ad 61 ds,AV.ad 66 rs],AV.agg [AV.agg [AV.str z3,
 AV.ad 56 z4],AV.ad 72 z6,AV.int z5],AV.bL 44 []],[Obj.box 122 (AV.agg [AV.an 1 0 e2.1.length,AV.an 2 0 (List.length (br e2.1.length (jK e2.1 e2.2) (ph e2.1
 e2.2) e2.1.length))]),Obj.rows 38 3 (dz (ph e2.1 e2.2)) none,Obj.row 89 (br e2.1.length (jK e2.1 e2.2) (ph e2.1 e2.2) e2.1.length)])=xL e1/\(e1.h=bw
 e1.a.rel e1.ds/\((0:Int)<=e1.h/\e1.h<(↑(e1.n):Int))/\e1.ds.length<=9223372036854775807/\List.length e1.a.bl<=9223372036854775807/\∀(e0:AV),
 List.Mem e0 e1.a.bl->fZ (toInt (ae e0 0))=true->(0:Int)<=bw (toStr (ae (ae e0 1) 0)) e1.ds/\bw (toStr (ae (ae e0 1) 0)) e1.ds<(↑(e1.n):Int))/\K
 (AV.bh [AV.bool (jh fZ e1.n e1.m e1.L e1.ds e1.h e1.a.bl),AV.int 0]) [])))/\aX z2 (∃(e2:rT),([AV.agg [AV.ad 61 ds,AV.ad 66 rs]],[])=M8 e2/\pN e2.1
 e2.2/\aD (Nat.beq e2.1.length 0) (∃(e1:A6),([AV.ptr 0 0 [] 0,AV.agg [AV.ad 61 ds,AV.ad 66 rs],AV.agg [AV.agg [AV.str z3,AV.ad 56 z4],AV.ad 72 z6,
 AV.int z5],AV.bL 44 []],[Obj.box 122 (AV.agg [AV.an 1 0 e2.1.length,AV.nil]),Obj.rows 38 3 (dz (ph e2.1 e2.2)) none])=xL e1/\(e1.h=bw e1.a.rel e1.ds/\
 ((0:Int)<=e1.h/\e1.h<(↑(e1.n):Int))/\e1.ds.length<=9223372036854775807/\List.length e1.a.bl<=9223372036854775807/\∀(e0:AV),List.Mem e0 e1.a.bl
 ->fZ (toInt (ae e0 0))=true->(0:Int)<=bw (toStr (ae (ae e0 1) 0)) e1.ds/\bw (toStr (ae (ae e0 1) 0)) e1.ds<(↑(e1.n):Int))/\K (AV.bh [AV.bool (jh fZ
 e1.n e1.m e1.L e1.ds e1.h e1.a.bl),AV.int 0]) []) (∃(e1:A6),([AV.ptr 0 0 [] 0,AV.agg [AV.ad 61 ds,AV.ad 66 rs],AV.agg [AV.agg [AV.str z3,AV.ad 56 z4],
 AV.ad 72 z6,AV.int z5],AV.bL 44 []],[Obj.box 122 (AV.agg [AV.an 1 0 e2.1.length,AV.an 2 0 (List.length (br e2.1.length (jK e2.1 e2.2) (ph e2.1 e2.2)
 e2.1.length))]),Obj.rows 38 3 (dz (ph e2.1 e2.2)) none,Obj.row 89 (br e2.1.length (jK e2.1 e2.2) (ph e2.1 e2.2) e2.1.length)])=xL e1/\(e1.h=bw e1.a.rel
 e1.ds/\((0:Int)<=e1.h/\e1.h<(↑(e1.n):Int))/\e1.ds.length<=9223372036854775807/\List.length e1.a.bl<=9223372036854775807/\∀(e0:AV),List.Mem e0
 e1.a.bl->fZ (toInt (ae e0 0))=true->(0:Int)<=bw (toStr (ae (ae e0 1) 0)) e1.ds/\bw (toStr (ae (ae e0 1) 0)) e1.ds<(↑(e1.n):Int))/\K (AV.bh [AV.bool
 (jh fZ e1.n e1.m e1.L e1.ds e1.h e1.a.bl),AV.int 0]) [])))):=by kernel_rfl
def Sn(ds rs:List AV)(k:Int):Bool:=decide (xl ds rs k k rs.length=0)&&GJ fZ ds.length (jK ds rs) (ph ds rs) ds (nth rs k.toNat)
structure Wj where
 ds:List AV
 rs:List AV
 k:Int
def Uy(x:Wj):List AV×List Dn.Obj:=([gJ x.ds x.rs, .int x.k],[])
def Mv(x:Wj):Prop:=fE x.ds x.rs
def Px(x:Wj):Out (AV×List Dn.Obj):= .one (.bh [.bool (Sn x.ds x.rs x.k), .int (xl x.ds x.rs x.k x.k x.rs.length)],[])
theorem cRc(κ:Kp):bt (BH κ).E 12 18 (aL Uy Mv Px):=by
 refine aZ ?_
 rintro⟨ds,rs,k⟩ K hs ho
 refine Eq.mpr (yRc κ ds rs k K) ?_
 simp only[Px,Out.run,Sn] at ho
 refine⟨⟨ds,rs,k,k,rs.length⟩,rfl,hs,?_⟩
 rw[ah]
 refine⟨fun e=>?_,fun e=>?_⟩
 ·have e:xl ds rs k k rs.length≠0:=by simpa using e
  rw[aa5 e,Bool.false_and] at ho
  exact ho
 ·have e:xl ds rs k k rs.length=0:=by simpa using e
  obtain⟨hc,ha,_⟩:=NX e
  rw[e] at ho
  have hf:=il hc
  have hk:k.toNat<rs.length:=by omega
  have hx:nth rs k.toNat∈rs:=by rw[bf _ _ hk];exact List.getElem_mem _
  have hG:=vv hs hc _ hx
  have hn:Nat.beq ds.length 0=false:=by
   have h1:0<=yy ds (nth rs k.toNat)/\yy ds (nth rs k.toNat)<ds.length:=hG.hd
   rw[Bool.eq_false_iff]
   exact fun h=>by have:=Nat.eq_of_beq_eq_true h;omega
  have hi:(decide (0<=k)&&decide (k<(rs.length:Int)))=true:=by simp[ha]
  have hd:ds.length<=aR:=hs.1
  refine⟨⟨(ds,rs),rfl,hf,?_⟩,aq.2 ⟨hi,(ds,rs),rfl,hf,?_⟩⟩<;>rw[ah]
  ·exact⟨fun e=>absurd (hn.symm.trans e) (by decide),fun _=>aq.2 ⟨hi,⟨ds.length,jK ds rs,ph ds rs,ds,rs,ez (nth rs k.toNat),yy ds (nth rs k.toNat)⟩,rfl,⟨rfl,hG.hd,hd,hG.le,fun l hl h=>hG.at_ l hl (wS h)⟩,ho⟩⟩
  ·exact⟨fun e=>absurd (hn.symm.trans e) (by decide),fun _=>⟨⟨ds.length,jK ds rs,ph ds rs,ds,rs,ez (nth rs k.toNat),yy ds (nth rs k.toNat)⟩,rfl,⟨rfl,hG.hd,hd,hG.le,fun l hl h=>hG.at_ l hl (wS h)⟩,ho⟩⟩
noncomputable def Si(κ:Kp):EB:=(BH κ).call (cRc κ)
def HK(l:List AV):List AV×List Dn.Obj:=([.ad 56 l],[])
def Kb(n:Nat)(l:List AV):Prop:=a6 (aa l)=n/\n<=100000
def GD(l:List AV):Out (AV×List Dn.Obj):= .one (.ad 56 (c9 (aa l)),[])
def NJ(n:Nat):dr:=aL HK (Kb n) GD
noncomputable def O0(κ:Kp)(r:Nat):Env:=(Si κ).E.ax 76 fun args st K=>∃m,m<r/\NJ m args st K
theorem xCp(κ:Kp)(r:Nat)(l:List AV)(i:Int)(xs:List AV)(k:Nat)(I:Nat->S->Prop)(n:Nat)(K:Exit->S->Prop):(vc (O0 κ r) 12 76 none 0 (af (Pr κ).toProgram 76 3) (sp 19 [(3, .an 0 0 k),(6, .ad 56 l),(7, .int l.length),(8, .int i)] [.row 56 xs]) (bK (O0 κ r) 76 3 0 I n K))=(
 letI z1:=nth l i.toNat
 letI z2:=i<(↑(l.length):Int)
 aD (decide z2) (aX (decide ((0:Int)<=i)&&decide z2) (∃(e2:Nat),e2<r/\∃(e1:List AV),([AV.ad 56 (ai (ae z1 3))],[])=HK e1/\Kb e2 e1/\aX
 (decide ((k+1+1)*57<=70368744177664)) (∃(e0:Nat),e0<n/\I e0 (sp 19 [(3,AV.an 0 0 (k+1)),(6,AV.ad 56 l),(7,AV.int (↑(l.length):Int)),(8,
 AV.int (IntKind.wrap IntKind.i64 (i+(1:Int))))] [Obj.row 56 (List.take k xs++[AV.agg [AV.int (toInt (ae z1 0)),AV.str (toStr (ae z1 1)),AV.int (toInt
 (ae z1 2)),AV.ad 56 (c9 (aa e1))]])])))) (K (Exit.exit 0) (sp 19 [(3,AV.an 0 0 k)] [Obj.row 56 xs]))):=by kernel_rfl
theorem QB(x:AV):O3 (cR x)= .agg [.int (toInt (ae x 0)), .lit (.string (toStr (ae x 1))), .int (toInt (ae x 2)), .ad 56 (c9 (aa (ai (ae x 3))))]:=by
 rw[dh,O3]
theorem Mu(l:List AV)(i:Nat)(h:i<l.length):c9 (aa (l.take (i+1)))=c9 (aa (l.take i))++[O3 (cR (nth l i))]:=by
 rw[List.take_add_one,ab7 h,←bf l i h]
 simp[aa,yK,c9]
theorem Nw(l:List AV):(c9 (aa l)).length=l.length:=by rw[xX,eP]
abbrev He(a:List AV×Nat):S:=sp 19 [(3, .an 0 0 (c9 (aa (a.1.take a.2))).length),(6, .ad 56 a.1),(7, .int a.1.length),(8, .int a.2)] [.row 56 (c9 (aa (a.1.take a.2)))]
def AN(r:Nat)(a:List AV×Nat):Prop:=a.2<=a.1.length/\a.1.length<=100000/\a6 (aa (a.1.drop a.2))<=r/\r<=100000
def MX(a:List AV×Nat):Out (Exit×S):= .one (.exit 0,sp 19 [(3, .an 0 0 (c9 (aa a.1)).length)] [.row 56 (c9 (aa a.1))])
theorem lCp(κ:Kp)(r:Nat):bj (O0 κ r) 12 76 3 (aO 0 He (AN r) MX):=by
 refine aK (fun a=>a.1.length - a.2) ?_
 rintro⟨l,i⟩ K ⟨h1,h2,h3,h4⟩ ho
 simp only at h1 h2 h3
 rw[show(O0 κ r).P=Pr κ from rfl]
 refine Eq.mpr (xCp κ r l i (c9 (aa (l.take i))) (c9 (aa (l.take i))).length _ _ K) ?_
 rw[ah,aa1,aa3]
 refine⟨fun h=>aq.2 ⟨by simp;omega,?_⟩,fun h=>?_⟩
 ·have hk:i<l.length:=by omega
  have hc:=Gz l i hk
  have he:=Mu l i hk
  rw[Int.toNat_natCast]
  refine⟨_,?_,ai (ae (nth l i) 3),rfl,⟨rfl,by omega⟩,aq.2 ⟨?_,_,?_,(l,i+1),?_,⟨hk,h2,by simp only;omega,h4⟩,rfl,ho⟩⟩
  ·simp only[Nat.lt_iff_add_one_le];omega
  ·rw[aa1,Nw,List.length_take];omega
  ·simp only;omega
  ·simp only[He]
   rw[he,←QB,List.take_length,aW (n:=(i:Int)+1) (by omega) (by omega),ab9]
   rfl
 ·obtain rfl:i=l.length:=by omega
  rw[List.take_length];exact ho
noncomputable def Sj(κ:Kp)(r:Nat):Env:=(O0 κ r).ak 76 3 (aO 0 He (AN r) MX)
theorem yCp(κ:Kp)(r:Nat)(l:List AV)(K:AV->List Dn.Obj->Prop):(a8 (Sj κ r) 12 76 [.ad 56 l] [] K)=(
 letI z1:=Pg.toProgram (Env.P (O0 κ r))
 af z1 76 3=af z1 76 3/\∃(e0:List AV×Nat),sp 19 [(3,AV.an 0 0 0),(6,AV.ad 56 l),(7,AV.int (↑(l.length):Int)),(8,AV.int 0)] [Obj.row 56 []]=He
 e0/\AN r e0/\K (AV.ad 56 (List.take (List.length (c9 (aa e0.1))) (List.drop 0 (c9 (aa e0.1))))) []):=by kernel_rfl
theorem eCq(κ:Kp)(r:Nat)(hp: ∀args st K,(∃m,m<r/\NJ m args st K)->cM (Pr κ) 76 args st K):aB (Sj κ r)/\aj (Sj κ r)/\(Sj κ r).P=Pr κ:=
 have h:aB (O0 κ r):=(Si κ).ok.gZ hp
 have hm:aj (O0 κ r):=(Si κ).mono.ax (fun _ _ _ _ hK ⟨m,h1,h2⟩=>⟨m,h1,aJ _ _ _ _ hK h2⟩)
 ⟨h.ak hm (lCp κ r),hm.ak aG,rfl⟩
theorem cCp(κ:Kp)(r:Nat):bt (Sj κ r) 12 76 (NJ r):=by
 refine aZ ?_
 rintro l K ⟨h1,h2⟩ ho
 refine Eq.mpr (yCp κ r l K) ?_
 have:=fA (aa l)
 rw[eP] at this
 refine⟨rfl,(l,0),rfl,⟨Nat.zero_le _,by simp only;omega,by simp only[ab1];omega,h2⟩,?_⟩
 simp only[GD,Out.run] at ho
 rw[ab1,List.take_length]
 exact ho
def AP(l:List AV):Prop:=a6 (aa l)<=100000
theorem qCp(κ:Kp): ∀args st K,aL HK AP GD args st K->cM (Pr κ) 76 args st K:=by
 rintro args st K ⟨l,h1,h2,h3⟩
 exact aB.tX NJ (Sj κ) (eCq κ) (cCp κ) (a6 (aa l)) args st K ⟨l,h1,⟨rfl,h2⟩,h3⟩
noncomputable def R7(κ:Kp):EB:=⟨(Si κ).E.ax 76 (aL HK AP GD),(Si κ).ok.gZ (qCp κ),(Si κ).mono.ax aJ⟩
structure VL where
 rel:ByteArray
 l:List AV
 xs:List AV
 i:Nat
abbrev Mf(x:VL):S:=sp 24 [(0, .cD 0),(6, .ad 56 x.l),(7, .int x.l.length),(8, .int x.i)] [.ext (some x.xs), .box 63 (.agg [.lit (.string x.rel), .ad 56 x.l])]
theorem xCl(κ:Kp)(x:VL)(I:Nat->S->Prop)(n:Nat)(K:Exit->S->Prop):(vc (R7 κ).E 12 241 none 2 (af (Pr κ).toProgram 241 1) (Mf x) (bK (R7 κ).E 241 1 2 I n K))=(
 letI z1:=nth x.l (Int.toNat (↑(x.i):Int))
 letI z2:=AV.agg [AV.str x.rel,AV.ad 56 x.l]
 letI z3:=IntKind.wrap IntKind.i64 ((↑(x.i):Int)+(1:Int))
 letI z4:=(↑(x.i):Int)<(↑(x.l.length):Int)
 aD (decide z4) (aX (true&&decide z4) (aD (toInt (ae z1 0) != (4:Int)) (∃(e1:List AV),x.xs=AV.bh [AV.int (↑(x.i):Int),AV.agg [AV.int (toInt (ae z1
 0)),AV.str (toStr (ae z1 1)),AV.int (toInt (ae z1 2)),AV.ad 56 (ai (ae z1 3))]]::e1/\(∃(e0:Nat),e0<n/\I e0 (sp 24 [(0,AV.cD 0),(6,AV.ad 56 x.l),
 (7,AV.int (↑(x.l.length):Int)),(8,AV.int z3)] [Obj.ext (some e1),Obj.box 63 z2]))/\K Exit.ret (sp 24 [] [Obj.ext none,Obj.box 63 z2])) (∃(e0:Nat),e0
 <n/\I e0 (sp 24 [(0,AV.cD 0),(6,AV.ad 56 x.l),(7,AV.int (↑(x.l.length):Int)),(8,AV.int z3)] [Obj.ext (some x.xs),Obj.box 63 z2])))) (K (Exit.exit 0)
 (sp 24 [] [Obj.ext (some x.xs),Obj.box 63 z2]))):=by kernel_rfl
def EC(x:VL):Prop:=x.l.length<=100000/\x.i<=x.l.length/\x.xs=Cx (ff (x.l.drop x.i) x.i)
def Pp(x:VL):Out (Exit×S):= .all (fun _:Bool=>True) fun b=> .aD b
 (.one (.exit 0,sp 24 [] [.ext (some []), .box 63 (.agg [.lit (.string x.rel), .ad 56 x.l])]))
 (.one (.ret,sp 24 [] [.ext none, .box 63 (.agg [.lit (.string x.rel), .ad 56 x.l])]))
theorem L5(l:List AV)(i:Nat)(h:i<l.length):ff (l.drop i) i=bif decide (toInt (ae (nth l i) 0)=4) then ff (l.drop (i+1)) ((i+1:Nat):Int) else((i:Int),xz (nth l i))::ff (l.drop (i+1)) ((i+1:Nat):Int):=by
 rw[ab2 h,←bf l i h,ff];rfl
theorem lCl(κ:Kp):bj (R7 κ).E 12 241 1 (aO 2 Mf EC Pp):=by
 refine aK (fun x=>x.l.length - x.i) ?_
 rintro⟨rel,l,xs,i⟩ K ⟨h1,h2,h3⟩ ho
 simp only at h1 h2 h3
 rw[show(R7 κ).E.P=Pr κ from rfl]
 refine Eq.mpr (xCl κ ⟨rel,l,xs,i⟩ _ _ K) ?_
 have ho1:=ho true trivial
 have ho2:=ho false trivial
 simp only[Out.run,aD] at ho1 ho2
 rw[ah,aa1,aa3]
 refine⟨fun h=>aq.2 ⟨by simp at h⊢;omega,?_⟩,fun h=>?_⟩
 ·have hk:i<l.length:=by simp only at h;omega
  have hd:=L5 l i hk
  rw[hd] at h3
  have next: ∀ys,ys=Cx (ff (l.drop (i+1)) ((i+1:Nat):Int))->∃m,m<l.length - i/\fq Mf EC Pp (fun x=>x.l.length - x.i) K m (Mf ⟨rel,l,ys,i+1⟩):=fun ys hy=>
   ⟨_,by simp only;omega,⟨rel,l,ys,i+1⟩,rfl,⟨h1,hk,hy⟩,rfl,ho⟩
  simp only[Int.toNat_natCast]
  rw[aW (n:=(i:Int)+1) (by omega) (by omega),ah]
  refine⟨fun e=>?_,fun e=>?_⟩
  ·rw[aa5 (by simpa using e),aa6] at h3
   exact⟨_,h3,next _ rfl,ho2⟩
  ·rw[aa7 (by simpa using e),aa8] at h3
   exact next _ h3
 ·have hk:i=l.length:=by simp only at h;omega
  rw[aa9 (by omega)] at h3
  have h3:xs=[]:=h3
  subst h3
  exact ho1
noncomputable def Yw(κ:Kp):EB:=(R7 κ).loop (lCl κ)
theorem yCl(κ:Kp)(l xs:List AV)(rel:ByteArray)(K:AV->List Dn.Obj->Prop):(a8 (Yw κ).E 12 241 [.cD 0, .ptr 1 0 [] 0] [.ext (some xs), .box 63 (.agg [.lit (.string rel), .ad 56 l])] K)=(
 letI z1:=Pg.toProgram (Env.P (EB.E (R7 κ)))
 af z1 241 1=af z1 241 1/\∃(e1:VL),sp 24 [(0,AV.cD 0),(6,AV.ad 56 l),(7,AV.int (↑(l.length):Int)),(8,AV.int 0)] [Obj.ext (some xs),Obj.box 63
 (AV.agg [AV.str rel,AV.ad 56 l])]=Mf e1/\EC e1/\∀(e0:Bool),True->aD e0 (K (AV.bh []) [Obj.ext (some []),Obj.box 63 (AV.agg [AV.str e1.rel,AV.ad 56
 e1.l])]) (K (AV.bh []) [Obj.ext none,Obj.box 63 (AV.agg [AV.str e1.rel,AV.ad 56 e1.l])])):=by kernel_rfl
abbrev WM:=ByteArray×List AV
def Pk(x:WM):List AV×List Dn.Obj:=([.cD 0, .ptr 1 0 [] 0],[.ext (some (Cx (ff x.2 0))), .box 63 (.agg [.lit (.string x.1), .ad 56 x.2])])
def Hn(x:WM):Prop:=x.2.length<=100000
def JG(_:WM):Out (AV×List Dn.Obj):= .all (fun st'=>rA st') fun st'=> .one (.bh [],st')
theorem cCl(κ:Kp):bt (Yw κ).E 12 241 (aL Pk Hn JG):=by
 refine aZ ?_
 rintro⟨rel,l⟩ K h1 ho
 refine Eq.mpr (yCl κ l (Cx (ff l 0)) rel K) ?_
 refine⟨rfl,⟨rel,l,Cx (ff l 0),0⟩,rfl,⟨h1,Nat.zero_le _,rfl⟩,fun y _=>?_⟩
 cases y
 ·exact ho _ trivial
 ·exact ho _ trivial
noncomputable def Xl(κ:Kp):EB:=(Yw κ).call (cCl κ)
theorem Xd(κ:Kp)(t:AT)(K:AV->List Dn.Obj->Prop):(a8 (Xl κ).E 12 120 [cy t] [] K)=(
 ∃(a:List AV),([AV.ad 56 t.l],[])=HK a/\AP a/\K (AV.agg [AV.int t.op,AV.str t.s,AV.int t.n,AV.ad 56 (c9 (aa a))]) []):=by kernel_rfl
def iG(t:AT):List AV×List Dn.Obj:=([cy t],[])
def RW(t:AT):Out (AV×List Dn.Obj):= .one (RJ t,[])
theorem XO(κ:Kp):bt (Xl κ).E 12 120 (aL iG (fun t=>t.tm.jf<=100000) RW):=by
 refine aZ ?_
 rintro t K h ho
 refine Eq.mpr (Xd κ t K) ?_
 have hc:t.tm.jf=1+a6 (aa t.l):=by rw[AT.tm,Tm.jf]
 exact⟨t.l,rfl,by show a6 (aa t.l)<=100000;omega,ho⟩
noncomputable def Ss(κ:Kp):EB:=(((Xl κ).call (XO κ)).Tu [120]).calm [120,76,56]
structure tk where
 ds:List AV
 rs:List AV
 bd:List AV
 rel:ByteArray
 l:List AV
 op:Int
 th:Int
 rl:Int
 s:ByteArray
 u:AT
 v:AT
abbrev Sx(x:tk):Dn.Obj:= .box 131 (.agg [gJ x.ds x.rs, .ad 9 x.bd])
abbrev Ue(x:tk):Dn.Obj:= .box 63 (.agg [.lit (.string x.rel), .ad 56 x.l])
abbrev QZ(x:tk)(rl:Int)(a b c d e f:AV):Dn.Obj:= .box 58 (.agg [.int x.op, .int x.th, .int rl,a,b,c,d,e,f, .lit (.string x.s),cy x.u,cy x.v])
noncomputable abbrev R4(κ:Kp)(x:tk):Dn.Obj:=
 .loop (gl (Pr κ).toProgram 126 3 .ready none (fW (bG 102) [(0, .ptr 0 0 [] 0),(1, .agg [.lit (.string x.rel), .ad 56 x.l]),(2, .ptr 1 0 [] 0),(3, .ptr 2 0 [] 0),(4, .ptr 3 0 [] 0),(5, .ptr 4 0 [] 0),(8, .bh [.int (bw x.rel x.ds), .bool (fB x.rel x.ds)]),(9, .ptr 1 0 [] 0),(10, .ptr 0 0 [] 0),(11, .ptr 0 0 [] 0),(12, .ptr 0 0 [0] 0),(13, .ptr 0 0 [0,0] 0),(14, .ad 61 x.ds),(15, .ptr 3 0 [0] 0),(16, .lit (.string x.rel)),(17, .bh [.int (bw x.rel x.ds), .bool (fB x.rel x.ds)]),(18, .int (bw x.rel x.ds)),(19, .bool (fB x.rel x.ds)),(20, .ptr 1 0 [] 0),(21, .ptr 1 0 [2] 2),(22, .agg [.lit (.string x.rel), .ad 56 x.l]),(23, .bL 241 [.ptr 5 0 [] 0])]))
noncomputable abbrev nK(κ:Kp)(x:tk):List Dn.Obj:=[Sx x,QZ x (bw x.rel x.ds) .nil .nil .nil .nil .nil .nil, .box 129 (.ptr 0 0 [] 0),Ue x, .box 186 (.ptr 1 0 [] 0),Ue x,R4 κ x]
noncomputable abbrev U0(κ:Kp)(x:tk):List Dn.Obj:=[Sx x,QZ x (bw x.rel x.ds) .nil .nil .nil .nil .nil .nil, .box 129 (.ptr 0 0 [] 0),Ue x, .box 186 (.ptr 1 0 [] 0), .dead,R4 κ x]
noncomputable abbrev lC(κ:Kp)(x:tk)(q:SS):List Dn.Obj:=[Sx x,QZ x (bw x.rel x.ds) (.an 7 0 (iA q.eT).length) (.an 8 0 q.dm.length) (.an 9 0 (iA q.da).length) (.an 10 0 (strs q.binds).length) (.an 11 0 (iA q.df).length) (.an 12 0 (strs q.eqs).length), .box 129 (.ptr 0 0 [] 0),Ue x, .box 186 (.ptr 1 0 [] 0), .dead,R4 κ x,
 .row 3 (iA q.eT), .row 56 q.dm, .row 3 (iA q.da), .row 9 (strs q.binds), .row 3 (iA q.df), .row 9 (strs q.eqs)]
def Zd:List (Nat×Nat×TypeId):=[(1,3,3),(1,4,56),(1,5,3),(1,6,9),(1,7,3),(1,8,9)]
theorem sAm(κ:Kp)(x:tk)(Q:List Dn.Obj->Prop):(tidy (Pr κ).toProgram 7 (dV (nK κ x) (cz (nK κ x) [.ptr 5 0 [] 0])) Q)=(
 letI z1:=bw x.rel x.ds
 letI z2:=fB x.rel x.ds
 Q [Obj.box 131 (AV.agg [AV.agg [AV.ad 61 x.ds,AV.ad 66 x.rs],AV.ad 9 x.bd]),Obj.box 58 (AV.agg [AV.int x.op,AV.int x.th,AV.int z1,AV.nil,AV.nil,AV.nil,
 AV.nil,AV.nil,AV.nil,AV.str x.s,cy x.u,cy x.v]),Obj.box 129 (AV.ptr 0 0 [] 0),Obj.box 63 (AV.agg [AV.str x.rel,AV.ad 56 x.l]),Obj.box 186 (AV.ptr 1 0
 [] 0),Obj.dead,Dn.Obj.loop (gl Tryz.prog 126 3 LoopState.ready none (fW (bG 102) [(0,AV.ptr 0 0 [] 0),(1,AV.agg [AV.str x.rel,AV.ad 56 x.l]),(2,AV.ptr 1
 0 [] 0),(3,AV.ptr 2 0 [] 0),(4,AV.ptr 3 0 [] 0),(5,AV.ptr 4 0 [] 0),(8,AV.bh [AV.int z1,AV.bool z2]),(9,AV.ptr 1 0 [] 0),(10,AV.ptr 0 0 [] 0),(11,
 AV.ptr 0 0 [] 0),(12,AV.ptr 0 0 [0] 0),(13,AV.ptr 0 0 [0,0] 0),(14,AV.ad 61 x.ds),(15,AV.ptr 3 0 [0] 0),(16,AV.str x.rel),(17,AV.bh [AV.int z1,
 AV.bool z2]),(18,AV.int z1),(19,AV.bool z2),(20,AV.ptr 1 0 [] 0),(21,AV.ptr 1 0 [2] 2),(22,AV.agg [AV.str x.rel,AV.ad 56 x.l]),(23,AV.bL 241
 [AV.ptr 5 0 [] 0])]))]):=by kernel_rfl
theorem rAm(κ:Kp)(x:tk)(q:SS)(i:Int)(t:AT)(Q:List Dn.Obj->Prop)(K2:List Dn.Obj->Prop):(gW (vc (Ss κ).E 12) 6 [.int i,cy t] (lC κ x q) (fun r st''=>match r with| .lit (.bool true)=>tidy (Pr κ).toProgram 7 st'' Q| .lit (.bool false)=>K2 st''|_=>False))=(
 letI z5:=decide ((List.length (iA q.df)+1+1)*9<=70368744177664)
 letI z6:=decide ((List.length (iA q.da)+1+1)*9<=70368744177664)
 letI z7:=strs q.binds
 letI z8:=AV.agg [AV.agg [AV.ad 61 x.ds,AV.ad 66 x.rs],AV.ad 9 x.bd]
 letI z9:=AV.agg [AV.str x.rel,AV.ad 56 x.l]
 letI z10:=strs q.eqs
 letI z11:=bw x.rel x.ds
 letI z12:=List.length z7
 letI z13:=List.length (iA q.eT)
 letI z14:=List.length (iA q.df)
 letI z15:=List.length (iA q.da)
 letI z16:=List.take z12 (List.drop 0 z7)
 letI z17:=List.length z10
 letI z18:=AV.ptr 0 0 [] 0
 letI z19:=AV.ptr 1 0 [] 0
 letI z20:=fB x.rel x.ds
 letI z1:=gl Tryz.prog 126 3 LoopState.ready none (fW (bG 102) [(0,AV.ptr 0 0 [] 0),(1,AV.agg [AV.str x.rel,AV.ad 56 x.l]),(2,AV.ptr 1 0 [] 0),(3,
  AV.ptr 2 0 [] 0),(4,AV.ptr 3 0 [] 0),(5,AV.ptr 4 0 [] 0),(8,AV.bh [AV.int z11,AV.bool z20]),(9,AV.ptr 1 0 [] 0),(10,AV.ptr 0 0 [] 0),(11,AV.ptr 0 0
  [] 0),(12,AV.ptr 0 0 [0] 0),(13,AV.ptr 0 0 [0,0] 0),(14,AV.ad 61 x.ds),(15,AV.ptr 3 0 [0] 0),(16,AV.str x.rel),(17,AV.bh [AV.int z11,AV.bool
  z20]),(18,AV.int z11),(19,AV.bool z20),(20,AV.ptr 1 0 [] 0),(21,AV.ptr 1 0 [2] 2),(22,AV.agg [AV.str x.rel,AV.ad 56 x.l]),(23,AV.bL 241 [AV.ptr 5 0
  [] 0])])
 letI z2:=aX (decide ((List.length z7+1+1)*17<=70368744177664)) (Q [Obj.box 131 z8,Obj.box 58 (AV.agg [AV.int x.op,AV.int x.th,AV.int z11,AV.an 7 0
  z13,AV.an 8 0 q.dm.length,AV.an 9 0 (List.length (iA q.da)+1),AV.an 10 0 (List.length z7+1),AV.an 11 0 z14,AV.an 12 0 z17,AV.str x.s,cy x.u,cy
  x.v]),Obj.box 129 z18,Obj.box 63 z9,Obj.box 186 z19,Obj.dead,Dn.Obj.loop z1,Obj.row 3 (iA q.eT),Obj.row 56 q.dm,Obj.row 3 (List.take z15 (iA q.da)++
  [AV.int i]),Obj.row 9 (List.take z12 z7++[AV.str t.s]),Obj.row 3 (iA q.df),Obj.row 9 z10])
 letI z3:=aX (decide ((List.length z10+1+1)*17<=70368744177664)) (Q [Obj.box 131 z8,Obj.box 58 (AV.agg [AV.int x.op,AV.int x.th,AV.int z11,AV.an 7 0
  z13,AV.an 8 0 q.dm.length,AV.an 9 0 z15,AV.an 10 0 z12,AV.an 11 0 (List.length (iA q.df)+1),AV.an 12 0 (List.length z10+1),AV.str x.s,cy x.u,cy
  x.v]),Obj.box 129 z18,Obj.box 63 z9,Obj.box 186 z19,Obj.dead,Dn.Obj.loop z1,Obj.row 3 (iA q.eT),Obj.row 56 q.dm,Obj.row 3 (iA q.da),Obj.row 9 z7,
  Obj.row 3 (List.take z14 (iA q.df)++[AV.int i]),Obj.row 9 (List.take z17 z10++[AV.str t.s])])
 letI z4:=aX (decide ((List.length (iA q.eT)+1+1)*9<=70368744177664)) (∃(e0:AT),([cy t],[])=iG e0/\Tm.jf (AT.tm e0)<=100000/\aX (decide
  ((q.dm.length+1+1)*57<=70368744177664)) (Q [Obj.box 131 z8,Obj.box 58 (AV.agg [AV.int x.op,AV.int x.th,AV.int z11,AV.an 7 0 (List.length (iA q.eT)+
  1),AV.an 8 0 (q.dm.length+1),AV.an 9 0 z15,AV.an 10 0 z12,AV.an 11 0 z14,AV.an 12 0 z17,AV.str x.s,cy x.u,cy x.v]),Obj.box 129 z18,Obj.box 63 z9,
  Obj.box 186 z19,Obj.dead,Dn.Obj.loop z1,Obj.row 3 (List.take z13 (iA q.eT)++[AV.int i]),Obj.row 56 (List.take q.dm.length q.dm++[AV.agg [AV.int e0.op,
  AV.str e0.s,AV.int e0.n,AV.ad 56 (c9 (aa e0.l))]]),Obj.row 3 (iA q.da),Obj.row 9 z7,Obj.row 3 (iA q.df),Obj.row 9 z10]))
 aD (t.op==(1:Int)) (aX (decide (x.bd.length<=9223372036854775807)) (aD (!!decide (eb t.s x.bd (0:Int)>=(0:Int))) z4 (aX (decide (List.length z16<=
 9223372036854775807)) (aD (decide (eb t.s z16 (0:Int)>=(0:Int))) ((aX z5 z3/\aX z5 z3)/\aX z5 z3) ((aX z6 z2/\aX z6 z2)/\aX z6 z2))))) z4):=by kernel_rfl
theorem mAm(κ:Kp)(x:tk):pC Zd (U0 κ x)=lC κ x RD:=by kernel_rfl
theorem oAm(κ:Kp)(x:tk):oi (nK κ x) [.ptr 5 0 [] 0]=true:=by kernel_rfl
theorem kAm(κ:Kp)(x:tk)(xs:List AV):(AV.cD 0::fU (jG (cz (nK κ x) [.ptr 5 0 [] 0])) [.ptr 5 0 [] 0],Obj.ext (some xs)::gA (jG (cz (nK κ x) [.ptr 5 0 [] 0])) (gT (nK κ x) (cz (nK κ x) [.ptr 5 0 [] 0])))=([.cD 0, .ptr 1 0 [] 0],[.ext (some xs),Ue x]):=by kernel_rfl
theorem GY: ∀{l:List AV} {x:AV},x∈l->(cR x).jf<=a6 (aa l)
 | a::l,x,h=>by
  rw[aa,ac1,a6]
  rcases List.mem_cons.1 h with rfl|h
  ·omega
  ·have:=GY h
   rw[aa] at this;omega
theorem Ak: ∀{l:List AV} {i:Int} {e:Int×AT},e∈ff l i->∃x,x∈l/\e.2=xz x
 |[],_,_,h=>by simp[ff] at h
 | a::l,i,e,h=>by
  rw[ff] at h
  cases hc:decide (toInt (ae a 0)=4) with
  |true=>
   rw[hc,aa8] at h
   obtain⟨x,h1,h2⟩:=Ak h
   exact⟨x,by simp[h1],h2⟩
  | false=>
   rw[hc,aa6] at h
   rcases List.mem_cons.1 h with rfl|h
   ·exact⟨a,by simp,rfl⟩
   ·obtain⟨x,h1,h2⟩:=Ak h
    exact⟨x,by simp[h1],h2⟩
structure qO(x:tk):Prop where
 hl:a6 (aa x.l)<=100000
 hb:x.bd.length<=100000
 hd:x.ds.length<=aR
noncomputable def UH(κ:Kp)(x:tk):List AV×List Dn.Obj:=([.ptr 5 0 [] 0],nK κ x)
noncomputable def TP(κ:Kp):dC:=fun caps st K=>∃x:tk,(caps,st)=UH κ x/\qO x/\K (lC κ x (jd x.bd (ff x.l 0)))
theorem I9(κ:Kp):(TP κ).ji:=by
 rintro caps st K K' hK ⟨a,h1,h2,h3⟩
 exact⟨a,h1,h2,hK _ h3⟩
theorem Rt(κ:Kp)(args:List AV)(st:List Dn.Obj)(K:AV->List Dn.Obj->Prop)(h:aL Pk Hn JG args st K):(Ss κ).E.call 241 args st K:=h
theorem X1{n:Nat}(h:n<=200000):decide ((n+1+1)*9<=70368744177664)=true:=by rw[aa1];omega
theorem TU{n:Nat}(h:n<=200000):decide ((n+1+1)*17<=70368744177664)=true:=by rw[aa1];omega
theorem W9{n:Nat}(h:n<=200000):decide ((n+1+1)*57<=70368744177664)=true:=by rw[aa1];omega
attribute [local irreducible] pC
theorem gAm(κ:Kp):wN (Ss κ).E 12 241 Zd (TP κ):=by
 rintro caps st K ⟨x,h1,hf,h5⟩
 obtain⟨rfl,rfl⟩:=Prod.mk.inj (show(caps,st)=([.ptr 5 0 [] 0],nK κ x) from h1)
 have hll:=fA (aa x.l)
 rw[eP] at hll
 have hl:=hf.hl
 have hb:=hf.hb
 have hcl:=BT x.l 0
 refine⟨Cx (ff x.l 0),fun items st'=>∃E1 E2,items=Cx E2/\st'=lC κ x (jd x.bd E1)/\E1++E2=ff x.l 0,⟨oAm κ x,?_,?_,?_,?_⟩⟩
 ·refine Rt κ _ _ _ ⟨(x.rel,x.l),?_,by show x.l.length<=100000;omega,fun st' h=>h⟩
  rw[kAm];rfl
 ·rw[show(Ss κ).E.P=Pr κ from rfl,show(nK κ x).length=7 from rfl,sAm]
  refine Exists.intro [] (Exists.intro (ff x.l 0) (And.intro (Eq.refl _) (And.intro ?_ (List.nil_append _))))
  exact mAm κ x
 ·rintro us rest st' ⟨E1,E2,e1,rfl,e3⟩
  cases E2 with
  |nil=>cases e1
  | cons e E2=>
   obtain⟨i,t⟩:=e
   obtain⟨hu,rfl⟩:=List.cons.inj e1
   obtain rfl:=AV.bh.inj hu
   rw[show(Ss κ).E.P=Pr κ from rfl,show(nK κ x).length=7 from rfl]
   rw[show(7:Nat) - 1=6 from rfl,show[AV.int (i,t).1,cy (i,t).2]=[AV.int i,cy t] from rfl]
   refine Eq.mpr (rAm κ x (jd x.bd E1) i t (fun st'=>∃F1 F2,Cx E2=Cx F2/\st'=lC κ x (jd x.bd F1)/\F1++F2=ff x.l 0) K) ?_
   have hle:(jd x.bd E1).le (0+E1.length):=PI (bd:=x.bd) E1 RH
   have hE:E1.length<=(ff x.l 0).length:=by rw[←e3];simp
   obtain⟨q1,q2,q3,q4,q5,q6⟩:=hle
   simp only[Nat.zero_add] at q1 q2 q3 q4 q5 q6
   have hc:t.tm.jf<=100000:=by
    obtain⟨y,y1,y2⟩:=Ak (show(i,t)∈ff x.l 0 by rw[←e3];simp)
    have:=GY y1
    simp only at y2
    rw[y2,oE];omega
   have next: ∀st',st'=lC κ x (Cu x.bd (jd x.bd E1) (i,t))->∃F1 F2,Cx E2=Cx F2/\st'=lC κ x (jd x.bd F1)/\F1++F2=ff x.l 0:=fun st' h=>
    ⟨E1++[(i,t)],E2,rfl,by rw[h];simp[jd],by rw[←e3];simp⟩
   generalize jd x.bd E1=q at*
   have hbd:decide (x.bd.length<=9223372036854775807)=true:=by rw[aa1];omega
   have hbn:decide ((strs q.binds).length<=9223372036854775807)=true:=by rw[aa1,aV];clear next;omega
   rw[←fo q.eT] at q1
   rw[←fo q.da] at q3
   rw[←aV q.binds] at q4
   rw[←fo q.df] at q5
   rw[←aV q.eqs] at q6
   have cA:Dr x.bd t=false->∃F1 F2,Cx E2=Cx F2/\lC κ x {q with eT:=q.eT++[i],dm:=q.dm++[RJ t]}=lC κ x (jd x.bd F1)/\F1++F2=ff x.l 0:=fun h=>next _ (by unfold Cu;simp only[h];rfl)
   have cB:Dr x.bd t=true->lO t.s (strs q.binds)=true->∃F1 F2,Cx E2=Cx F2/\lC κ x {q with df:=q.df++[i],eqs:=q.eqs++[t.s]}=lC κ x (jd x.bd F1)/\F1++F2=ff x.l 0:=fun h h2=>next _ (by unfold Cu;simp only[h,h2];rfl)
   have cC:Dr x.bd t=true->lO t.s (strs q.binds)=false->∃F1 F2,Cx E2=Cx F2/\lC κ x {q with da:=q.da++[i],binds:=q.binds++[t.s]}=lC κ x (jd x.bd F1)/\F1++F2=ff x.l 0:=fun h h2=>next _ (by unfold Cu;simp only[h,h2];rfl)
   have iA1:iA [i]=[AV.int i]:=rfl
   have st1:strs [t.s]=[AV.str t.s]:=rfl
   simp only[lC,QZ,se,ie,ab9,iA1,st1,List.length_singleton] at cA cB cC
   clear next h5 hf h1
   simp only[ab1,List.take_length]
   have b1:=X1 (n:=(iA q.eT).length) (by omega)
   have b2:=W9 (n:=q.dm.length) (by omega)
   have b3:=X1 (n:=(iA q.df).length) (by omega)
   have b4:=TU (n:=(strs q.eqs).length) (by omega)
   have b5:=X1 (n:=(iA q.da).length) (by omega)
   have b6:=TU (n:=(strs q.binds).length) (by omega)
   rw[ah]
   refine⟨fun e1=>aq.2 ⟨hbd,ah.2 ⟨fun e2=>?_,fun e2=>aq.2 ⟨hbn,ah.2 ⟨fun e3=>?_,fun e3=>?_⟩⟩⟩⟩,fun e1=>?_⟩
   ·exact aq.2 ⟨b1,t,rfl,hc,aq.2 ⟨b2,cA (by unfold Dr lO;rw[Bool.not_not] at e2;rw[e2,Bool.not_true,Bool.and_false])⟩⟩
   ·have h:=cB (by unfold Dr lO;rw[Bool.not_not] at e2;rw[e2,e1];rfl) e3
    repeat' first
     |exact aq.2 ⟨b3,aq.2 ⟨b4,h⟩⟩
     |refine And.intro ?_ ?_
   ·have h:=cC (by unfold Dr lO;rw[Bool.not_not] at e2;rw[e2,e1];rfl) e3
    repeat' first
     |exact aq.2 ⟨b5,aq.2 ⟨b6,h⟩⟩
     |refine And.intro ?_ ?_
   ·exact aq.2 ⟨b1,t,rfl,hc,aq.2 ⟨b2,cA (by unfold Dr;rw[e1,Bool.false_and])⟩⟩
 ·rintro st' ⟨E1,E2,e1,rfl,e3⟩
  obtain rfl:E2=[]:=by cases E2 with|nil=>rfl|cons _ _=>cases e1
  rw[List.append_nil] at e3
  rw[e3];exact h5
noncomputable def Yg(κ:Kp):EB:=(Ss κ).RR 126 3 (I9 κ) (gAm κ) (fun f=>jm f (241::Sc))
theorem yAm(κ:Kp)(x:tk)(K:AV->List Dn.Obj->Prop):(a8 (Yg κ).E 12 126 [.ptr 0 0 [] 0, .agg [.lit (.string x.rel), .ad 56 x.l], .ptr 1 0 [] 0] [Sx x,QZ x x.rl .nil .nil .nil .nil .nil .nil] K)=(
 letI z1:=AV.agg [AV.str x.rel,AV.ad 56 x.l]
 ∃(e1:List AV×ByteArray),([AV.ad 61 x.ds,AV.str x.rel],[])=CQ e1/\gK e1/\∃(e0:tk),([AV.ptr 5 0 [] 0],[Obj.box 131 (AV.agg [AV.agg [AV.ad 61
 x.ds,AV.ad 66 x.rs],AV.ad 9 x.bd]),Obj.box 58 (AV.agg [AV.int x.op,AV.int x.th,AV.int (bw e1.2 e1.1),AV.nil,AV.nil,AV.nil,AV.nil,AV.nil,AV.nil,
 AV.str x.s,cy x.u,cy x.v]),Obj.box 129 (AV.ptr 0 0 [] 0),Obj.box 63 z1,Obj.box 186 (AV.ptr 1 0 [] 0),Obj.box 63 z1,Dn.Obj.loop (gl Tryz.prog 126 3
 LoopState.ready none (fW (bG 102) [(0,AV.ptr 0 0 [] 0),(1,AV.agg [AV.str x.rel,AV.ad 56 x.l]),(2,AV.ptr 1 0 [] 0),(3,AV.ptr 2 0 [] 0),(4,AV.ptr 3 0 []
 0),(5,AV.ptr 4 0 [] 0),(8,AV.bh [AV.int (bw e1.2 e1.1),AV.bool (fB e1.2 e1.1)]),(9,AV.ptr 1 0 [] 0),(10,AV.ptr 0 0 [] 0),(11,AV.ptr 0 0 [] 0),(12,
 AV.ptr 0 0 [0] 0),(13,AV.ptr 0 0 [0,0] 0),(14,AV.ad 61 x.ds),(15,AV.ptr 3 0 [0] 0),(16,AV.str x.rel),(17,AV.bh [AV.int (bw e1.2 e1.1),AV.bool (fB
 e1.2 e1.1)]),(18,AV.int (bw e1.2 e1.1)),(19,AV.bool (fB e1.2 e1.1)),(20,AV.ptr 1 0 [] 0),(21,AV.ptr 1 0 [2] 2),(22,AV.agg [AV.str x.rel,AV.ad 56
 x.l]),(23,AV.bL 241 [AV.ptr 5 0 [] 0])]))])=UH κ e0/\qO e0/\K (AV.bh []) [Obj.box 131 (AV.agg [AV.agg [AV.ad 61 e0.ds,AV.ad 66 e0.rs],AV.ad 9 e0.bd]),
 Obj.box 58 (AV.agg [AV.int e0.op,AV.int e0.th,AV.int (bw e0.rel e0.ds),AV.an 2 0 (List.length (iA (SS.eT (jd e0.bd (ff e0.l (0:Int)))))),AV.an 3 0
 (List.length (SS.dm (jd e0.bd (ff e0.l (0:Int))))),AV.an 4 0 (List.length (iA (SS.da (jd e0.bd (ff e0.l (0:Int)))))),AV.an 5 0 (List.length (strs
 (SS.binds (jd e0.bd (ff e0.l (0:Int)))))),AV.an 6 0 (List.length (iA (SS.df (jd e0.bd (ff e0.l (0:Int)))))),AV.an 7 0 (List.length (strs (SS.eqs (jd e0.bd
 (ff e0.l (0:Int)))))),AV.str e0.s,cy e0.u,cy e0.v]),Obj.row 3 (iA (SS.eT (jd e0.bd (ff e0.l (0:Int))))),Obj.row 56 (SS.dm (jd e0.bd (ff e0.l (0:
 Int)))),Obj.row 3 (iA (SS.da (jd e0.bd (ff e0.l (0:Int))))),Obj.row 9 (strs (SS.binds (jd e0.bd (ff e0.l (0:Int))))),Obj.row 3 (iA (SS.df (jd e0.bd (ff
 e0.l (0:Int))))),Obj.row 9 (strs (SS.eqs (jd e0.bd (ff e0.l (0:Int)))))]):=by kernel_rfl
def yw(x:tk):List AV×List Dn.Obj:=([.ptr 0 0 [] 0, .agg [.lit (.string x.rel), .ad 56 x.l], .ptr 1 0 [] 0],[Sx x,QZ x x.rl .nil .nil .nil .nil .nil .nil])
def iM(x:tk):SS:=jd x.bd (ff x.l 0)
abbrev Vd(x:tk)(q:SS):List Dn.Obj:=[Sx x,QZ x (bw x.rel x.ds) (.an 2 0 (iA q.eT).length) (.an 3 0 q.dm.length) (.an 4 0 (iA q.da).length) (.an 5 0 (strs q.binds).length) (.an 6 0 (iA q.df).length) (.an 7 0 (strs q.eqs).length),
 .row 3 (iA q.eT), .row 56 q.dm, .row 3 (iA q.da), .row 9 (strs q.binds), .row 3 (iA q.df), .row 9 (strs q.eqs)]
def Rf(x:tk):Out (AV×List Dn.Obj):= .one (.bh [],Vd x (iM x))
theorem cAm(κ:Kp):bt (Yg κ).E 12 126 (aL yw qO Rf):=by
 refine aZ ?_
 rintro x K hf ho
 refine Eq.mpr (yAm κ x K) ?_
 exact⟨(x.ds,x.rel),rfl,hf.hd,x,rfl,hf,ho⟩
noncomputable def Yy(κ:Kp):EB:=(Yg κ).opened [(1,[10,3],56),(1,[11,3],56)] [] (cAm κ)
structure Sk where
 ds:List AV
 rs:List AV
 bd:List AV
 rel:ByteArray
 l:List AV
 op:Int
 u:AT
 v:AT
abbrev V3(x:Sk):Dn.Obj:= .box 131 (.agg [gJ x.ds x.rs, .ad 9 x.bd])
theorem ySp(κ:Kp)(x:Sk)(K:AV->List Dn.Obj->Prop):(a8 (Yy κ).E 12 78 [.ptr 0 0 [] 0, .agg [.int x.op, .agg [.lit (.string x.rel), .ad 56 x.l],cy x.u,cy x.v]] [V3 x] K)=(
 letI z4:=AV.agg [AV.agg [AV.ad 61 x.ds,AV.ad 66 x.rs],AV.ad 9 x.bd]
 letI z1:=∃(e1:AT),([AV.agg [AV.int x.u.op,AV.str x.u.s,AV.int x.u.n,AV.ad 56 x.u.l]],[])=iG e1/\Tm.jf (AT.tm e1)<=100000/\∃(e0:AT),([AV.agg [AV.int x.v.op,AV.str x.v.s,AV.int x.v.n,AV.ad 56 x.v.l]],[])=iG e0/\Tm.jf (AT.tm e0)<=100000/\K (AV.agg [AV.int 3,AV.int x.op,AV.int 0,AV.ad 3 [],AV.ad 56 [],AV.ad 3 [],AV.ad 9 [],AV.ad 3 [],AV.ad 9 [],AV.str {data:= #[]},AV.agg [AV.int e1.op,AV.str e1.s,AV.int e1.n,AV.ad 56 (c9 (aa e1.l))],AV.agg [AV.int e0.op,AV.str e0.s,AV.int e0.n,AV.ad 56 (c9 (aa e0.l))]]) [Obj.box 131 z4]
 letI z2:=∃(e0:tk),([AV.ptr 0 0 [] 0,AV.agg [AV.str x.rel,AV.ad 56 x.l],AV.ptr 1 0 [] 0],[Obj.box 131 z4,Obj.box 58 (AV.agg [AV.int 5,AV.int x.op,AV.int 0,AV.nil,AV.nil,AV.nil,AV.nil,AV.nil,AV.nil,AV.str {data:= #[]},AV.agg [AV.int x.u.op,AV.str x.u.s,AV.int x.u.n,AV.ad 56 x.u.l],AV.agg [AV.int x.v.op,AV.str x.v.s,AV.int x.v.n,AV.ad 56 x.v.l]])])=yw e0/\qO e0/\K (AV.agg [AV.int e0.op,AV.int e0.th,AV.int (bw e0.rel e0.ds),AV.ad 3 (List.take (List.length (iA (SS.eT (iM e0)))) (List.drop 0 (iA (SS.eT (iM e0))))),AV.ad 56 (List.take (List.length (SS.dm (iM e0))) (List.drop 0 (SS.dm (iM e0)))),AV.ad 3 (List.take (List.length (iA (SS.da (iM e0)))) (List.drop 0 (iA (SS.da (iM e0))))),AV.ad 9 (List.take (List.length (strs (SS.binds (iM e0)))) (List.drop 0 (strs (SS.binds (iM e0))))),AV.ad 3 (List.take (List.length (iA (SS.df (iM e0)))) (List.drop 0 (iA (SS.df (iM e0))))),AV.ad 9 (List.take (List.length (strs (SS.eqs (iM e0)))) (List.drop 0 (strs (SS.eqs (iM e0))))),AV.str e0.s,AV.agg [AV.int e0.u.op,AV.str e0.u.s,AV.int e0.u.n,AV.ad 56 e0.u.l],AV.agg [AV.int e0.v.op,AV.str e0.v.s,AV.int e0.v.n,AV.ad 56 e0.v.l]]) [Obj.box 131 (AV.agg [AV.agg [AV.ad 61 e0.ds,AV.ad 66 e0.rs],AV.ad 9 e0.bd])]
 letI z5:=decide (x.bd.length<=9223372036854775807)
 letI z3:=aX z5 (aD (!decide (eb x.v.s x.bd (0:Int)>=(0:Int))) (∃(e0:AT),([AV.agg [AV.int x.u.op,AV.str x.u.s,AV.int x.u.n,AV.ad 56 x.u.l]],[])=iG e0/\Tm.jf (AT.tm e0)<=100000/\K (AV.agg [AV.int 4,AV.int 0,AV.int 0,AV.ad 3 [],AV.ad 56 [],AV.ad 3 [],AV.ad 9 [],AV.ad 3 [],AV.ad 9 [],AV.str x.v.s,AV.agg [AV.int e0.op,AV.str e0.s,AV.int e0.n,AV.ad 56 (c9 (aa e0.l))],AV.agg [AV.int 0,AV.str {data:= #[]},AV.int 0,AV.ad 56 []]]) [Obj.box 131 z4]) z1)
 letI z6:=!decide (eb x.u.s x.bd (0:Int)>=(0:Int))
 aD (x.op==(2:Int)) (∃(e0:tk),([AV.ptr 0 0 [] 0,AV.agg [AV.str x.rel,AV.ad 56 x.l],AV.ptr 1 0 [] 0],[Obj.box 131 z4,Obj.box 58 (AV.agg [AV.int 2,AV.int 0,AV.int 0,AV.nil,AV.nil,AV.nil,AV.nil,AV.nil,AV.nil,AV.str {data:= #[]},AV.agg [AV.int 0,AV.str {data:= #[]},AV.int 0,AV.ad 56 []],AV.agg [AV.int 0,AV.str {data:= #[]},AV.int 0,AV.ad 56 []]])])=yw e0/\qO e0/\K (AV.agg [AV.int e0.op,AV.int e0.th,AV.int (bw e0.rel e0.ds),AV.ad 3 (List.take (List.length (iA (SS.eT (iM e0)))) (List.drop 0 (iA (SS.eT (iM e0))))),AV.ad 56 (List.take (List.length (SS.dm (iM e0))) (List.drop 0 (SS.dm (iM e0)))),AV.ad 3 (List.take (List.length (iA (SS.da (iM e0)))) (List.drop 0 (iA (SS.da (iM e0))))),AV.ad 9 (List.take (List.length (strs (SS.binds (iM e0)))) (List.drop 0 (strs (SS.binds (iM e0))))),AV.ad 3 (List.take (List.length (iA (SS.df (iM e0)))) (List.drop 0 (iA (SS.df (iM e0))))),AV.ad 9 (List.take (List.length (strs (SS.eqs (iM e0)))) (List.drop 0 (strs (SS.eqs (iM e0))))),AV.str e0.s,AV.agg [AV.int e0.u.op,AV.str e0.u.s,AV.int e0.u.n,AV.ad 56 e0.u.l],AV.agg [AV.int e0.v.op,AV.str e0.v.s,AV.int e0.v.n,AV.ad 56 e0.v.l]]) [Obj.box 131 (AV.agg [AV.agg [AV.ad 61 e0.ds,AV.ad 66 e0.rs],AV.ad 9 e0.bd])]) (aD (x.op==(1:Int)) (∃(e0:tk),([AV.ptr 0 0 [] 0,AV.agg [AV.str x.rel,AV.ad 56 x.l],AV.ptr 1 0 [] 0],[Obj.box 131 z4,Obj.box 58 (AV.agg [AV.int 1,AV.int 0,AV.int 0,AV.nil,AV.nil,AV.nil,AV.nil,AV.nil,AV.nil,AV.str {data:= #[]},AV.agg [AV.int 0,AV.str {data:= #[]},AV.int 0,AV.ad 56 []],AV.agg [AV.int 0,AV.str {data:= #[]},AV.int 0,AV.ad 56 []]])])=yw e0/\qO e0/\K (AV.agg [AV.int e0.op,AV.int e0.th,AV.int (bw e0.rel e0.ds),AV.ad 3 (List.take (List.length (iA (SS.eT (iM e0)))) (List.drop 0 (iA (SS.eT (iM e0))))),AV.ad 56 (List.take (List.length (SS.dm (iM e0))) (List.drop 0 (SS.dm (iM e0)))),AV.ad 3 (List.take (List.length (iA (SS.da (iM e0)))) (List.drop 0 (iA (SS.da (iM e0))))),AV.ad 9 (List.take (List.length (strs (SS.binds (iM e0)))) (List.drop 0 (strs (SS.binds (iM e0))))),AV.ad 3 (List.take (List.length (iA (SS.df (iM e0)))) (List.drop 0 (iA (SS.df (iM e0))))),AV.ad 9 (List.take (List.length (strs (SS.eqs (iM e0)))) (List.drop 0 (strs (SS.eqs (iM e0))))),AV.str e0.s,AV.agg [AV.int e0.u.op,AV.str e0.u.s,AV.int e0.u.n,AV.ad 56 e0.u.l],AV.agg [AV.int e0.v.op,AV.str e0.v.s,AV.int e0.v.n,AV.ad 56 e0.v.l]]) [Obj.box 131 (AV.agg [AV.agg [AV.ad 61 e0.ds,AV.ad 66 e0.rs],AV.ad 9 e0.bd])]) (aD (x.op==(3:Int)) (aD (x.u.op==(1:Int)) (aX z5 (aD z6 (∃(e0:AT),([AV.agg [AV.int x.v.op,AV.str x.v.s,AV.int x.v.n,AV.ad 56 x.v.l]],[])=iG e0/\Tm.jf (AT.tm e0)<=100000/\K (AV.agg [AV.int 4,AV.int 0,AV.int 0,AV.ad 3 [],AV.ad 56 [],AV.ad 3 [],AV.ad 9 [],AV.ad 3 [],AV.ad 9 [],AV.str x.u.s,AV.agg [AV.int e0.op,AV.str e0.s,AV.int e0.n,AV.ad 56 (c9 (aa e0.l))],AV.agg [AV.int 0,AV.str {data:= #[]},AV.int 0,AV.ad 56 []]]) [Obj.box 131 z4]) (aD (x.v.op==(1:Int)) z3 (∃(e1:AT),([AV.agg [AV.int x.u.op,AV.str x.u.s,AV.int x.u.n,AV.ad 56 x.u.l]],[])=iG e1/\Tm.jf (AT.tm e1)<=100000/\∃(e0:AT),([AV.agg [AV.int x.v.op,AV.str x.v.s,AV.int x.v.n,AV.ad 56 x.v.l]],[])=iG e0/\Tm.jf (AT.tm e0)<=100000/\K (AV.agg [AV.int 3,AV.int x.op,AV.int 0,AV.ad 3 [],AV.ad 56 [],AV.ad 3 [],AV.ad 9 [],AV.ad 3 [],AV.ad 9 [],AV.str {data:= #[]},AV.agg [AV.int e1.op,AV.str e1.s,AV.int e1.n,AV.ad 56 (c9 (aa e1.l))],AV.agg [AV.int e0.op,AV.str e0.s,AV.int e0.n,AV.ad 56 (c9 (aa e0.l))]]) [Obj.box 131 z4])))) (aD (x.v.op==(1:Int)) z3 z1)) (aD (x.op==(4:Int)) z1 (aD (x.op==(5:Int)) z1 (aD (x.op==(6:Int)) z1 (aD (x.u.op==(1:Int)) (aX z5 (aD z6 (∃(e0:tk),([AV.ptr 0 0 [] 0,AV.agg [AV.str x.rel,AV.ad 56 x.l],AV.ptr 1 0 [] 0],[Obj.box 131 z4,Obj.box 58 (AV.agg [AV.int 5,AV.int x.op,AV.int 0,AV.nil,AV.nil,AV.nil,AV.nil,AV.nil,AV.nil,AV.str x.u.s,AV.agg [AV.int 0,AV.str {data:= #[]},AV.int 0,AV.ad 56 []],AV.agg [AV.int x.v.op,AV.str x.v.s,AV.int x.v.n,AV.ad 56 x.v.l]])])=yw e0/\qO e0/\K (AV.agg [AV.int e0.op,AV.int e0.th,AV.int (bw e0.rel e0.ds),AV.ad 3 (List.take (List.length (iA (SS.eT (iM e0)))) (List.drop 0 (iA (SS.eT (iM e0))))),AV.ad 56 (List.take (List.length (SS.dm (iM e0))) (List.drop 0 (SS.dm (iM e0)))),AV.ad 3 (List.take (List.length (iA (SS.da (iM e0)))) (List.drop 0 (iA (SS.da (iM e0))))),AV.ad 9 (List.take (List.length (strs (SS.binds (iM e0)))) (List.drop 0 (strs (SS.binds (iM e0))))),AV.ad 3 (List.take (List.length (iA (SS.df (iM e0)))) (List.drop 0 (iA (SS.df (iM e0))))),AV.ad 9 (List.take (List.length (strs (SS.eqs (iM e0)))) (List.drop 0 (strs (SS.eqs (iM e0))))),AV.str e0.s,AV.agg [AV.int e0.u.op,AV.str e0.u.s,AV.int e0.u.n,AV.ad 56 e0.u.l],AV.agg [AV.int e0.v.op,AV.str e0.v.s,AV.int e0.v.n,AV.ad 56 e0.v.l]]) [Obj.box 131 (AV.agg [AV.agg [AV.ad 61 e0.ds,AV.ad 66 e0.rs],AV.ad 9 e0.bd])]) z2)) z2))))))):=by kernel_rfl
structure Py(x:Sk):Prop where
 hl:a6 (aa x.l)<=100000
 hb:x.bd.length<=100000
 hd:x.ds.length<=aR
 hu:x.u.tm.jf<=100000
 hv:x.v.tm.jf<=100000
def Tw(x:Sk):List AV×List Dn.Obj:=([.ptr 0 0 [] 0, .agg [.int x.op, .agg [.lit (.string x.rel), .ad 56 x.l],cy x.u,cy x.v]],[V3 x])
def TY(x:Sk):Out (AV×List Dn.Obj):= .one (VT (tD x.ds x.bd x.rel x.l x.op x.u x.v),[V3 x])
theorem cSp(κ:Kp):bt (Yy κ).E 12 78 (aL Tw Py TY):=by
 refine aZ ?_
 rintro x K hf ho
 refine Eq.mpr (ySp κ x K) ?_
 have hbd:decide (x.bd.length<=9223372036854775807)=true:=by
  have:=hf.hb
  rw[aa1];omega
 have fa: ∀op th rl s u v,qO ⟨x.ds,x.rs,x.bd,x.rel,x.l,op,th,rl,s,u,v⟩:=fun _ _ _ _ _ _=>⟨hf.hl,hf.hb,hf.hd⟩
 have ho:K (VT (tD x.ds x.bd x.rel x.l x.op x.u x.v)) [V3 x]:=ho
 unfold tD Dr at ho
 simp only[ab1,List.take_length,hbd]
 cases h2:(x.op==2) with
 |true=>
  rw[h2] at ho
  exact⟨⟨x.ds,x.rs,x.bd,x.rel,x.l,2,0,0,ByteArray.mk #[],zT,zT⟩,rfl,fa _ _ _ _ _ _,ho⟩
 | false=>
  rw[h2] at ho
  cases h1:(x.op==1) with
  |true=>
   rw[h1] at ho
   exact⟨⟨x.ds,x.rs,x.bd,x.rel,x.l,1,0,0,ByteArray.mk #[],zT,zT⟩,rfl,fa _ _ _ _ _ _,ho⟩
  | false=>
   rw[h1] at ho
   cases h3:(x.op==3) with
   | true=>
    rw[h3] at ho
    cases hu1:(x.u.op==1)<;>rw[hu1] at ho
    ·cases hv1:(x.v.op==1)<;>rw[hv1] at ho
     ·exact⟨x.u,rfl,hf.hu,x.v,rfl,hf.hv,ho⟩
     ·cases hv2:lO x.v.s x.bd<;>rw[hv2] at ho<;>unfold lO at hv2<;>rw[hv2]
      ·exact⟨x.u,rfl,hf.hu,ho⟩
      ·exact⟨x.u,rfl,hf.hu,x.v,rfl,hf.hv,ho⟩
    ·cases hu2:lO x.u.s x.bd<;>rw[hu2] at ho<;>unfold lO at hu2<;>rw[hu2]
     ·exact⟨x.v,rfl,hf.hv,ho⟩
     ·cases hv1:(x.v.op==1)<;>rw[hv1] at ho
      ·exact⟨x.u,rfl,hf.hu,x.v,rfl,hf.hv,ho⟩
      ·cases hv2:lO x.v.s x.bd<;>rw[hv2] at ho<;>unfold lO at hv2<;>rw[hv2]
       ·exact⟨x.u,rfl,hf.hu,ho⟩
       ·exact⟨x.u,rfl,hf.hu,x.v,rfl,hf.hv,ho⟩
   | false=>
    rw[h3] at ho
    cases h4:(x.op==4) with
    |true=>rw[h4] at ho;exact⟨x.u,rfl,hf.hu,x.v,rfl,hf.hv,ho⟩
    | false=>
     rw[h4] at ho
     cases h5:(x.op==5) with
     |true=>rw[h5] at ho;exact⟨x.u,rfl,hf.hu,x.v,rfl,hf.hv,ho⟩
     | false=>
      rw[h5] at ho
      cases h6:(x.op==6) with
      |true=>rw[h6] at ho;exact⟨x.u,rfl,hf.hu,x.v,rfl,hf.hv,ho⟩
      | false=>
       rw[h6] at ho
       cases hu1:(x.u.op==1)<;>rw[hu1] at ho
       ·exact⟨⟨x.ds,x.rs,x.bd,x.rel,x.l,5,x.op,0,ByteArray.mk #[],x.u,x.v⟩,rfl,fa _ _ _ _ _ _,ho⟩
       ·cases hu2:lO x.u.s x.bd<;>rw[hu2] at ho<;>unfold lO at hu2<;>rw[hu2]
        ·exact⟨⟨x.ds,x.rs,x.bd,x.rel,x.l,5,x.op,0,x.u.s,zT,x.v⟩,rfl,fa _ _ _ _ _ _,ho⟩
        ·exact⟨⟨x.ds,x.rs,x.bd,x.rel,x.l,5,x.op,0,ByteArray.mk #[],x.u,x.v⟩,rfl,fa _ _ _ _ _ _,ho⟩
noncomputable def BSp(κ:Kp):EB:=(((Yy κ).call (cSp κ)).calm [78]).opens [(41,5,[(1193,some 58)])]
end Go.Proofs.YthaiinlfnommnaaGreatDoor
