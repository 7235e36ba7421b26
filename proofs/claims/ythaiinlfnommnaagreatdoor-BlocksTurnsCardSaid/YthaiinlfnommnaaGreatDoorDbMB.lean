import Derived.Test.YthaiinlfnommnaaGreatDoorDbMA
import Derived.Test.YthaiinlfnommnaaGreatDoorDoJ
namespace Go.Proofs.YthaiinlfnommnaaGreatDoor
open Go Go.Dn Go.Rl Go.Proofs
mutual
def Oy:Tm->AV
 | .mk op s n l=> .agg [.int op, .lit (.string s), .int n, .ad 56 (c9 l)]
def c9:List Tm->List AV
 |[]=>[]
 |t::l=>Oy t::c9 l
end
theorem xq: ∀l:List Tm,(c9 l).length=l.length
 |[]=>rfl
 |_::l=>by simp[c9,xq l]
theorem x5: ∀a b:List Tm,c9 (a++b)=c9 a++c9 b
 |[],_=>rfl
 |_::a,b=>by simp[c9,x5 a b]
abbrev QB(t:AT):AV:= .agg [.int t.op, .lit (.string t.s), .int t.n, .ad 56 (c9 (aa t.l))]
structure SS where
 eT:List Int
 dm:List AV
 da:List Int
 binds:List ByteArray
 db:List Int
 eqs:List ByteArray
def lJ(s:ByteArray)(l:List AV):Bool:=decide (dU s l 0>=0)
def C9(bd:List AV)(t:AT):Bool:=(t.op==1)&& !lJ t.s bd
def AY(bd:List AV)(s:SS)(e:Int×AT):SS:=
 bif !C9 bd e.2 then{s with eT:=s.eT++[e.1],dm:=s.dm++[QB e.2]}
 else bif lJ e.2.s (strs s.binds) then{s with db:=s.db++[e.1],eqs:=s.eqs++[e.2.s]}
 else{s with da:=s.da++[e.1],binds:=s.binds++[e.2.s]}
def Rr:SS:=⟨[],[],[],[],[],[]⟩
def fb:List AV->Int->List (Int×AT)
 |[],_=>[]
 |t::l,i=>bif decide (toInt (ae t 0)=4) then fb l (i+1) else(i,xd t)::fb l (i+1)
def Bp(l:List (Int×AT)):List AV:=l.map fun e=> .bh [.int e.1,cz e.2]
def iT(bd:List AV)(l:List (Int×AT)):SS:=l.foldl (AY bd) Rr
theorem CU: ∀(l:List AV) (i:Int),(fb l i).length<=l.length
 |[],_=>Nat.le_refl _
 |t::l,i=>by
  have:=CU l (i+1)
  rw[fb]
  cases decide (toInt (ae t 0)=4) with
  |true=>rw[aa8];simp only[List.length_cons];omega
  |false=>rw[aa6];simp only[List.length_cons];omega
def SS.le(s:SS)(n:Nat):Prop:=s.eT.length<=n/\s.dm.length<=n/\s.da.length<=n/\s.binds.length<=n/\s.db.length<=n/\s.eqs.length<=n
theorem Rs:Rr.le 0:=⟨Nat.le_refl _,Nat.le_refl _,Nat.le_refl _,Nat.le_refl _,Nat.le_refl _,Nat.le_refl _⟩
theorem M3{bd:List AV}{s:SS}{n:Nat}(h:s.le n)(e:Int×AT):(AY bd s e).le (n+1):=by
 obtain⟨h1,h2,h3,h4,h5,h6⟩:=h
 unfold AY SS.le
 cases !C9 bd e.2 with
 |true=>simp only[aa8,ab9,List.length_singleton];omega
 |false=>
  cases lJ e.2.s (strs s.binds) with
  |true=>simp only[aa8,aa6,ab9,List.length_singleton];omega
  |false=>simp only[aa6,ab9,List.length_singleton];omega
theorem O6{bd:List AV}: ∀(l:List (Int×AT)) {s:SS} {n:Nat},s.le n->(l.foldl (AY bd) s).le (n+l.length)
 |[],_,_,h=>h
 |e::l,s,n,h=>by
  have:=O6 (bd:=bd) l (M3 (bd:=bd) h e)
  rw[List.foldl_cons,List.length_cons]
  rw[show n+(l.length+1)=n+1+l.length by omega];exact this
abbrev Wg(op sV rl:Int)(s:SS)(t:ByteArray)(X Y:AV):AV:= .agg [.int op, .int sV, .int rl, .ad 3 (iA s.eT), .ad 56 s.dm, .ad 3 (iA s.da), .ad 9 (strs s.binds), .ad 3 (iA s.db), .ad 9 (strs s.eqs), .lit (.string t),X,Y]
def zT:AT:=⟨0,ByteArray.mk #[],0,[]⟩
def yq(t:AT):AT:=⟨t.op,t.s,t.n,c9 (aa t.l)⟩
structure SD where
 op:Int
 sV:Int
 rl:Int
 q:SS
 t:ByteArray
 X:AT
 Y:AT
abbrev VS(d:SD):AV:=Wg d.op d.sV d.rl d.q d.t (cz d.X) (cz d.Y)
def s7(ds bd:List AV)(rel:ByteArray)(l:List AV)(op:Int)(u v:AT):SD:=
 bif op==2 then⟨2,0,bw rel ds,iT bd (fb l 0),ByteArray.mk #[],zT,zT⟩
 else bif op==1 then⟨1,0,bw rel ds,iT bd (fb l 0),ByteArray.mk #[],zT,zT⟩
 else bif op==3 then(bif C9 bd u then⟨4,0,0,Rr,u.s,yq v,zT⟩ else bif C9 bd v then⟨4,0,0,Rr,v.s,yq u,zT⟩ else⟨3,op,0,Rr,ByteArray.mk #[],yq u,yq v⟩)
 else bif op==4||(op==5||op==6) then⟨3,op,0,Rr,ByteArray.mk #[],yq u,yq v⟩
 else bif C9 bd u then⟨5,op,bw rel ds,iT bd (fb l 0),u.s,zT,v⟩
 else⟨5,op,bw rel ds,iT bd (fb l 0),ByteArray.mk #[],u,v⟩
def JJ(ds bd:List AV)(l:AV):SD:=s7 ds bd (toStr (ae (ae l 1) 0)) (ai (ae (ae l 1) 1)) (toInt (ae l 0)) (xd (ae l 2)) (xd (ae l 3))
structure QD where
 rel:Int
 steps:List AV
 out:List AV
 delta:Int
abbrev qA(q:QD):AV:= .agg [.int q.rel, .ad 58 q.steps, .ad 56 q.out, .int q.delta]
def tp(q:QD)(g:List Int):List AV->Int->List QD
 |[],_=>[]
 |s::l,i=>bif decide (toInt (ae s 0)=1)&&g.contains (toInt (ae s 2)) then{q with delta:=i}::tp q g l (i+1) else tp q g l (i+1)
def Ho(mk:AV->QD)(hd:AV->Int)(ag:AV->Bool)(g:List Int):List AV->List QD
 |[]=>[]
 |r::rs=>bif g.contains (hd r)&& !ag r then mk r::Ho mk hd ag g rs else Ho mk hd ag g rs
def I2(mk:AV->QD)(hd:AV->Int)(ag:AV->Bool)(g:List Int):List AV->List QD
 |[]=>[]
 |r::rs=>(bif g.contains (hd r)&&ag r then tp (mk r) g (mk r).steps 0 else[])++I2 mk hd ag g rs
theorem y6{q:QD}{g:List Int}: ∀{l:List AV} {i:Int} {x:QD},x∈tp q g l i->x.rel=q.rel/\x.steps=q.steps/\x.out=q.out
 |[],_,_,h=>by simp[tp] at h
 | s::l,i,x,h=>by
  rw[tp] at h
  cases e:(decide (toInt (ae s 0)=1)&&g.contains (toInt (ae s 2))) with
  |true=>
   rw[e,aa8] at h
   rcases List.mem_cons.1 h with rfl|h
   ·exact⟨rfl,rfl,rfl⟩
   ·exact y6 h
  |false=>rw[e,aa6] at h;exact y6 h
theorem qU{mk:AV->QD}{hd:AV->Int}{ag:AV->Bool}{g:List Int}: ∀{rs:List AV} {x:QD},x∈Ho mk hd ag g rs->∃r,r∈rs/\hd r∈g/\ag r=false/\x=mk r
 |[],_,h=>by simp[Ho] at h
 | r::rs,x,h=>by
  rw[Ho] at h
  cases e:(g.contains (hd r)&& !ag r) with
  | true=>
   rw[e,aa8] at h
   rcases List.mem_cons.1 h with rfl|h
   ·simp only[aa2,List.contains_eq_mem,aa1,Bool.not_eq_true'] at e
    exact⟨r,by simp,e.1,e.2,rfl⟩
   ·obtain⟨r',h1,h2⟩:=qU h
    exact⟨r',by simp[h1],h2⟩
  |false=>
   rw[e,aa6] at h
   obtain⟨r',h1,h2⟩:=qU h
   exact⟨r',by simp[h1],h2⟩
theorem Gs{mk:AV->QD}{hd:AV->Int}{ag:AV->Bool}{g:List Int}: ∀{rs:List AV} {x:QD},x∈I2 mk hd ag g rs->∃r,r∈rs/\hd r∈g/\ag r=true/\x∈tp (mk r) g (mk r).steps 0
 |[],_,h=>by simp[I2] at h
 | r::rs,x,h=>by
  rw[I2] at h
  rcases List.mem_append.1 h with h|h
  ·cases e:(g.contains (hd r)&&ag r) with
   |true=>
    rw[e,aa8] at h
    simp only[aa2,List.contains_eq_mem,aa1] at e
    exact⟨r,by simp,e.1,e.2,h⟩
   |false=>rw[e] at h;simp at h
  ·obtain⟨r',h1,h2⟩:=Gs h
   exact⟨r',by simp[h1],h2⟩
end Go.Proofs.YthaiinlfnommnaaGreatDoor
namespace Go.Proofs.YthaiinlfnommnaaGreatDoor
open Go Go.Dn Go.Rl Go.Proofs
attribute [local irreducible] ba vc
set_option maxRecDepth 20000
noncomputable def BH(κ:Kp):EB:=EB.calm ⟨XG κ,eHg κ,mHg κ⟩ [37,888888]
theorem yRc(κ:Kp)(ds rs:List AV)(k:Int)(K:AV->List Dn.Obj->Prop):(ba (BH κ).E 12 18 [gN ds rs, .int k] [] K)=(
 letI z1:=nth rs k.toNat
 letI z2:=decide ((0:Int)<=k)&&decide (k<(↑(rs.length):Int))
 letI z3:=toStr (ae (ae z1 0) 0)
 letI z4:=ai (ae (ae z1 0) 1)
 letI z5:=toInt (ae z1 2)
 letI z6:=ai (ae z1 1)
 ∃(e3:VP),([AV.agg [AV.ad 61 ds,AV.ad 66 rs],AV.int k,AV.int k,AV.int (↑(rs.length):Int)],[])=Rp e3/\EI e3/\aD (wR e3.ds e3.rs e3.a e3.b e3.n !=
 (0:Int)) (K (AV.bh [AV.bool false,AV.int (wR e3.ds e3.rs e3.a e3.b e3.n)]) []) ((∃(e2:rr),([AV.agg [AV.ad 61 ds,AV.ad 66 rs]],[])=MI e2/\rX e2.1
 e2.2/\aD (Nat.beq e2.1.length 0) (a7 z2 (∃(e1:AP),([AV.ptr 0 0 [] 0,AV.agg [AV.ad 61 ds,AV.ad 66 rs],AV.agg [AV.agg [AV.str z3,AV.ad 56 z4],AV.ad 72
 z6,AV.int z5],AV.bL 44 []],[Obj.box 122 (AV.agg [AV.aq 1 0 e2.1.length,AV.nil]),Obj.rows 38 3 (dx (nv e2.1 e2.2)) none])=yi e1/\(e1.h=bw e1.a.rel
 e1.ds/\((0:Int)<=e1.h/\e1.h<(↑(e1.n):Int))/\e1.ds.length<=9223372036854775807/\List.length e1.a.bl<=9223372036854775807/\∀(e0:AV),List.Mem e0
 e1.a.bl->fB (toInt (ae e0 0))=true->(0:Int)<=bw (toStr (ae (ae e0 1) 0)) e1.ds/\bw (toStr (ae (ae e0 1) 0)) e1.ds<(↑(e1.n):Int))/\K (AV.bh [AV.bool
 (iP fB e1.n e1.m e1.L e1.ds e1.h e1.a.bl),AV.int 0]) [])) (a7 z2 (∃(e1:AP),([AV.ptr 0 0 [] 0,AV.agg [AV.ad 61 ds,AV.ad 66 rs],AV.agg [AV.agg [AV.str z3,
 AV.ad 56 z4],AV.ad 72 z6,AV.int z5],AV.bL 44 []],[Obj.box 122 (AV.agg [AV.aq 1 0 e2.1.length,AV.aq 2 0 (List.length (br e2.1.length (iR e2.1 e2.2) (nv e2.1
 e2.2) e2.1.length))]),Obj.rows 38 3 (dx (nv e2.1 e2.2)) none,Obj.row 89 (br e2.1.length (iR e2.1 e2.2) (nv e2.1 e2.2) e2.1.length)])=yi e1/\(e1.h=bw
 e1.a.rel e1.ds/\((0:Int)<=e1.h/\e1.h<(↑(e1.n):Int))/\e1.ds.length<=9223372036854775807/\List.length e1.a.bl<=9223372036854775807/\∀(e0:AV),
 List.Mem e0 e1.a.bl->fB (toInt (ae e0 0))=true->(0:Int)<=bw (toStr (ae (ae e0 1) 0)) e1.ds/\bw (toStr (ae (ae e0 1) 0)) e1.ds<(↑(e1.n):Int))/\K
 (AV.bh [AV.bool (iP fB e1.n e1.m e1.L e1.ds e1.h e1.a.bl),AV.int 0]) [])))/\a7 z2 (∃(e2:rr),([AV.agg [AV.ad 61 ds,AV.ad 66 rs]],[])=MI e2/\rX e2.1
 e2.2/\aD (Nat.beq e2.1.length 0) (∃(e1:AP),([AV.ptr 0 0 [] 0,AV.agg [AV.ad 61 ds,AV.ad 66 rs],AV.agg [AV.agg [AV.str z3,AV.ad 56 z4],AV.ad 72 z6,
 AV.int z5],AV.bL 44 []],[Obj.box 122 (AV.agg [AV.aq 1 0 e2.1.length,AV.nil]),Obj.rows 38 3 (dx (nv e2.1 e2.2)) none])=yi e1/\(e1.h=bw e1.a.rel e1.ds/\
 ((0:Int)<=e1.h/\e1.h<(↑(e1.n):Int))/\e1.ds.length<=9223372036854775807/\List.length e1.a.bl<=9223372036854775807/\∀(e0:AV),List.Mem e0 e1.a.bl
 ->fB (toInt (ae e0 0))=true->(0:Int)<=bw (toStr (ae (ae e0 1) 0)) e1.ds/\bw (toStr (ae (ae e0 1) 0)) e1.ds<(↑(e1.n):Int))/\K (AV.bh [AV.bool (iP fB
 e1.n e1.m e1.L e1.ds e1.h e1.a.bl),AV.int 0]) []) (∃(e1:AP),([AV.ptr 0 0 [] 0,AV.agg [AV.ad 61 ds,AV.ad 66 rs],AV.agg [AV.agg [AV.str z3,AV.ad 56 z4],
 AV.ad 72 z6,AV.int z5],AV.bL 44 []],[Obj.box 122 (AV.agg [AV.aq 1 0 e2.1.length,AV.aq 2 0 (List.length (br e2.1.length (iR e2.1 e2.2) (nv e2.1 e2.2)
 e2.1.length))]),Obj.rows 38 3 (dx (nv e2.1 e2.2)) none,Obj.row 89 (br e2.1.length (iR e2.1 e2.2) (nv e2.1 e2.2) e2.1.length)])=yi e1/\(e1.h=bw e1.a.rel
 e1.ds/\((0:Int)<=e1.h/\e1.h<(↑(e1.n):Int))/\e1.ds.length<=9223372036854775807/\List.length e1.a.bl<=9223372036854775807/\∀(e0:AV),List.Mem e0
 e1.a.bl->fB (toInt (ae e0 0))=true->(0:Int)<=bw (toStr (ae (ae e0 1) 0)) e1.ds/\bw (toStr (ae (ae e0 1) 0)) e1.ds<(↑(e1.n):Int))/\K (AV.bh [AV.bool
 (iP fB e1.n e1.m e1.L e1.ds e1.h e1.a.bl),AV.int 0]) [])))):=by kernel_rfl
def R0(ds rs:List AV)(k:Int):Bool:=decide (wR ds rs k k rs.length=0)&&yL fB ds.length (iR ds rs) (nv ds rs) ds (nth rs k.toNat)
structure VG where
 ds:List AV
 rs:List AV
 k:Int
def Vi(x:VG):List AV×List Dn.Obj:=([gN x.ds x.rs, .int x.k],[])
def LJ(x:VG):Prop:=fw x.ds x.rs
def PH(x:VG):Out (AV×List Dn.Obj):= .one (.bh [.bool (R0 x.ds x.rs x.k), .int (wR x.ds x.rs x.k x.k x.rs.length)],[])
theorem cRc(κ:Kp):bu (BH κ).E 12 18 (aL Vi LJ PH):=by
 refine aX ?_
 rintro⟨ds,rs,k⟩ K hs ho
 refine Eq.mpr (yRc κ ds rs k K) ?_
 simp only[PH,Out.run,R0] at ho
 refine⟨⟨ds,rs,k,k,rs.length⟩,rfl,hs,?_⟩
 rw[ah]
 refine⟨fun e=>?_,fun e=>?_⟩
 ·have e:wR ds rs k k rs.length≠0:=by simpa using e
  rw[aa5 e,Bool.false_and] at ho
  exact ho
 ·have e:wR ds rs k k rs.length=0:=by simpa using e
  obtain⟨hc,ha,_⟩:=NR e
  rw[e] at ho
  have hf:=jF hc
  have hk:k.toNat<rs.length:=by omega
  have hx:nth rs k.toNat∈rs:=by rw[bf _ _ hk];exact List.getElem_mem _
  have hG:=CN hs hc _ hx
  have hn:Nat.beq ds.length 0=false:=by
   have h1:0<=AF ds (nth rs k.toNat)/\AF ds (nth rs k.toNat)<ds.length:=hG.hd
   rw[Bool.eq_false_iff]
   exact fun h=>by have:=Nat.eq_of_beq_eq_true h;omega
  have hi:(decide (0<=k)&&decide (k<(rs.length:Int)))=true:=by simp[ha]
  have hd:ds.length<=aR:=hs.1
  refine⟨⟨(ds,rs),rfl,hf,?_⟩,an.2 ⟨hi,(ds,rs),rfl,hf,?_⟩⟩<;>rw[ah]
  ·exact⟨fun e=>absurd (hn.symm.trans e) (by decide),fun _=>an.2 ⟨hi,⟨ds.length,iR ds rs,nv ds rs,ds,rs,eo (nth rs k.toNat),AF ds (nth rs k.toNat)⟩,rfl,⟨rfl,hG.hd,hd,hG.le,fun l hl h=>hG.at_ l hl (tO h)⟩,ho⟩⟩
  ·exact⟨fun e=>absurd (hn.symm.trans e) (by decide),fun _=>⟨⟨ds.length,iR ds rs,nv ds rs,ds,rs,eo (nth rs k.toNat),AF ds (nth rs k.toNat)⟩,rfl,⟨rfl,hG.hd,hd,hG.le,fun l hl h=>hG.at_ l hl (tO h)⟩,ho⟩⟩
noncomputable def Si(κ:Kp):EB:=(BH κ).call (cRc κ)
def Iy(l:List AV):List AV×List Dn.Obj:=([.ad 56 l],[])
def Mk(n:Nat)(l:List AV):Prop:=aZ (aa l)=n/\n<=100000
def GZ(l:List AV):Out (AV×List Dn.Obj):= .one (.ad 56 (c9 (aa l)),[])
def OO(n:Nat):dr:=aL Iy (Mk n) GZ
noncomputable def Oo(κ:Kp)(r:Nat):Env:=(Si κ).E.aw 76 fun args st K=>∃m,m<r/\OO m args st K
theorem xCp(κ:Kp)(r:Nat)(l:List AV)(i:Int)(xs:List AV)(k:Nat)(I:Nat->S->Prop)(n:Nat)(K:Exit->S->Prop):(vc (Oo κ r) 12 76 none 0 (af (Pr κ).toProgram 76 3) (sp 19 [(3, .aq 0 0 k),(6, .ad 56 l),(7, .int l.length),(8, .int i)] [.row 56 xs]) (bJ (Oo κ r) 76 3 0 I n K))=(
 letI z1:=nth l i.toNat
 letI z2:=i<(↑(l.length):Int)
 aD (decide z2) (a7 (decide ((0:Int)<=i)&&decide z2) (∃(e2:Nat),e2<r/\∃(e1:List AV),([AV.ad 56 (ai (ae z1 3))],[])=Iy e1/\Mk e2 e1/\a7
 (decide ((k+1+1)*57<=70368744177664)) (∃(e0:Nat),e0<n/\I e0 (sp 19 [(3,AV.aq 0 0 (k+1)),(6,AV.ad 56 l),(7,AV.int (↑(l.length):Int)),(8,
 AV.int (IntKind.wrap IntKind.i64 (i+(1:Int))))] [Obj.row 56 (List.take k xs++[AV.agg [AV.int (toInt (ae z1 0)),AV.str (toStr (ae z1 1)),AV.int (toInt
 (ae z1 2)),AV.ad 56 (c9 (aa e1))]])])))) (K (Exit.exit 0) (sp 19 [(3,AV.aq 0 0 k)] [Obj.row 56 xs]))):=by kernel_rfl
theorem Ru(x:AV):Oy (cR x)= .agg [.int (toInt (ae x 0)), .lit (.string (toStr (ae x 1))), .int (toInt (ae x 2)), .ad 56 (c9 (aa (ai (ae x 3))))]:=by
 rw[dh,Oy]
theorem Mf(l:List AV)(i:Nat)(h:i<l.length):c9 (aa (l.take (i+1)))=c9 (aa (l.take i))++[Oy (cR (nth l i))]:=by
 rw[List.take_add_one,ab7 h,←bf l i h]
 simp[aa,x5,c9]
theorem NY(l:List AV):(c9 (aa l)).length=l.length:=by rw[xq,eM]
abbrev Hi(a:List AV×Nat):S:=sp 19 [(3, .aq 0 0 (c9 (aa (a.1.take a.2))).length),(6, .ad 56 a.1),(7, .int a.1.length),(8, .int a.2)] [.row 56 (c9 (aa (a.1.take a.2)))]
def yR(r:Nat)(a:List AV×Nat):Prop:=a.2<=a.1.length/\a.1.length<=100000/\aZ (aa (a.1.drop a.2))<=r/\r<=100000
def JX(a:List AV×Nat):Out (Exit×S):= .one (.exit 0,sp 19 [(3, .aq 0 0 (c9 (aa a.1)).length)] [.row 56 (c9 (aa a.1))])
theorem lCp(κ:Kp)(r:Nat):bj (Oo κ r) 12 76 3 (aO 0 Hi (yR r) JX):=by
 refine aK (fun a=>a.1.length - a.2) ?_
 rintro⟨l,i⟩ K ⟨h1,h2,h3,h4⟩ ho
 simp only at h1 h2 h3
 rw[show(Oo κ r).P=Pr κ from rfl]
 refine Eq.mpr (xCp κ r l i (c9 (aa (l.take i))) (c9 (aa (l.take i))).length _ _ K) ?_
 rw[ah,aa1,aa3]
 refine⟨fun h=>an.2 ⟨by simp;omega,?_⟩,fun h=>?_⟩
 ·have hk:i<l.length:=by omega
  have hc:=G4 l i hk
  have he:=Mf l i hk
  rw[Int.toNat_natCast]
  refine⟨_,?_,ai (ae (nth l i) 3),rfl,⟨rfl,by omega⟩,an.2 ⟨?_,_,?_,(l,i+1),?_,⟨hk,h2,by simp only;omega,h4⟩,rfl,ho⟩⟩
  ·simp only[Nat.lt_iff_add_one_le];omega
  ·rw[aa1,NY,List.length_take];omega
  ·simp only;omega
  ·simp only[Hi]
   rw[he,←Ru,List.take_length,aV (n:=(i:Int)+1) (by omega) (by omega),ab9]
   rfl
 ·obtain rfl:i=l.length:=by omega
  rw[List.take_length];exact ho
noncomputable def R5(κ:Kp)(r:Nat):Env:=(Oo κ r).ak 76 3 (aO 0 Hi (yR r) JX)
theorem yCp(κ:Kp)(r:Nat)(l:List AV)(K:AV->List Dn.Obj->Prop):(ba (R5 κ r) 12 76 [.ad 56 l] [] K)=(
 letI z1:=Pg.toProgram (Env.P (Oo κ r))
 af z1 76 3=af z1 76 3/\∃(e0:List AV×Nat),sp 19 [(3,AV.aq 0 0 0),(6,AV.ad 56 l),(7,AV.int (↑(l.length):Int)),(8,AV.int 0)] [Obj.row 56 []]=Hi
 e0/\yR r e0/\K (AV.ad 56 (List.take (List.length (c9 (aa e0.1))) (List.drop 0 (c9 (aa e0.1))))) []):=by kernel_rfl
theorem eCq(κ:Kp)(r:Nat)(hp: ∀args st K,(∃m,m<r/\OO m args st K)->cM (Pr κ) 76 args st K):aB (R5 κ r)/\aj (R5 κ r)/\(R5 κ r).P=Pr κ:=
 have h:aB (Oo κ r):=(Si κ).ok.gU hp
 have hm:aj (Oo κ r):=(Si κ).mono.aw (fun _ _ _ _ hK ⟨m,h1,h2⟩=>⟨m,h1,aJ _ _ _ _ hK h2⟩)
 ⟨h.ak hm (lCp κ r),hm.ak aG,rfl⟩
theorem cCp(κ:Kp)(r:Nat):bu (R5 κ r) 12 76 (OO r):=by
 refine aX ?_
 rintro l K ⟨h1,h2⟩ ho
 refine Eq.mpr (yCp κ r l K) ?_
 have:=fy (aa l)
 rw[eM] at this
 refine⟨rfl,(l,0),rfl,⟨Nat.zero_le _,by simp only;omega,by simp only[ab1];omega,h2⟩,?_⟩
 simp only[GZ,Out.run] at ho
 rw[ab1,List.take_length]
 exact ho
def Al(l:List AV):Prop:=aZ (aa l)<=100000
theorem qCp(κ:Kp): ∀args st K,aL Iy Al GZ args st K->cM (Pr κ) 76 args st K:=by
 rintro args st K ⟨l,h1,h2,h3⟩
 exact aB.tu OO (R5 κ) (eCq κ) (cCp κ) (aZ (aa l)) args st K ⟨l,h1,⟨rfl,h2⟩,h3⟩
noncomputable def QC(κ:Kp):EB:=⟨(Si κ).E.aw 76 (aL Iy Al GZ),(Si κ).ok.gU (qCp κ),(Si κ).mono.aw aJ⟩
structure TH where
 rel:ByteArray
 l:List AV
 xs:List AV
 i:Nat
abbrev JN(x:TH):S:=sp 24 [(0, .cD 0),(6, .ad 56 x.l),(7, .int x.l.length),(8, .int x.i)] [.ext (some x.xs), .box 63 (.agg [.lit (.string x.rel), .ad 56 x.l])]
theorem xCl(κ:Kp)(x:TH)(I:Nat->S->Prop)(n:Nat)(K:Exit->S->Prop):(vc (QC κ).E 12 241 none 2 (af (Pr κ).toProgram 241 1) (JN x) (bJ (QC κ).E 241 1 2 I n K))=(
 letI z1:=nth x.l (Int.toNat (↑(x.i):Int))
 letI z2:=AV.agg [AV.str x.rel,AV.ad 56 x.l]
 letI z3:=IntKind.wrap IntKind.i64 ((↑(x.i):Int)+(1:Int))
 letI z4:=(↑(x.i):Int)<(↑(x.l.length):Int)
 aD (decide z4) (a7 (true&&decide z4) (aD (toInt (ae z1 0) != (4:Int)) (∃(e1:List AV),x.xs=AV.bh [AV.int (↑(x.i):Int),AV.agg [AV.int (toInt (ae z1
 0)),AV.str (toStr (ae z1 1)),AV.int (toInt (ae z1 2)),AV.ad 56 (ai (ae z1 3))]]::e1/\(∃(e0:Nat),e0<n/\I e0 (sp 24 [(0,AV.cD 0),(6,AV.ad 56 x.l),
 (7,AV.int (↑(x.l.length):Int)),(8,AV.int z3)] [Obj.ext (some e1),Obj.box 63 z2]))/\K Exit.ret (sp 24 [] [Obj.ext none,Obj.box 63 z2])) (∃(e0:Nat),e0
 <n/\I e0 (sp 24 [(0,AV.cD 0),(6,AV.ad 56 x.l),(7,AV.int (↑(x.l.length):Int)),(8,AV.int z3)] [Obj.ext (some x.xs),Obj.box 63 z2])))) (K (Exit.exit 0)
 (sp 24 [] [Obj.ext (some x.xs),Obj.box 63 z2]))):=by kernel_rfl
def Fc(x:TH):Prop:=x.l.length<=100000/\x.i<=x.l.length/\x.xs=Bp (fb (x.l.drop x.i) x.i)
def PD(x:TH):Out (Exit×S):= .all (fun _:Bool=>True) fun b=> .aD b
 (.one (.exit 0,sp 24 [] [.ext (some []), .box 63 (.agg [.lit (.string x.rel), .ad 56 x.l])]))
 (.one (.ret,sp 24 [] [.ext none, .box 63 (.agg [.lit (.string x.rel), .ad 56 x.l])]))
theorem Lu(l:List AV)(i:Nat)(h:i<l.length):fb (l.drop i) i=bif decide (toInt (ae (nth l i) 0)=4) then fb (l.drop (i+1)) ((i+1:Nat):Int) else((i:Int),xd (nth l i))::fb (l.drop (i+1)) ((i+1:Nat):Int):=by
 rw[ab2 h,←bf l i h,fb];rfl
theorem lCl(κ:Kp):bj (QC κ).E 12 241 1 (aO 2 JN Fc PD):=by
 refine aK (fun x=>x.l.length - x.i) ?_
 rintro⟨rel,l,xs,i⟩ K ⟨h1,h2,h3⟩ ho
 simp only at h1 h2 h3
 rw[show(QC κ).E.P=Pr κ from rfl]
 refine Eq.mpr (xCl κ ⟨rel,l,xs,i⟩ _ _ K) ?_
 have ho1:=ho true trivial
 have ho2:=ho false trivial
 simp only[Out.run,aD] at ho1 ho2
 rw[ah,aa1,aa3]
 refine⟨fun h=>an.2 ⟨by simp at h⊢;omega,?_⟩,fun h=>?_⟩
 ·have hk:i<l.length:=by simp only at h;omega
  have hd:=Lu l i hk
  rw[hd] at h3
  have next: ∀ys,ys=Bp (fb (l.drop (i+1)) ((i+1:Nat):Int))->∃m,m<l.length - i/\fm JN Fc PD (fun x=>x.l.length - x.i) K m (JN ⟨rel,l,ys,i+1⟩):=fun ys hy=>
   ⟨_,by simp only;omega,⟨rel,l,ys,i+1⟩,rfl,⟨h1,hk,hy⟩,rfl,ho⟩
  simp only[Int.toNat_natCast]
  rw[aV (n:=(i:Int)+1) (by omega) (by omega),ah]
  refine⟨fun e=>?_,fun e=>?_⟩
  ·rw[aa5 (by simpa using e),aa6] at h3
   exact⟨_,h3,next _ rfl,ho2⟩
  ·rw[aa7 (by simpa using e),aa8] at h3
   exact next _ h3
 ·have hk:i=l.length:=by simp only at h;omega
  rw[aa9 (by omega)] at h3
  have h3:xs=[]:=h3
  subst h3
  exact ho1
noncomputable def XX(κ:Kp):EB:=(QC κ).loop (lCl κ)
theorem yCl(κ:Kp)(l xs:List AV)(rel:ByteArray)(K:AV->List Dn.Obj->Prop):(ba (XX κ).E 12 241 [.cD 0, .ptr 1 0 [] 0] [.ext (some xs), .box 63 (.agg [.lit (.string rel), .ad 56 l])] K)=(
 letI z1:=Pg.toProgram (Env.P (EB.E (QC κ)))
 af z1 241 1=af z1 241 1/\∃(e1:TH),sp 24 [(0,AV.cD 0),(6,AV.ad 56 l),(7,AV.int (↑(l.length):Int)),(8,AV.int 0)] [Obj.ext (some xs),Obj.box 63
 (AV.agg [AV.str rel,AV.ad 56 l])]=JN e1/\Fc e1/\∀(e0:Bool),True->aD e0 (K (AV.bh []) [Obj.ext (some []),Obj.box 63 (AV.agg [AV.str e1.rel,AV.ad 56
 e1.l])]) (K (AV.bh []) [Obj.ext none,Obj.box 63 (AV.agg [AV.str e1.rel,AV.ad 56 e1.l])])):=by kernel_rfl
abbrev WN:=ByteArray×List AV
def PZ(x:WN):List AV×List Dn.Obj:=([.cD 0, .ptr 1 0 [] 0],[.ext (some (Bp (fb x.2 0))), .box 63 (.agg [.lit (.string x.1), .ad 56 x.2])])
def Ft(x:WN):Prop:=x.2.length<=100000
def JI(_:WN):Out (AV×List Dn.Obj):= .all (fun st'=>qH st') fun st'=> .one (.bh [],st')
theorem cCl(κ:Kp):bu (XX κ).E 12 241 (aL PZ Ft JI):=by
 refine aX ?_
 rintro⟨rel,l⟩ K h1 ho
 refine Eq.mpr (yCl κ l (Bp (fb l 0)) rel K) ?_
 refine⟨rfl,⟨rel,l,Bp (fb l 0),0⟩,rfl,⟨h1,Nat.zero_le _,rfl⟩,fun y _=>?_⟩
 cases y
 ·exact ho _ trivial
 ·exact ho _ trivial
noncomputable def WK(κ:Kp):EB:=(XX κ).call (cCl κ)
theorem Yc(κ:Kp)(t:AT)(K:AV->List Dn.Obj->Prop):(ba (WK κ).E 12 120 [cz t] [] K)=(
 ∃(a:List AV),([AV.ad 56 t.l],[])=Iy a/\Al a/\K (AV.agg [AV.int t.op,AV.str t.s,AV.int t.n,AV.ad 56 (c9 (aa a))]) []):=by kernel_rfl
def iE(t:AT):List AV×List Dn.Obj:=([cz t],[])
def RD(t:AT):Out (AV×List Dn.Obj):= .one (QB t,[])
theorem Ww(κ:Kp):bu (WK κ).E 12 120 (aL iE (fun t=>t.tm.iZ<=100000) RD):=by
 refine aX ?_
 rintro t K h ho
 refine Eq.mpr (Yc κ t K) ?_
 have hc:t.tm.iZ=1+aZ (aa t.l):=by rw[AT.tm,Tm.iZ]
 exact⟨t.l,rfl,by show aZ (aa t.l)<=100000;omega,ho⟩
noncomputable def R8(κ:Kp):EB:=(((WK κ).call (Ww κ)).Ss [120]).calm [120,76,56]
structure sw where
 ds:List AV
 rs:List AV
 bd:List AV
 rel:ByteArray
 l:List AV
 op:Int
 sV:Int
 rl:Int
 s:ByteArray
 u:AT
 v:AT
abbrev Sg(x:sw):Dn.Obj:= .box 131 (.agg [gN x.ds x.rs, .ad 9 x.bd])
abbrev Tt(x:sw):Dn.Obj:= .box 63 (.agg [.lit (.string x.rel), .ad 56 x.l])
abbrev RQ(x:sw)(rl:Int)(a b c d e f:AV):Dn.Obj:= .box 58 (.agg [.int x.op, .int x.sV, .int rl,a,b,c,d,e,f, .lit (.string x.s),cz x.u,cz x.v])
noncomputable abbrev Qi(κ:Kp)(x:sw):Dn.Obj:=
 .loop (gh (Pr κ).toProgram 126 3 .ready none (fV (bF 102) [(0, .ptr 0 0 [] 0),(1, .agg [.lit (.string x.rel), .ad 56 x.l]),(2, .ptr 1 0 [] 0),(3, .ptr 2 0 [] 0),(4, .ptr 3 0 [] 0),(5, .ptr 4 0 [] 0),(8, .bh [.int (bw x.rel x.ds), .bool (fA x.rel x.ds)]),(9, .ptr 1 0 [] 0),(10, .ptr 0 0 [] 0),(11, .ptr 0 0 [] 0),(12, .ptr 0 0 [0] 0),(13, .ptr 0 0 [0,0] 0),(14, .ad 61 x.ds),(15, .ptr 3 0 [0] 0),(16, .lit (.string x.rel)),(17, .bh [.int (bw x.rel x.ds), .bool (fA x.rel x.ds)]),(18, .int (bw x.rel x.ds)),(19, .bool (fA x.rel x.ds)),(20, .ptr 1 0 [] 0),(21, .ptr 1 0 [2] 2),(22, .agg [.lit (.string x.rel), .ad 56 x.l]),(23, .bL 241 [.ptr 5 0 [] 0])]))
noncomputable abbrev nz(κ:Kp)(x:sw):List Dn.Obj:=[Sg x,RQ x (bw x.rel x.ds) .nil .nil .nil .nil .nil .nil, .box 129 (.ptr 0 0 [] 0),Tt x, .box 186 (.ptr 1 0 [] 0),Tt x,Qi κ x]
noncomputable abbrev U1(κ:Kp)(x:sw):List Dn.Obj:=[Sg x,RQ x (bw x.rel x.ds) .nil .nil .nil .nil .nil .nil, .box 129 (.ptr 0 0 [] 0),Tt x, .box 186 (.ptr 1 0 [] 0), .dead,Qi κ x]
noncomputable abbrev lx(κ:Kp)(x:sw)(q:SS):List Dn.Obj:=[Sg x,RQ x (bw x.rel x.ds) (.aq 7 0 (iA q.eT).length) (.aq 8 0 q.dm.length) (.aq 9 0 (iA q.da).length) (.aq 10 0 (strs q.binds).length) (.aq 11 0 (iA q.db).length) (.aq 12 0 (strs q.eqs).length), .box 129 (.ptr 0 0 [] 0),Tt x, .box 186 (.ptr 1 0 [] 0), .dead,Qi κ x,
 .row 3 (iA q.eT), .row 56 q.dm, .row 3 (iA q.da), .row 9 (strs q.binds), .row 3 (iA q.db), .row 9 (strs q.eqs)]
def YR:List (Nat×Nat×TypeId):=[(1,3,3),(1,4,56),(1,5,3),(1,6,9),(1,7,3),(1,8,9)]
theorem sAm(κ:Kp)(x:sw)(Q:List Dn.Obj->Prop):(tidy (Pr κ).toProgram 7 (dT (nz κ x) (cy (nz κ x) [.ptr 5 0 [] 0])) Q)=(
 letI z1:=bw x.rel x.ds
 letI z2:=fA x.rel x.ds
 Q [Obj.box 131 (AV.agg [AV.agg [AV.ad 61 x.ds,AV.ad 66 x.rs],AV.ad 9 x.bd]),Obj.box 58 (AV.agg [AV.int x.op,AV.int x.sV,AV.int z1,AV.nil,AV.nil,AV.nil,
 AV.nil,AV.nil,AV.nil,AV.str x.s,cz x.u,cz x.v]),Obj.box 129 (AV.ptr 0 0 [] 0),Obj.box 63 (AV.agg [AV.str x.rel,AV.ad 56 x.l]),Obj.box 186 (AV.ptr 1 0
 [] 0),Obj.dead,Dn.Obj.loop (gh Tryz.prog 126 3 LoopState.ready none (fV (bF 102) [(0,AV.ptr 0 0 [] 0),(1,AV.agg [AV.str x.rel,AV.ad 56 x.l]),(2,AV.ptr 1
 0 [] 0),(3,AV.ptr 2 0 [] 0),(4,AV.ptr 3 0 [] 0),(5,AV.ptr 4 0 [] 0),(8,AV.bh [AV.int z1,AV.bool z2]),(9,AV.ptr 1 0 [] 0),(10,AV.ptr 0 0 [] 0),(11,
 AV.ptr 0 0 [] 0),(12,AV.ptr 0 0 [0] 0),(13,AV.ptr 0 0 [0,0] 0),(14,AV.ad 61 x.ds),(15,AV.ptr 3 0 [0] 0),(16,AV.str x.rel),(17,AV.bh [AV.int z1,
 AV.bool z2]),(18,AV.int z1),(19,AV.bool z2),(20,AV.ptr 1 0 [] 0),(21,AV.ptr 1 0 [2] 2),(22,AV.agg [AV.str x.rel,AV.ad 56 x.l]),(23,AV.bL 241
 [AV.ptr 5 0 [] 0])]))]):=by kernel_rfl
theorem rAm(κ:Kp)(x:sw)(q:SS)(i:Int)(t:AT)(Q:List Dn.Obj->Prop)(K2:List Dn.Obj->Prop):(gT (vc (R8 κ).E 12) 6 [.int i,cz t] (lx κ x q) (fun r st''=>match r with| .lit (.bool true)=>tidy (Pr κ).toProgram 7 st'' Q| .lit (.bool false)=>K2 st''|_=>False))=(
 letI z5:=decide ((List.length (iA q.db)+1+1)*9<=70368744177664)
 letI z6:=decide ((List.length (iA q.da)+1+1)*9<=70368744177664)
 letI z7:=strs q.binds
 letI z8:=AV.agg [AV.agg [AV.ad 61 x.ds,AV.ad 66 x.rs],AV.ad 9 x.bd]
 letI z9:=AV.agg [AV.str x.rel,AV.ad 56 x.l]
 letI z10:=strs q.eqs
 letI z11:=bw x.rel x.ds
 letI z12:=List.length z7
 letI z13:=List.length (iA q.eT)
 letI z14:=List.length (iA q.db)
 letI z15:=List.length (iA q.da)
 letI z16:=List.take z12 (List.drop 0 z7)
 letI z17:=List.length z10
 letI z18:=AV.ptr 0 0 [] 0
 letI z19:=AV.ptr 1 0 [] 0
 letI z20:=fA x.rel x.ds
 letI z1:=gh Tryz.prog 126 3 LoopState.ready none (fV (bF 102) [(0,AV.ptr 0 0 [] 0),(1,AV.agg [AV.str x.rel,AV.ad 56 x.l]),(2,AV.ptr 1 0 [] 0),(3,
  AV.ptr 2 0 [] 0),(4,AV.ptr 3 0 [] 0),(5,AV.ptr 4 0 [] 0),(8,AV.bh [AV.int z11,AV.bool z20]),(9,AV.ptr 1 0 [] 0),(10,AV.ptr 0 0 [] 0),(11,AV.ptr 0 0
  [] 0),(12,AV.ptr 0 0 [0] 0),(13,AV.ptr 0 0 [0,0] 0),(14,AV.ad 61 x.ds),(15,AV.ptr 3 0 [0] 0),(16,AV.str x.rel),(17,AV.bh [AV.int z11,AV.bool
  z20]),(18,AV.int z11),(19,AV.bool z20),(20,AV.ptr 1 0 [] 0),(21,AV.ptr 1 0 [2] 2),(22,AV.agg [AV.str x.rel,AV.ad 56 x.l]),(23,AV.bL 241 [AV.ptr 5 0
  [] 0])])
 letI z2:=a7 (decide ((List.length z7+1+1)*17<=70368744177664)) (Q [Obj.box 131 z8,Obj.box 58 (AV.agg [AV.int x.op,AV.int x.sV,AV.int z11,AV.aq 7 0
  z13,AV.aq 8 0 q.dm.length,AV.aq 9 0 (List.length (iA q.da)+1),AV.aq 10 0 (List.length z7+1),AV.aq 11 0 z14,AV.aq 12 0 z17,AV.str x.s,cz x.u,cz
  x.v]),Obj.box 129 z18,Obj.box 63 z9,Obj.box 186 z19,Obj.dead,Dn.Obj.loop z1,Obj.row 3 (iA q.eT),Obj.row 56 q.dm,Obj.row 3 (List.take z15 (iA q.da)++
  [AV.int i]),Obj.row 9 (List.take z12 z7++[AV.str t.s]),Obj.row 3 (iA q.db),Obj.row 9 z10])
 letI z3:=a7 (decide ((List.length z10+1+1)*17<=70368744177664)) (Q [Obj.box 131 z8,Obj.box 58 (AV.agg [AV.int x.op,AV.int x.sV,AV.int z11,AV.aq 7 0
  z13,AV.aq 8 0 q.dm.length,AV.aq 9 0 z15,AV.aq 10 0 z12,AV.aq 11 0 (List.length (iA q.db)+1),AV.aq 12 0 (List.length z10+1),AV.str x.s,cz x.u,cz
  x.v]),Obj.box 129 z18,Obj.box 63 z9,Obj.box 186 z19,Obj.dead,Dn.Obj.loop z1,Obj.row 3 (iA q.eT),Obj.row 56 q.dm,Obj.row 3 (iA q.da),Obj.row 9 z7,
  Obj.row 3 (List.take z14 (iA q.db)++[AV.int i]),Obj.row 9 (List.take z17 z10++[AV.str t.s])])
 letI z4:=a7 (decide ((List.length (iA q.eT)+1+1)*9<=70368744177664)) (∃(e0:AT),([cz t],[])=iE e0/\Tm.iZ (AT.tm e0)<=100000/\a7 (decide
  ((q.dm.length+1+1)*57<=70368744177664)) (Q [Obj.box 131 z8,Obj.box 58 (AV.agg [AV.int x.op,AV.int x.sV,AV.int z11,AV.aq 7 0 (List.length (iA q.eT)+
  1),AV.aq 8 0 (q.dm.length+1),AV.aq 9 0 z15,AV.aq 10 0 z12,AV.aq 11 0 z14,AV.aq 12 0 z17,AV.str x.s,cz x.u,cz x.v]),Obj.box 129 z18,Obj.box 63 z9,
  Obj.box 186 z19,Obj.dead,Dn.Obj.loop z1,Obj.row 3 (List.take z13 (iA q.eT)++[AV.int i]),Obj.row 56 (List.take q.dm.length q.dm++[AV.agg [AV.int e0.op,
  AV.str e0.s,AV.int e0.n,AV.ad 56 (c9 (aa e0.l))]]),Obj.row 3 (iA q.da),Obj.row 9 z7,Obj.row 3 (iA q.db),Obj.row 9 z10]))
 aD (t.op==(1:Int)) (a7 (decide (x.bd.length<=9223372036854775807)) (aD (!!decide (dU t.s x.bd (0:Int)>=(0:Int))) z4 (a7 (decide (List.length z16<=
 9223372036854775807)) (aD (decide (dU t.s z16 (0:Int)>=(0:Int))) ((a7 z5 z3/\a7 z5 z3)/\a7 z5 z3) ((a7 z6 z2/\a7 z6 z2)/\a7 z6 z2))))) z4):=by kernel_rfl
theorem mAm(κ:Kp)(x:sw):o6 YR (U1 κ x)=lx κ x Rr:=by kernel_rfl
theorem oAm(κ:Kp)(x:sw):nB (nz κ x) [.ptr 5 0 [] 0]=true:=by kernel_rfl
theorem kAm(κ:Kp)(x:sw)(xs:List AV):(AV.cD 0::fS (jH (cy (nz κ x) [.ptr 5 0 [] 0])) [.ptr 5 0 [] 0],Obj.ext (some xs)::gq (jH (cy (nz κ x) [.ptr 5 0 [] 0])) (gR (nz κ x) (cy (nz κ x) [.ptr 5 0 [] 0])))=([.cD 0, .ptr 1 0 [] 0],[.ext (some xs),Tt x]):=by kernel_rfl
theorem Gt: ∀{l:List AV} {x:AV},x∈l->(cR x).iZ<=aZ (aa l)
 | a::l,x,h=>by
  rw[aa,ac1,aZ]
  rcases List.mem_cons.1 h with rfl|h
  ·omega
  ·have:=Gt h
   rw[aa] at this;omega
theorem ze: ∀{l:List AV} {i:Int} {e:Int×AT},e∈fb l i->∃x,x∈l/\e.2=xd x
 |[],_,_,h=>by simp[fb] at h
 | a::l,i,e,h=>by
  rw[fb] at h
  cases hc:decide (toInt (ae a 0)=4) with
  |true=>
   rw[hc,aa8] at h
   obtain⟨x,h1,h2⟩:=ze h
   exact⟨x,by simp[h1],h2⟩
  | false=>
   rw[hc,aa6] at h
   rcases List.mem_cons.1 h with rfl|h
   ·exact⟨a,by simp,rfl⟩
   ·obtain⟨x,h1,h2⟩:=ze h
    exact⟨x,by simp[h1],h2⟩
structure qn(x:sw):Prop where
 hl:aZ (aa x.l)<=100000
 hb:x.bd.length<=100000
 hd:x.ds.length<=aR
noncomputable def UE(κ:Kp)(x:sw):List AV×List Dn.Obj:=([.ptr 5 0 [] 0],nz κ x)
noncomputable def TN(κ:Kp):dB:=fun caps st K=>∃x:sw,(caps,st)=UE κ x/\qn x/\K (lx κ x (iT x.bd (fb x.l 0)))
theorem IH(κ:Kp):(TN κ).jf:=by
 rintro caps st K K' hK ⟨a,h1,h2,h3⟩
 exact⟨a,h1,h2,hK _ h3⟩
theorem P9(κ:Kp)(args:List AV)(st:List Dn.Obj)(K:AV->List Dn.Obj->Prop)(h:aL PZ Ft JI args st K):(R8 κ).E.call 241 args st K:=h
theorem Xu{n:Nat}(h:n<=200000):decide ((n+1+1)*9<=70368744177664)=true:=by rw[aa1];omega
theorem Uw{n:Nat}(h:n<=200000):decide ((n+1+1)*17<=70368744177664)=true:=by rw[aa1];omega
theorem XO{n:Nat}(h:n<=200000):decide ((n+1+1)*57<=70368744177664)=true:=by rw[aa1];omega
attribute [local irreducible] o6
theorem gAm(κ:Kp):tW (R8 κ).E 12 241 YR (TN κ):=by
 rintro caps st K ⟨x,h1,hf,h5⟩
 obtain⟨rfl,rfl⟩:=Prod.mk.inj (show(caps,st)=([.ptr 5 0 [] 0],nz κ x) from h1)
 have hll:=fy (aa x.l)
 rw[eM] at hll
 have hl:=hf.hl
 have hb:=hf.hb
 have hcl:=CU x.l 0
 refine⟨Bp (fb x.l 0),fun items st'=>∃E1 E2,items=Bp E2/\st'=lx κ x (iT x.bd E1)/\E1++E2=fb x.l 0,⟨oAm κ x,?_,?_,?_,?_⟩⟩
 ·refine P9 κ _ _ _ ⟨(x.rel,x.l),?_,by show x.l.length<=100000;omega,fun st' h=>h⟩
  rw[kAm];rfl
 ·rw[show(R8 κ).E.P=Pr κ from rfl,show(nz κ x).length=7 from rfl,sAm]
  refine Exists.intro [] (Exists.intro (fb x.l 0) (And.intro (Eq.refl _) (And.intro ?_ (List.nil_append _))))
  exact mAm κ x
 ·rintro us rest st' ⟨E1,E2,e1,rfl,e3⟩
  cases E2 with
  |nil=>cases e1
  | cons e E2=>
   obtain⟨i,t⟩:=e
   obtain⟨hu,rfl⟩:=List.cons.inj e1
   obtain rfl:=AV.bh.inj hu
   rw[show(R8 κ).E.P=Pr κ from rfl,show(nz κ x).length=7 from rfl]
   rw[show(7:Nat) - 1=6 from rfl,show[AV.int (i,t).1,cz (i,t).2]=[AV.int i,cz t] from rfl]
   refine Eq.mpr (rAm κ x (iT x.bd E1) i t (fun st'=>∃F1 F2,Bp E2=Bp F2/\st'=lx κ x (iT x.bd F1)/\F1++F2=fb x.l 0) K) ?_
   have hle:(iT x.bd E1).le (0+E1.length):=O6 (bd:=x.bd) E1 Rs
   have hE:E1.length<=(fb x.l 0).length:=by rw[←e3];simp
   obtain⟨q1,q2,q3,q4,q5,q6⟩:=hle
   simp only[Nat.zero_add] at q1 q2 q3 q4 q5 q6
   have hc:t.tm.iZ<=100000:=by
    obtain⟨y,y1,y2⟩:=ze (show(i,t)∈fb x.l 0 by rw[←e3];simp)
    have:=Gt y1
    simp only at y2
    rw[y2,nI];omega
   have next: ∀st',st'=lx κ x (AY x.bd (iT x.bd E1) (i,t))->∃F1 F2,Bp E2=Bp F2/\st'=lx κ x (iT x.bd F1)/\F1++F2=fb x.l 0:=fun st' h=>
    ⟨E1++[(i,t)],E2,rfl,by rw[h];simp[iT],by rw[←e3];simp⟩
   generalize iT x.bd E1=q at*
   have hbd:decide (x.bd.length<=9223372036854775807)=true:=by rw[aa1];omega
   have hbn:decide ((strs q.binds).length<=9223372036854775807)=true:=by rw[aa1,aW];clear next;omega
   rw[←gf q.eT] at q1
   rw[←gf q.da] at q3
   rw[←aW q.binds] at q4
   rw[←gf q.db] at q5
   rw[←aW q.eqs] at q6
   have cA:C9 x.bd t=false->∃F1 F2,Bp E2=Bp F2/\lx κ x {q with eT:=q.eT++[i],dm:=q.dm++[QB t]}=lx κ x (iT x.bd F1)/\F1++F2=fb x.l 0:=fun h=>next _ (by unfold AY;simp only[h];rfl)
   have cB:C9 x.bd t=true->lJ t.s (strs q.binds)=true->∃F1 F2,Bp E2=Bp F2/\lx κ x {q with db:=q.db++[i],eqs:=q.eqs++[t.s]}=lx κ x (iT x.bd F1)/\F1++F2=fb x.l 0:=fun h h2=>next _ (by unfold AY;simp only[h,h2];rfl)
   have cC:C9 x.bd t=true->lJ t.s (strs q.binds)=false->∃F1 F2,Bp E2=Bp F2/\lx κ x {q with da:=q.da++[i],binds:=q.binds++[t.s]}=lx κ x (iT x.bd F1)/\F1++F2=fb x.l 0:=fun h h2=>next _ (by unfold AY;simp only[h,h2];rfl)
   have iA1:iA [i]=[AV.int i]:=rfl
   have st1:strs [t.s]=[AV.str t.s]:=rfl
   simp only[lx,RQ,wC,ij,ab9,iA1,st1,List.length_singleton] at cA cB cC
   clear next h5 hf h1
   simp only[ab1,List.take_length]
   have b1:=Xu (n:=(iA q.eT).length) (by omega)
   have b2:=XO (n:=q.dm.length) (by omega)
   have b3:=Xu (n:=(iA q.db).length) (by omega)
   have b4:=Uw (n:=(strs q.eqs).length) (by omega)
   have b5:=Xu (n:=(iA q.da).length) (by omega)
   have b6:=Uw (n:=(strs q.binds).length) (by omega)
   rw[ah]
   refine⟨fun e1=>an.2 ⟨hbd,ah.2 ⟨fun e2=>?_,fun e2=>an.2 ⟨hbn,ah.2 ⟨fun e3=>?_,fun e3=>?_⟩⟩⟩⟩,fun e1=>?_⟩
   ·exact an.2 ⟨b1,t,rfl,hc,an.2 ⟨b2,cA (by unfold C9 lJ;rw[Bool.not_not] at e2;rw[e2,Bool.not_true,Bool.and_false])⟩⟩
   ·have h:=cB (by unfold C9 lJ;rw[Bool.not_not] at e2;rw[e2,e1];rfl) e3
    repeat' first
     |exact an.2 ⟨b3,an.2 ⟨b4,h⟩⟩
     |refine And.intro ?_ ?_
   ·have h:=cC (by unfold C9 lJ;rw[Bool.not_not] at e2;rw[e2,e1];rfl) e3
    repeat' first
     |exact an.2 ⟨b5,an.2 ⟨b6,h⟩⟩
     |refine And.intro ?_ ?_
   ·exact an.2 ⟨b1,t,rfl,hc,an.2 ⟨b2,cA (by unfold C9;rw[e1,Bool.false_and])⟩⟩
 ·rintro st' ⟨E1,E2,e1,rfl,e3⟩
  obtain rfl:E2=[]:=by cases E2 with|nil=>rfl|cons _ _=>cases e1
  rw[List.append_nil] at e3
  rw[e3];exact h5
noncomputable def XF(κ:Kp):EB:=(R8 κ).RV 126 3 (IH κ) (gAm κ) (fun f=>jk f (241::Qp))
theorem yAm(κ:Kp)(x:sw)(K:AV->List Dn.Obj->Prop):(ba (XF κ).E 12 126 [.ptr 0 0 [] 0, .agg [.lit (.string x.rel), .ad 56 x.l], .ptr 1 0 [] 0] [Sg x,RQ x x.rl .nil .nil .nil .nil .nil .nil] K)=(
 letI z1:=AV.agg [AV.str x.rel,AV.ad 56 x.l]
 ∃(e1:List AV×ByteArray),([AV.ad 61 x.ds,AV.str x.rel],[])=Bg e1/\gL e1/\∃(e0:sw),([AV.ptr 5 0 [] 0],[Obj.box 131 (AV.agg [AV.agg [AV.ad 61
 x.ds,AV.ad 66 x.rs],AV.ad 9 x.bd]),Obj.box 58 (AV.agg [AV.int x.op,AV.int x.sV,AV.int (bw e1.2 e1.1),AV.nil,AV.nil,AV.nil,AV.nil,AV.nil,AV.nil,
 AV.str x.s,cz x.u,cz x.v]),Obj.box 129 (AV.ptr 0 0 [] 0),Obj.box 63 z1,Obj.box 186 (AV.ptr 1 0 [] 0),Obj.box 63 z1,Dn.Obj.loop (gh Tryz.prog 126 3
 LoopState.ready none (fV (bF 102) [(0,AV.ptr 0 0 [] 0),(1,AV.agg [AV.str x.rel,AV.ad 56 x.l]),(2,AV.ptr 1 0 [] 0),(3,AV.ptr 2 0 [] 0),(4,AV.ptr 3 0 []
 0),(5,AV.ptr 4 0 [] 0),(8,AV.bh [AV.int (bw e1.2 e1.1),AV.bool (fA e1.2 e1.1)]),(9,AV.ptr 1 0 [] 0),(10,AV.ptr 0 0 [] 0),(11,AV.ptr 0 0 [] 0),(12,
 AV.ptr 0 0 [0] 0),(13,AV.ptr 0 0 [0,0] 0),(14,AV.ad 61 x.ds),(15,AV.ptr 3 0 [0] 0),(16,AV.str x.rel),(17,AV.bh [AV.int (bw e1.2 e1.1),AV.bool (fA
 e1.2 e1.1)]),(18,AV.int (bw e1.2 e1.1)),(19,AV.bool (fA e1.2 e1.1)),(20,AV.ptr 1 0 [] 0),(21,AV.ptr 1 0 [2] 2),(22,AV.agg [AV.str x.rel,AV.ad 56
 x.l]),(23,AV.bL 241 [AV.ptr 5 0 [] 0])]))])=UE κ e0/\qn e0/\K (AV.bh []) [Obj.box 131 (AV.agg [AV.agg [AV.ad 61 e0.ds,AV.ad 66 e0.rs],AV.ad 9 e0.bd]),
 Obj.box 58 (AV.agg [AV.int e0.op,AV.int e0.sV,AV.int (bw e0.rel e0.ds),AV.aq 2 0 (List.length (iA (SS.eT (iT e0.bd (fb e0.l (0:Int)))))),AV.aq 3 0
 (List.length (SS.dm (iT e0.bd (fb e0.l (0:Int))))),AV.aq 4 0 (List.length (iA (SS.da (iT e0.bd (fb e0.l (0:Int)))))),AV.aq 5 0 (List.length (strs
 (SS.binds (iT e0.bd (fb e0.l (0:Int)))))),AV.aq 6 0 (List.length (iA (SS.db (iT e0.bd (fb e0.l (0:Int)))))),AV.aq 7 0 (List.length (strs (SS.eqs (iT e0.bd
 (fb e0.l (0:Int)))))),AV.str e0.s,cz e0.u,cz e0.v]),Obj.row 3 (iA (SS.eT (iT e0.bd (fb e0.l (0:Int))))),Obj.row 56 (SS.dm (iT e0.bd (fb e0.l (0:
 Int)))),Obj.row 3 (iA (SS.da (iT e0.bd (fb e0.l (0:Int))))),Obj.row 9 (strs (SS.binds (iT e0.bd (fb e0.l (0:Int))))),Obj.row 3 (iA (SS.db (iT e0.bd (fb
 e0.l (0:Int))))),Obj.row 9 (strs (SS.eqs (iT e0.bd (fb e0.l (0:Int)))))]):=by kernel_rfl
def xi(x:sw):List AV×List Dn.Obj:=([.ptr 0 0 [] 0, .agg [.lit (.string x.rel), .ad 56 x.l], .ptr 1 0 [] 0],[Sg x,RQ x x.rl .nil .nil .nil .nil .nil .nil])
def iI(x:sw):SS:=iT x.bd (fb x.l 0)
abbrev S2(x:sw)(q:SS):List Dn.Obj:=[Sg x,RQ x (bw x.rel x.ds) (.aq 2 0 (iA q.eT).length) (.aq 3 0 q.dm.length) (.aq 4 0 (iA q.da).length) (.aq 5 0 (strs q.binds).length) (.aq 6 0 (iA q.db).length) (.aq 7 0 (strs q.eqs).length),
 .row 3 (iA q.eT), .row 56 q.dm, .row 3 (iA q.da), .row 9 (strs q.binds), .row 3 (iA q.db), .row 9 (strs q.eqs)]
def QF(x:sw):Out (AV×List Dn.Obj):= .one (.bh [],S2 x (iI x))
theorem cAm(κ:Kp):bu (XF κ).E 12 126 (aL xi qn QF):=by
 refine aX ?_
 rintro x K hf ho
 refine Eq.mpr (yAm κ x K) ?_
 exact⟨(x.ds,x.rel),rfl,hf.hd,x,rfl,hf,ho⟩
noncomputable def Xm(κ:Kp):EB:=(XF κ).opened [(1,[10,3],56),(1,[11,3],56)] [] (cAm κ)
structure R3 where
 ds:List AV
 rs:List AV
 bd:List AV
 rel:ByteArray
 l:List AV
 op:Int
 u:AT
 v:AT
abbrev V6(x:R3):Dn.Obj:= .box 131 (.agg [gN x.ds x.rs, .ad 9 x.bd])
theorem ySp(κ:Kp)(x:R3)(K:AV->List Dn.Obj->Prop):(ba (Xm κ).E 12 78 [.ptr 0 0 [] 0, .agg [.int x.op, .agg [.lit (.string x.rel), .ad 56 x.l],cz x.u,cz x.v]] [V6 x] K)=(
 letI z4:=AV.agg [AV.agg [AV.ad 61 x.ds,AV.ad 66 x.rs],AV.ad 9 x.bd]
 letI z1:=∃(e1:AT),([AV.agg [AV.int x.u.op,AV.str x.u.s,AV.int x.u.n,AV.ad 56 x.u.l]],[])=iE e1/\Tm.iZ (AT.tm e1)<=100000/\∃(e0:AT),([AV.agg [AV.int x.v.op,AV.str x.v.s,AV.int x.v.n,AV.ad 56 x.v.l]],[])=iE e0/\Tm.iZ (AT.tm e0)<=100000/\K (AV.agg [AV.int 3,AV.int x.op,AV.int 0,AV.ad 3 [],AV.ad 56 [],AV.ad 3 [],AV.ad 9 [],AV.ad 3 [],AV.ad 9 [],AV.str {data:= #[]},AV.agg [AV.int e1.op,AV.str e1.s,AV.int e1.n,AV.ad 56 (c9 (aa e1.l))],AV.agg [AV.int e0.op,AV.str e0.s,AV.int e0.n,AV.ad 56 (c9 (aa e0.l))]]) [Obj.box 131 z4]
 letI z2:=∃(e0:sw),([AV.ptr 0 0 [] 0,AV.agg [AV.str x.rel,AV.ad 56 x.l],AV.ptr 1 0 [] 0],[Obj.box 131 z4,Obj.box 58 (AV.agg [AV.int 5,AV.int x.op,AV.int 0,AV.nil,AV.nil,AV.nil,AV.nil,AV.nil,AV.nil,AV.str {data:= #[]},AV.agg [AV.int x.u.op,AV.str x.u.s,AV.int x.u.n,AV.ad 56 x.u.l],AV.agg [AV.int x.v.op,AV.str x.v.s,AV.int x.v.n,AV.ad 56 x.v.l]])])=xi e0/\qn e0/\K (AV.agg [AV.int e0.op,AV.int e0.sV,AV.int (bw e0.rel e0.ds),AV.ad 3 (List.take (List.length (iA (SS.eT (iI e0)))) (List.drop 0 (iA (SS.eT (iI e0))))),AV.ad 56 (List.take (List.length (SS.dm (iI e0))) (List.drop 0 (SS.dm (iI e0)))),AV.ad 3 (List.take (List.length (iA (SS.da (iI e0)))) (List.drop 0 (iA (SS.da (iI e0))))),AV.ad 9 (List.take (List.length (strs (SS.binds (iI e0)))) (List.drop 0 (strs (SS.binds (iI e0))))),AV.ad 3 (List.take (List.length (iA (SS.db (iI e0)))) (List.drop 0 (iA (SS.db (iI e0))))),AV.ad 9 (List.take (List.length (strs (SS.eqs (iI e0)))) (List.drop 0 (strs (SS.eqs (iI e0))))),AV.str e0.s,AV.agg [AV.int e0.u.op,AV.str e0.u.s,AV.int e0.u.n,AV.ad 56 e0.u.l],AV.agg [AV.int e0.v.op,AV.str e0.v.s,AV.int e0.v.n,AV.ad 56 e0.v.l]]) [Obj.box 131 (AV.agg [AV.agg [AV.ad 61 e0.ds,AV.ad 66 e0.rs],AV.ad 9 e0.bd])]
 letI z5:=decide (x.bd.length<=9223372036854775807)
 letI z3:=a7 z5 (aD (!decide (dU x.v.s x.bd (0:Int)>=(0:Int))) (∃(e0:AT),([AV.agg [AV.int x.u.op,AV.str x.u.s,AV.int x.u.n,AV.ad 56 x.u.l]],[])=iE e0/\Tm.iZ (AT.tm e0)<=100000/\K (AV.agg [AV.int 4,AV.int 0,AV.int 0,AV.ad 3 [],AV.ad 56 [],AV.ad 3 [],AV.ad 9 [],AV.ad 3 [],AV.ad 9 [],AV.str x.v.s,AV.agg [AV.int e0.op,AV.str e0.s,AV.int e0.n,AV.ad 56 (c9 (aa e0.l))],AV.agg [AV.int 0,AV.str {data:= #[]},AV.int 0,AV.ad 56 []]]) [Obj.box 131 z4]) z1)
 letI z6:=!decide (dU x.u.s x.bd (0:Int)>=(0:Int))
 aD (x.op==(2:Int)) (∃(e0:sw),([AV.ptr 0 0 [] 0,AV.agg [AV.str x.rel,AV.ad 56 x.l],AV.ptr 1 0 [] 0],[Obj.box 131 z4,Obj.box 58 (AV.agg [AV.int 2,AV.int 0,AV.int 0,AV.nil,AV.nil,AV.nil,AV.nil,AV.nil,AV.nil,AV.str {data:= #[]},AV.agg [AV.int 0,AV.str {data:= #[]},AV.int 0,AV.ad 56 []],AV.agg [AV.int 0,AV.str {data:= #[]},AV.int 0,AV.ad 56 []]])])=xi e0/\qn e0/\K (AV.agg [AV.int e0.op,AV.int e0.sV,AV.int (bw e0.rel e0.ds),AV.ad 3 (List.take (List.length (iA (SS.eT (iI e0)))) (List.drop 0 (iA (SS.eT (iI e0))))),AV.ad 56 (List.take (List.length (SS.dm (iI e0))) (List.drop 0 (SS.dm (iI e0)))),AV.ad 3 (List.take (List.length (iA (SS.da (iI e0)))) (List.drop 0 (iA (SS.da (iI e0))))),AV.ad 9 (List.take (List.length (strs (SS.binds (iI e0)))) (List.drop 0 (strs (SS.binds (iI e0))))),AV.ad 3 (List.take (List.length (iA (SS.db (iI e0)))) (List.drop 0 (iA (SS.db (iI e0))))),AV.ad 9 (List.take (List.length (strs (SS.eqs (iI e0)))) (List.drop 0 (strs (SS.eqs (iI e0))))),AV.str e0.s,AV.agg [AV.int e0.u.op,AV.str e0.u.s,AV.int e0.u.n,AV.ad 56 e0.u.l],AV.agg [AV.int e0.v.op,AV.str e0.v.s,AV.int e0.v.n,AV.ad 56 e0.v.l]]) [Obj.box 131 (AV.agg [AV.agg [AV.ad 61 e0.ds,AV.ad 66 e0.rs],AV.ad 9 e0.bd])]) (aD (x.op==(1:Int)) (∃(e0:sw),([AV.ptr 0 0 [] 0,AV.agg [AV.str x.rel,AV.ad 56 x.l],AV.ptr 1 0 [] 0],[Obj.box 131 z4,Obj.box 58 (AV.agg [AV.int 1,AV.int 0,AV.int 0,AV.nil,AV.nil,AV.nil,AV.nil,AV.nil,AV.nil,AV.str {data:= #[]},AV.agg [AV.int 0,AV.str {data:= #[]},AV.int 0,AV.ad 56 []],AV.agg [AV.int 0,AV.str {data:= #[]},AV.int 0,AV.ad 56 []]])])=xi e0/\qn e0/\K (AV.agg [AV.int e0.op,AV.int e0.sV,AV.int (bw e0.rel e0.ds),AV.ad 3 (List.take (List.length (iA (SS.eT (iI e0)))) (List.drop 0 (iA (SS.eT (iI e0))))),AV.ad 56 (List.take (List.length (SS.dm (iI e0))) (List.drop 0 (SS.dm (iI e0)))),AV.ad 3 (List.take (List.length (iA (SS.da (iI e0)))) (List.drop 0 (iA (SS.da (iI e0))))),AV.ad 9 (List.take (List.length (strs (SS.binds (iI e0)))) (List.drop 0 (strs (SS.binds (iI e0))))),AV.ad 3 (List.take (List.length (iA (SS.db (iI e0)))) (List.drop 0 (iA (SS.db (iI e0))))),AV.ad 9 (List.take (List.length (strs (SS.eqs (iI e0)))) (List.drop 0 (strs (SS.eqs (iI e0))))),AV.str e0.s,AV.agg [AV.int e0.u.op,AV.str e0.u.s,AV.int e0.u.n,AV.ad 56 e0.u.l],AV.agg [AV.int e0.v.op,AV.str e0.v.s,AV.int e0.v.n,AV.ad 56 e0.v.l]]) [Obj.box 131 (AV.agg [AV.agg [AV.ad 61 e0.ds,AV.ad 66 e0.rs],AV.ad 9 e0.bd])]) (aD (x.op==(3:Int)) (aD (x.u.op==(1:Int)) (a7 z5 (aD z6 (∃(e0:AT),([AV.agg [AV.int x.v.op,AV.str x.v.s,AV.int x.v.n,AV.ad 56 x.v.l]],[])=iE e0/\Tm.iZ (AT.tm e0)<=100000/\K (AV.agg [AV.int 4,AV.int 0,AV.int 0,AV.ad 3 [],AV.ad 56 [],AV.ad 3 [],AV.ad 9 [],AV.ad 3 [],AV.ad 9 [],AV.str x.u.s,AV.agg [AV.int e0.op,AV.str e0.s,AV.int e0.n,AV.ad 56 (c9 (aa e0.l))],AV.agg [AV.int 0,AV.str {data:= #[]},AV.int 0,AV.ad 56 []]]) [Obj.box 131 z4]) (aD (x.v.op==(1:Int)) z3 (∃(e1:AT),([AV.agg [AV.int x.u.op,AV.str x.u.s,AV.int x.u.n,AV.ad 56 x.u.l]],[])=iE e1/\Tm.iZ (AT.tm e1)<=100000/\∃(e0:AT),([AV.agg [AV.int x.v.op,AV.str x.v.s,AV.int x.v.n,AV.ad 56 x.v.l]],[])=iE e0/\Tm.iZ (AT.tm e0)<=100000/\K (AV.agg [AV.int 3,AV.int x.op,AV.int 0,AV.ad 3 [],AV.ad 56 [],AV.ad 3 [],AV.ad 9 [],AV.ad 3 [],AV.ad 9 [],AV.str {data:= #[]},AV.agg [AV.int e1.op,AV.str e1.s,AV.int e1.n,AV.ad 56 (c9 (aa e1.l))],AV.agg [AV.int e0.op,AV.str e0.s,AV.int e0.n,AV.ad 56 (c9 (aa e0.l))]]) [Obj.box 131 z4])))) (aD (x.v.op==(1:Int)) z3 z1)) (aD (x.op==(4:Int)) z1 (aD (x.op==(5:Int)) z1 (aD (x.op==(6:Int)) z1 (aD (x.u.op==(1:Int)) (a7 z5 (aD z6 (∃(e0:sw),([AV.ptr 0 0 [] 0,AV.agg [AV.str x.rel,AV.ad 56 x.l],AV.ptr 1 0 [] 0],[Obj.box 131 z4,Obj.box 58 (AV.agg [AV.int 5,AV.int x.op,AV.int 0,AV.nil,AV.nil,AV.nil,AV.nil,AV.nil,AV.nil,AV.str x.u.s,AV.agg [AV.int 0,AV.str {data:= #[]},AV.int 0,AV.ad 56 []],AV.agg [AV.int x.v.op,AV.str x.v.s,AV.int x.v.n,AV.ad 56 x.v.l]])])=xi e0/\qn e0/\K (AV.agg [AV.int e0.op,AV.int e0.sV,AV.int (bw e0.rel e0.ds),AV.ad 3 (List.take (List.length (iA (SS.eT (iI e0)))) (List.drop 0 (iA (SS.eT (iI e0))))),AV.ad 56 (List.take (List.length (SS.dm (iI e0))) (List.drop 0 (SS.dm (iI e0)))),AV.ad 3 (List.take (List.length (iA (SS.da (iI e0)))) (List.drop 0 (iA (SS.da (iI e0))))),AV.ad 9 (List.take (List.length (strs (SS.binds (iI e0)))) (List.drop 0 (strs (SS.binds (iI e0))))),AV.ad 3 (List.take (List.length (iA (SS.db (iI e0)))) (List.drop 0 (iA (SS.db (iI e0))))),AV.ad 9 (List.take (List.length (strs (SS.eqs (iI e0)))) (List.drop 0 (strs (SS.eqs (iI e0))))),AV.str e0.s,AV.agg [AV.int e0.u.op,AV.str e0.u.s,AV.int e0.u.n,AV.ad 56 e0.u.l],AV.agg [AV.int e0.v.op,AV.str e0.v.s,AV.int e0.v.n,AV.ad 56 e0.v.l]]) [Obj.box 131 (AV.agg [AV.agg [AV.ad 61 e0.ds,AV.ad 66 e0.rs],AV.ad 9 e0.bd])]) z2)) z2))))))):=by kernel_rfl
structure PB(x:R3):Prop where
 hl:aZ (aa x.l)<=100000
 hb:x.bd.length<=100000
 hd:x.ds.length<=aR
 hu:x.u.tm.iZ<=100000
 hv:x.v.tm.iZ<=100000
def Uv(x:R3):List AV×List Dn.Obj:=([.ptr 0 0 [] 0, .agg [.int x.op, .agg [.lit (.string x.rel), .ad 56 x.l],cz x.u,cz x.v]],[V6 x])
def UU(x:R3):Out (AV×List Dn.Obj):= .one (VS (s7 x.ds x.bd x.rel x.l x.op x.u x.v),[V6 x])
theorem cSp(κ:Kp):bu (Xm κ).E 12 78 (aL Uv PB UU):=by
 refine aX ?_
 rintro x K hf ho
 refine Eq.mpr (ySp κ x K) ?_
 have hbd:decide (x.bd.length<=9223372036854775807)=true:=by
  have:=hf.hb
  rw[aa1];omega
 have fa: ∀op sV rl s u v,qn ⟨x.ds,x.rs,x.bd,x.rel,x.l,op,sV,rl,s,u,v⟩:=fun _ _ _ _ _ _=>⟨hf.hl,hf.hb,hf.hd⟩
 have ho:K (VS (s7 x.ds x.bd x.rel x.l x.op x.u x.v)) [V6 x]:=ho
 unfold s7 C9 at ho
 simp only[ab1,List.take_length,hbd]
 cases h2:(x.op==2) with
 |true=>
  rw[h2] at ho
  exact⟨⟨x.ds,x.rs,x.bd,x.rel,x.l,2,0,0,ByteArray.mk #[],zT,zT⟩,rfl,fa _ _ _ _ _ _,ho⟩
 | false=>
  rw[h2] at ho
  cases h1:(x.op==1) with
  |true=>
   rw[h1] at ho
   exact⟨⟨x.ds,x.rs,x.bd,x.rel,x.l,1,0,0,ByteArray.mk #[],zT,zT⟩,rfl,fa _ _ _ _ _ _,ho⟩
  | false=>
   rw[h1] at ho
   cases h3:(x.op==3) with
   | true=>
    rw[h3] at ho
    cases hu1:(x.u.op==1)<;>rw[hu1] at ho
    ·cases hv1:(x.v.op==1)<;>rw[hv1] at ho
     ·exact⟨x.u,rfl,hf.hu,x.v,rfl,hf.hv,ho⟩
     ·cases hv2:lJ x.v.s x.bd<;>rw[hv2] at ho<;>unfold lJ at hv2<;>rw[hv2]
      ·exact⟨x.u,rfl,hf.hu,ho⟩
      ·exact⟨x.u,rfl,hf.hu,x.v,rfl,hf.hv,ho⟩
    ·cases hu2:lJ x.u.s x.bd<;>rw[hu2] at ho<;>unfold lJ at hu2<;>rw[hu2]
     ·exact⟨x.v,rfl,hf.hv,ho⟩
     ·cases hv1:(x.v.op==1)<;>rw[hv1] at ho
      ·exact⟨x.u,rfl,hf.hu,x.v,rfl,hf.hv,ho⟩
      ·cases hv2:lJ x.v.s x.bd<;>rw[hv2] at ho<;>unfold lJ at hv2<;>rw[hv2]
       ·exact⟨x.u,rfl,hf.hu,ho⟩
       ·exact⟨x.u,rfl,hf.hu,x.v,rfl,hf.hv,ho⟩
   | false=>
    rw[h3] at ho
    cases h4:(x.op==4) with
    |true=>rw[h4] at ho;exact⟨x.u,rfl,hf.hu,x.v,rfl,hf.hv,ho⟩
    | false=>
     rw[h4] at ho
     cases h5:(x.op==5) with
     |true=>rw[h5] at ho;exact⟨x.u,rfl,hf.hu,x.v,rfl,hf.hv,ho⟩
     | false=>
      rw[h5] at ho
      cases h6:(x.op==6) with
      |true=>rw[h6] at ho;exact⟨x.u,rfl,hf.hu,x.v,rfl,hf.hv,ho⟩
      | false=>
       rw[h6] at ho
       cases hu1:(x.u.op==1)<;>rw[hu1] at ho
       ·exact⟨⟨x.ds,x.rs,x.bd,x.rel,x.l,5,x.op,0,ByteArray.mk #[],x.u,x.v⟩,rfl,fa _ _ _ _ _ _,ho⟩
       ·cases hu2:lJ x.u.s x.bd<;>rw[hu2] at ho<;>unfold lJ at hu2<;>rw[hu2]
        ·exact⟨⟨x.ds,x.rs,x.bd,x.rel,x.l,5,x.op,0,x.u.s,zT,x.v⟩,rfl,fa _ _ _ _ _ _,ho⟩
        ·exact⟨⟨x.ds,x.rs,x.bd,x.rel,x.l,5,x.op,0,ByteArray.mk #[],x.u,x.v⟩,rfl,fa _ _ _ _ _ _,ho⟩
noncomputable def Y7(κ:Kp):EB:=(((Xm κ).call (cSp κ)).calm [78]).opens [(41,5,[(1193,some 58)])]
end Go.Proofs.YthaiinlfnommnaaGreatDoor
