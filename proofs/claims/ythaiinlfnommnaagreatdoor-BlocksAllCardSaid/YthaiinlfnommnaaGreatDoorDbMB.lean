import Derived.Test.YthaiinlfnommnaaGreatDoorDbMA
import Derived.Test.YthaiinlfnommnaaGreatDoorDoJ
namespace Go.Proofs.YthaiinlfnommnaaGreatDoor
open Go Go.Dn Go.Rl Go.Proofs
mutual
def HX:Tm->AV
 | .mk op s n l=> .agg [.int op, .lit (.string s), .int n, .ad 56 (cL l)]
def cL:List Tm->List AV
 |[]=>[]
 |t::l=>HX t::cL l
end
mutual
theorem Sc: ∀t:Tm,cx (HX t)=t
 | .mk op s n l=>by
  have:=qo l
  rw[HX,iU,this]
theorem qo: ∀l:List Tm,aa (cL l)=l
 |[]=>rfl
 |t::l=>by
  have h1:=Sc t
  have h2:=qo l
  simp only[aa,cL,ac2] at h2⊢
  rw[h1,h2]
end
theorem yr: ∀l:List Tm,(cL l).length=l.length
 |[]=>rfl
 |_::l=>by simp[cL,yr l]
theorem yC: ∀a b:List Tm,cL (a++b)=cL a++cL b
 |[],_=>rfl
 |_::a,b=>by simp[cL,yC a b]
abbrev ID(t:AT):AV:= .agg [.int t.op, .lit (.string t.s), .int t.n, .ad 56 (cL (aa t.l))]
structure SS where
 eO:List Int
 cG:List AV
 c9:List Int
 binds:List ByteArray
 c6:List Int
 eqs:List ByteArray
def lT(s:ByteArray)(l:List AV):Bool:=decide (eg s l 0>=0)
def Bw(bd:List AV)(t:AT):Bool:=(t.op==1)&& !lT t.s bd
def tE(bd:List AV)(s:SS)(e:Int×AT):SS:=
 bif !Bw bd e.2 then{s with eO:=s.eO++[e.1],cG:=s.cG++[ID e.2]}
 else bif lT e.2.s (strs s.binds) then{s with c6:=s.c6++[e.1],eqs:=s.eqs++[e.2.s]}
 else{s with c9:=s.c9++[e.1],binds:=s.binds++[e.2.s]}
def L2:SS:=⟨[],[],[],[],[],[]⟩
def ez:List AV->Int->List (Int×AT)
 |[],_=>[]
 |t::l,i=>bif decide (toInt (ae t 0)=4) then ez l (i+1) else(i,uv t)::ez l (i+1)
def CK(l:List (Int×AT)):List AV:=l.map fun e=> .bp [.int e.1,cv e.2]
def gY(bd:List AV)(l:List (Int×AT)):SS:=l.foldl (tE bd) L2
theorem wK: ∀(l:List AV) (i:Int),(ez l i).length<=l.length
 |[],_=>Nat.le_refl _
 |t::l,i=>by
  have:=wK l (i+1)
  rw[ez]
  cases decide (toInt (ae t 0)=4) with
  |true=>rw[aa9];simp only[List.length_cons];omega
  |false=>rw[aa7];simp only[List.length_cons];omega
def SS.le(s:SS)(n:Nat):Prop:=s.eO.length<=n/\s.cG.length<=n/\s.c9.length<=n/\s.binds.length<=n/\s.c6.length<=n/\s.eqs.length<=n
theorem MQ:L2.le 0:=⟨Nat.le_refl _,Nat.le_refl _,Nat.le_refl _,Nat.le_refl _,Nat.le_refl _,Nat.le_refl _⟩
theorem OO{bd:List AV}{s:SS}{n:Nat}(h:s.le n)(e:Int×AT):(tE bd s e).le (n+1):=by
 obtain⟨h1,h2,h3,h4,h5,h6⟩:=h
 unfold tE SS.le
 cases !Bw bd e.2 with
 |true=>simp only[aa9,ac0,List.length_singleton];omega
 |false=>
  cases lT e.2.s (strs s.binds) with
  |true=>simp only[aa9,aa7,ac0,List.length_singleton];omega
  |false=>simp only[aa7,ac0,List.length_singleton];omega
theorem Lm{bd:List AV}: ∀(l:List (Int×AT)) {s:SS} {n:Nat},s.le n->(l.foldl (tE bd) s).le (n+l.length)
 |[],_,_,h=>h
 |e::l,s,n,h=>by
  have:=Lm (bd:=bd) l (OO (bd:=bd) h e)
  rw[List.foldl_cons,List.length_cons]
  rw[show n+(l.length+1)=n+1+l.length by omega];exact this
abbrev WH(op nu rl:Int)(s:SS)(t:ByteArray)(X Y:AV):AV:= .agg [.int op, .int nu, .int rl, .ad 3 (iA s.eO), .ad 56 s.cG, .ad 3 (iA s.c9), .ad 9 (strs s.binds), .ad 3 (iA s.c6), .ad 9 (strs s.eqs), .lit (.string t),X,Y]
def zT:AT:=⟨0,ByteArray.mk #[],0,[]⟩
def wD(t:AT):AT:=⟨t.op,t.s,t.n,cL (aa t.l)⟩
structure SD where
 op:Int
 nu:Int
 rl:Int
 q:SS
 t:ByteArray
 X:AT
 Y:AT
abbrev P3(d:SD):AV:=WH d.op d.nu d.rl d.q d.t (cv d.X) (cv d.Y)
def tJ(ds bd:List AV)(rel:ByteArray)(l:List AV)(op:Int)(u v:AT):SD:=
 bif op==2 then⟨2,0,bD rel ds,gY bd (ez l 0),ByteArray.mk #[],zT,zT⟩
 else bif op==1 then⟨1,0,bD rel ds,gY bd (ez l 0),ByteArray.mk #[],zT,zT⟩
 else bif op==3 then(bif Bw bd u then⟨4,0,0,L2,u.s,wD v,zT⟩ else bif Bw bd v then⟨4,0,0,L2,v.s,wD u,zT⟩ else⟨3,op,0,L2,ByteArray.mk #[],wD u,wD v⟩)
 else bif op==4||(op==5||op==6) then⟨3,op,0,L2,ByteArray.mk #[],wD u,wD v⟩
 else bif Bw bd u then⟨5,op,bD rel ds,gY bd (ez l 0),u.s,zT,v⟩
 else⟨5,op,bD rel ds,gY bd (ez l 0),ByteArray.mk #[],u,v⟩
def wL(ds bd:List AV)(l:AV):SD:=tJ ds bd (toStr (ae (ae l 1) 0)) (ai (ae (ae l 1) 1)) (toInt (ae l 0)) (uv (ae l 2)) (uv (ae l 3))
structure QD where
 rel:Int
 steps:List AV
 out:List AV
 delta:Int
abbrev qA(q:QD):AV:= .agg [.int q.rel, .ad 58 q.steps, .ad 56 q.out, .int q.delta]
def ua(q:QD)(g:List Int):List AV->Int->List QD
 |[],_=>[]
 |s::l,i=>bif decide (toInt (ae s 0)=1)&&g.contains (toInt (ae s 2)) then{q with delta:=i}::ua q g l (i+1) else ua q g l (i+1)
def EZ(mk:AV->QD)(hd:AV->Int)(ag:AV->Bool)(g:List Int):List AV->List QD
 |[]=>[]
 |r::rs=>bif g.contains (hd r)&& !ag r then mk r::EZ mk hd ag g rs else EZ mk hd ag g rs
def FI(mk:AV->QD)(hd:AV->Int)(ag:AV->Bool)(g:List Int):List AV->List QD
 |[]=>[]
 |r::rs=>(bif g.contains (hd r)&&ag r then ua (mk r) g (mk r).steps 0 else[])++FI mk hd ag g rs
theorem qX{q:QD}{g:List Int}: ∀{l:List AV} {i:Int} {x:QD},x∈ua q g l i->x.rel=q.rel/\x.steps=q.steps/\x.out=q.out
 |[],_,_,h=>by simp[ua] at h
 | s::l,i,x,h=>by
  rw[ua] at h
  cases e:(decide (toInt (ae s 0)=1)&&g.contains (toInt (ae s 2))) with
  |true=>
   rw[e,aa9] at h
   rcases List.mem_cons.1 h with rfl|h
   ·exact⟨rfl,rfl,rfl⟩
   ·exact qX h
  |false=>rw[e,aa7] at h;exact qX h
theorem Lg{q:QD}{g:List Int}: ∀{l:List AV} {i:Int} {s:AV},s∈l->toInt (ae s 0)=1->toInt (ae s 2)∈g->ua q g l i≠[]
 |[],_,_,h,_,_=>by simp at h
 | t::l,i,s,h,h1,h2=>by
  rw[ua]
  cases e:(decide (toInt (ae t 0)=1)&&g.contains (toInt (ae t 2))) with
  |true=>rw[aa9];exact List.cons_ne_nil _ _
  |false=>
   rw[aa7]
   rcases List.mem_cons.1 h with rfl|h
   ·rw[h1] at e;simp[h2] at e
   ·exact Lg h h1 h2
theorem uf{mk:AV->QD}{hd:AV->Int}{ag:AV->Bool}{g:List Int}: ∀{rs:List AV} {x:QD},x∈EZ mk hd ag g rs->∃r,r∈rs/\hd r∈g/\ag r=false/\x=mk r
 |[],_,h=>by simp[EZ] at h
 | r::rs,x,h=>by
  rw[EZ] at h
  cases e:(g.contains (hd r)&& !ag r) with
  | true=>
   rw[e,aa9] at h
   rcases List.mem_cons.1 h with rfl|h
   ·simp only[aa3,List.contains_eq_mem,aa2,Bool.not_eq_true'] at e
    exact⟨r,by simp,e.1,e.2,rfl⟩
   ·obtain⟨r',h1,h2⟩:=uf h
    exact⟨r',by simp[h1],h2⟩
  |false=>
   rw[e,aa7] at h
   obtain⟨r',h1,h2⟩:=uf h
   exact⟨r',by simp[h1],h2⟩
theorem KD{mk:AV->QD}{hd:AV->Int}{ag:AV->Bool}{g:List Int}: ∀{rs:List AV} {r:AV},r∈rs->hd r∈g->ag r=false->mk r∈EZ mk hd ag g rs
 |[],_,h,_,_=>by simp at h
 | r'::rs,r,h,h1,h2=>by
  rw[EZ]
  rcases List.mem_cons.1 h with rfl|h
  ·simp[h1,h2]
  ·have:=KD (mk:=mk) h h1 h2
   cases(g.contains (hd r')&& !ag r') with
   |true=>rw[aa9];simp[this]
   |false=>exact this
theorem Ap{mk:AV->QD}{hd:AV->Int}{ag:AV->Bool}{g:List Int}: ∀{rs:List AV} {x:QD},x∈FI mk hd ag g rs->∃r,r∈rs/\hd r∈g/\ag r=true/\x∈ua (mk r) g (mk r).steps 0
 |[],_,h=>by simp[FI] at h
 | r::rs,x,h=>by
  rw[FI] at h
  rcases List.mem_append.1 h with h|h
  ·cases e:(g.contains (hd r)&&ag r) with
   |true=>
    rw[e,aa9] at h
    simp only[aa3,List.contains_eq_mem,aa2] at e
    exact⟨r,by simp,e.1,e.2,h⟩
   |false=>rw[e] at h;simp at h
  ·obtain⟨r',h1,h2⟩:=Ap h
   exact⟨r',by simp[h1],h2⟩
theorem JU{mk:AV->QD}{hd:AV->Int}{ag:AV->Bool}{g:List Int}: ∀{rs:List AV} {r:AV} {x:QD},r∈rs->hd r∈g->ag r=true->x∈ua (mk r) g (mk r).steps 0->x∈FI mk hd ag g rs
 |[],_,_,h,_,_,_=>by simp at h
 |r'::rs,r,x,h,h1,h2,h3=>by
  rw[FI]
  rcases List.mem_cons.1 h with rfl|h
  ·simp[h1,h2,h3]
  ·exact ab5 _ (JU h h1 h2 h3)
end Go.Proofs.YthaiinlfnommnaaGreatDoor
namespace Go.Proofs.YthaiinlfnommnaaGreatDoor
open Go Go.Dn Go.Rl Go.Proofs
attribute [local irreducible] bf vc
set_option maxRecDepth 20000
noncomputable def BH(κ:Kp):EB:=EB.calm ⟨WW κ,eHg κ,mHg κ⟩ [37,888888]
theorem yRc(κ:Kp)(ds rs:List AV)(k:Int)(K:AV->List Dn.Obj->Prop):(bf (BH κ).E 12 18 [gS ds rs, .int k] [] K)=(
 letI z1:=nth rs k.toNat
 letI z2:=decide ((0:Int)<=k)&&decide (k<(↑(rs.length):Int))
 letI z3:=toStr (ae (ae z1 0) 0)
 letI z4:=ai (ae (ae z1 0) 1)
 letI z5:=toInt (ae z1 2)
 letI z6:=ai (ae z1 1)
 ∃(e3:Wk),([AV.agg [AV.ad 61 ds,AV.ad 66 rs],AV.int k,AV.int k,AV.int (↑(rs.length):Int)],[])=Rk e3/\Ft e3/\aC (qn e3.ds e3.rs e3.a e3.b e3.n !=
 (0:Int)) (K (AV.bp [AV.bool false,AV.int (qn e3.ds e3.rs e3.a e3.b e3.n)]) []) ((∃(e2:sm),([AV.agg [AV.ad 61 ds,AV.ad 66 rs]],[])=NQ e2/\qL e2.1
 e2.2/\aC (Nat.beq e2.1.length 0) (ba z2 (∃(e1:A7),([AV.ptr 0 0 [] 0,AV.agg [AV.ad 61 ds,AV.ad 66 rs],AV.agg [AV.agg [AV.str z3,AV.ad 56 z4],AV.ad 72
 z6,AV.int z5],AV.bQ 44 []],[Obj.box 122 (AV.agg [AV.ar 1 0 e2.1.length,AV.nil]),Obj.rows 38 3 (dE (oN e2.1 e2.2)) none])=yK e1/\(e1.h=bD e1.a.rel
 e1.ds/\((0:Int)<=e1.h/\e1.h<(↑(e1.n):Int))/\e1.ds.length<=9223372036854775807/\List.length e1.a.bl<=9223372036854775807/\∀(e0:AV),List.Mem e0
 e1.a.bl->fH (toInt (ae e0 0))=true->(0:Int)<=bD (toStr (ae (ae e0 1) 0)) e1.ds/\bD (toStr (ae (ae e0 1) 0)) e1.ds<(↑(e1.n):Int))/\K (AV.bp [AV.bool
 (iT fH e1.n e1.m e1.L e1.ds e1.h e1.a.bl),AV.int 0]) [])) (ba z2 (∃(e1:A7),([AV.ptr 0 0 [] 0,AV.agg [AV.ad 61 ds,AV.ad 66 rs],AV.agg [AV.agg [AV.str z3,
 AV.ad 56 z4],AV.ad 72 z6,AV.int z5],AV.bQ 44 []],[Obj.box 122 (AV.agg [AV.ar 1 0 e2.1.length,AV.ar 2 0 (List.length (bw e2.1.length (jm e2.1 e2.2) (oN e2.1
 e2.2) e2.1.length))]),Obj.rows 38 3 (dE (oN e2.1 e2.2)) none,Obj.row 89 (bw e2.1.length (jm e2.1 e2.2) (oN e2.1 e2.2) e2.1.length)])=yK e1/\(e1.h=bD
 e1.a.rel e1.ds/\((0:Int)<=e1.h/\e1.h<(↑(e1.n):Int))/\e1.ds.length<=9223372036854775807/\List.length e1.a.bl<=9223372036854775807/\∀(e0:AV),
 List.Mem e0 e1.a.bl->fH (toInt (ae e0 0))=true->(0:Int)<=bD (toStr (ae (ae e0 1) 0)) e1.ds/\bD (toStr (ae (ae e0 1) 0)) e1.ds<(↑(e1.n):Int))/\K
 (AV.bp [AV.bool (iT fH e1.n e1.m e1.L e1.ds e1.h e1.a.bl),AV.int 0]) [])))/\ba z2 (∃(e2:sm),([AV.agg [AV.ad 61 ds,AV.ad 66 rs]],[])=NQ e2/\qL e2.1
 e2.2/\aC (Nat.beq e2.1.length 0) (∃(e1:A7),([AV.ptr 0 0 [] 0,AV.agg [AV.ad 61 ds,AV.ad 66 rs],AV.agg [AV.agg [AV.str z3,AV.ad 56 z4],AV.ad 72 z6,
 AV.int z5],AV.bQ 44 []],[Obj.box 122 (AV.agg [AV.ar 1 0 e2.1.length,AV.nil]),Obj.rows 38 3 (dE (oN e2.1 e2.2)) none])=yK e1/\(e1.h=bD e1.a.rel e1.ds/\
 ((0:Int)<=e1.h/\e1.h<(↑(e1.n):Int))/\e1.ds.length<=9223372036854775807/\List.length e1.a.bl<=9223372036854775807/\∀(e0:AV),List.Mem e0 e1.a.bl
 ->fH (toInt (ae e0 0))=true->(0:Int)<=bD (toStr (ae (ae e0 1) 0)) e1.ds/\bD (toStr (ae (ae e0 1) 0)) e1.ds<(↑(e1.n):Int))/\K (AV.bp [AV.bool (iT fH
 e1.n e1.m e1.L e1.ds e1.h e1.a.bl),AV.int 0]) []) (∃(e1:A7),([AV.ptr 0 0 [] 0,AV.agg [AV.ad 61 ds,AV.ad 66 rs],AV.agg [AV.agg [AV.str z3,AV.ad 56 z4],
 AV.ad 72 z6,AV.int z5],AV.bQ 44 []],[Obj.box 122 (AV.agg [AV.ar 1 0 e2.1.length,AV.ar 2 0 (List.length (bw e2.1.length (jm e2.1 e2.2) (oN e2.1 e2.2)
 e2.1.length))]),Obj.rows 38 3 (dE (oN e2.1 e2.2)) none,Obj.row 89 (bw e2.1.length (jm e2.1 e2.2) (oN e2.1 e2.2) e2.1.length)])=yK e1/\(e1.h=bD e1.a.rel
 e1.ds/\((0:Int)<=e1.h/\e1.h<(↑(e1.n):Int))/\e1.ds.length<=9223372036854775807/\List.length e1.a.bl<=9223372036854775807/\∀(e0:AV),List.Mem e0
 e1.a.bl->fH (toInt (ae e0 0))=true->(0:Int)<=bD (toStr (ae (ae e0 1) 0)) e1.ds/\bD (toStr (ae (ae e0 1) 0)) e1.ds<(↑(e1.n):Int))/\K (AV.bp [AV.bool
 (iT fH e1.n e1.m e1.L e1.ds e1.h e1.a.bl),AV.int 0]) [])))):=by kernel_rfl
def Jk(ds rs:List AV)(k:Int):Bool:=decide (qn ds rs k k rs.length=0)&&FP fH ds.length (jm ds rs) (oN ds rs) ds (nth rs k.toNat)
structure Qb where
 ds:List AV
 rs:List AV
 k:Int
def IP(x:Qb):List AV×List Dn.Obj:=([gS x.ds x.rs, .int x.k],[])
def so(x:Qb):Prop:=eX x.ds x.rs
def PE(x:Qb):Out (AV×List Dn.Obj):= .one (.bp [.bool (Jk x.ds x.rs x.k), .int (qn x.ds x.rs x.k x.k x.rs.length)],[])
theorem cRc(κ:Kp):bz (BH κ).E 12 18 (aR IP so PE):=by
 refine bg ?_
 rintro⟨ds,rs,k⟩ K hs ho
 refine Eq.mpr (yRc κ ds rs k K) ?_
 simp only[PE,Out.run,Jk] at ho
 refine⟨⟨ds,rs,k,k,rs.length⟩,rfl,hs,?_⟩
 rw[af]
 refine⟨fun e=>?_,fun e=>?_⟩
 ·have e:qn ds rs k k rs.length≠0:=by simpa using e
  rw[aa6 e,Bool.false_and] at ho
  exact ho
 ·have e:qn ds rs k k rs.length=0:=by simpa using e
  obtain⟨hc,ha,_⟩:=F6 e
  rw[e] at ho
  have hf:=iR hc
  have hk:k.toNat<rs.length:=by omega
  have hx:nth rs k.toNat∈rs:=by rw[aZ _ _ hk];exact List.getElem_mem _
  have hG:=ry hs hc _ hx
  have hn:Nat.beq ds.length 0=false:=by
   have h1:0<=uq ds (nth rs k.toNat)/\uq ds (nth rs k.toNat)<ds.length:=hG.hd
   rw[Bool.eq_false_iff]
   exact fun h=>by have:=Nat.eq_of_beq_eq_true h;omega
  have hi:(decide (0<=k)&&decide (k<(rs.length:Int)))=true:=by simp[ha]
  have hd:ds.length<=aM:=hs.1
  refine⟨⟨(ds,rs),rfl,hf,?_⟩,an.2 ⟨hi,(ds,rs),rfl,hf,?_⟩⟩<;>rw[af]
  ·exact⟨fun e=>absurd (hn.symm.trans e) (by decide),fun _=>an.2 ⟨hi,⟨ds.length,jm ds rs,oN ds rs,ds,rs,dW (nth rs k.toNat),uq ds (nth rs k.toNat)⟩,rfl,⟨rfl,hG.hd,hd,hG.le,fun l hl h=>hG.at_ l hl (qU h)⟩,ho⟩⟩
  ·exact⟨fun e=>absurd (hn.symm.trans e) (by decide),fun _=>⟨⟨ds.length,jm ds rs,oN ds rs,ds,rs,dW (nth rs k.toNat),uq ds (nth rs k.toNat)⟩,rfl,⟨rfl,hG.hd,hd,hG.le,fun l hl h=>hG.at_ l hl (qU h)⟩,ho⟩⟩
noncomputable def SU(κ:Kp):EB:=(BH κ).call (cRc κ)
def HE(l:List AV):List AV×List Dn.Obj:=([.ad 56 l],[])
def Kz(n:Nat)(l:List AV):Prop:=aO (aa l)=n/\n<=100000
def FX(l:List AV):Out (AV×List Dn.Obj):= .one (.ad 56 (cL (aa l)),[])
def OA(n:Nat):dw:=aR HE (Kz n) FX
noncomputable def OI(κ:Kp)(r:Nat):Env:=(SU κ).E.ay 76 fun args st K=>∃m,m<r/\OA m args st K
theorem xCp(κ:Kp)(r:Nat)(l:List AV)(i:Int)(xs:List AV)(k:Nat)(I:Nat->S->Prop)(n:Nat)(K:Exit->S->Prop):(vc (OI κ r) 12 76 none 0 (ah (Pr κ).toProgram 76 3) (sp 19 [(3, .ar 0 0 k),(6, .ad 56 l),(7, .int l.length),(8, .int i)] [.row 56 xs]) (bL (OI κ r) 76 3 0 I n K))=(
 letI z1:=nth l i.toNat
 letI z2:=i<(↑(l.length):Int)
 aC (decide z2) (ba (decide ((0:Int)<=i)&&decide z2) (∃(e2:Nat),e2<r/\∃(e1:List AV),([AV.ad 56 (ai (ae z1 3))],[])=HE e1/\Kz e2 e1/\ba
 (decide ((k+1+1)*57<=70368744177664)) (∃(e0:Nat),e0<n/\I e0 (sp 19 [(3,AV.ar 0 0 (k+1)),(6,AV.ad 56 l),(7,AV.int (↑(l.length):Int)),(8,
 AV.int (IntKind.wrap IntKind.i64 (i+(1:Int))))] [Obj.row 56 (List.take k xs++[AV.agg [AV.int (toInt (ae z1 0)),AV.str (toStr (ae z1 1)),AV.int (toInt
 (ae z1 2)),AV.ad 56 (cL (aa e1))]])])))) (K (Exit.exit 0) (sp 19 [(3,AV.ar 0 0 k)] [Obj.row 56 xs]))):=by kernel_rfl
theorem Sr(x:AV):HX (cx x)= .agg [.int (toInt (ae x 0)), .lit (.string (toStr (ae x 1))), .int (toInt (ae x 2)), .ad 56 (cL (aa (ai (ae x 3))))]:=by
 rw[cz,HX]
theorem Le(l:List AV)(i:Nat)(h:i<l.length):cL (aa (l.take (i+1)))=cL (aa (l.take i))++[HX (cx (nth l i))]:=by
 rw[List.take_add_one,ab8 h,←aZ l i h]
 simp[aa,yC,cL]
theorem Ni(l:List AV):(cL (aa l)).length=l.length:=by rw[yr,dz]
abbrev Gz(a:List AV×Nat):S:=sp 19 [(3, .ar 0 0 (cL (aa (a.1.take a.2))).length),(6, .ad 56 a.1),(7, .int a.1.length),(8, .int a.2)] [.row 56 (cL (aa (a.1.take a.2)))]
def zm(r:Nat)(a:List AV×Nat):Prop:=a.2<=a.1.length/\a.1.length<=100000/\aO (aa (a.1.drop a.2))<=r/\r<=100000
def Li(a:List AV×Nat):Out (Exit×S):= .one (.exit 0,sp 19 [(3, .ar 0 0 (cL (aa a.1)).length)] [.row 56 (cL (aa a.1))])
theorem lCp(κ:Kp)(r:Nat):bk (OI κ r) 12 76 3 (aP 0 Gz (zm r) Li):=by
 refine aL (fun a=>a.1.length - a.2) ?_
 rintro⟨l,i⟩ K ⟨h1,h2,h3,h4⟩ ho
 simp only at h1 h2 h3
 rw[show(OI κ r).P=Pr κ from rfl]
 refine Eq.mpr (xCp κ r l i (cL (aa (l.take i))) (cL (aa (l.take i))).length _ _ K) ?_
 rw[af,aa2,aa4]
 refine⟨fun h=>an.2 ⟨by simp;omega,?_⟩,fun h=>?_⟩
 ·have hk:i<l.length:=by omega
  have hc:=FB l i hk
  have he:=Le l i hk
  rw[Int.toNat_natCast]
  refine⟨_,?_,ai (ae (nth l i) 3),rfl,⟨rfl,by omega⟩,an.2 ⟨?_,_,?_,(l,i+1),?_,⟨hk,h2,by simp only;omega,h4⟩,rfl,ho⟩⟩
  ·simp only[Nat.lt_iff_add_one_le];omega
  ·rw[aa2,Ni,List.length_take];omega
  ·simp only;omega
  ·simp only[Gz]
   rw[he,←Sr,List.take_length,aW (n:=(i:Int)+1) (by omega) (by omega),ac0]
   rfl
 ·obtain rfl:i=l.length:=by omega
  rw[List.take_length];exact ho
noncomputable def SH(κ:Kp)(r:Nat):Env:=(OI κ r).ak 76 3 (aP 0 Gz (zm r) Li)
theorem yCp(κ:Kp)(r:Nat)(l:List AV)(K:AV->List Dn.Obj->Prop):(bf (SH κ r) 12 76 [.ad 56 l] [] K)=(
 letI z1:=Pg.toProgram (Env.P (OI κ r))
 ah z1 76 3=ah z1 76 3/\∃(e0:List AV×Nat),sp 19 [(3,AV.ar 0 0 0),(6,AV.ad 56 l),(7,AV.int (↑(l.length):Int)),(8,AV.int 0)] [Obj.row 56 []]=Gz
 e0/\zm r e0/\K (AV.ad 56 (List.take (List.length (cL (aa e0.1))) (List.drop 0 (cL (aa e0.1))))) []):=by kernel_rfl
theorem eCq(κ:Kp)(r:Nat)(hp: ∀args st K,(∃m,m<r/\OA m args st K)->dq (Pr κ) 76 args st K):aD (SH κ r)/\aj (SH κ r)/\(SH κ r).P=Pr κ:=
 have h:aD (OI κ r):=(SU κ).ok.iE hp
 have hm:aj (OI κ r):=(SU κ).mono.ay (fun _ _ _ _ hK ⟨m,h1,h2⟩=>⟨m,h1,aK _ _ _ _ hK h2⟩)
 ⟨h.ak hm (lCp κ r),hm.ak aI,rfl⟩
theorem cCp(κ:Kp)(r:Nat):bz (SH κ r) 12 76 (OA r):=by
 refine bg ?_
 rintro l K ⟨h1,h2⟩ ho
 refine Eq.mpr (yCp κ r l K) ?_
 have:=eB (aa l)
 rw[dz] at this
 refine⟨rfl,(l,0),rfl,⟨Nat.zero_le _,by simp only;omega,by simp only[ab2];omega,h2⟩,?_⟩
 simp only[FX,Out.run] at ho
 rw[ab2,List.take_length]
 exact ho
def AS(l:List AV):Prop:=aO (aa l)<=100000
theorem qCp(κ:Kp): ∀args st K,aR HE AS FX args st K->dq (Pr κ) 76 args st K:=by
 rintro args st K ⟨l,h1,h2,h3⟩
 exact aD.tO OA (SH κ) (eCq κ) (cCp κ) (aO (aa l)) args st K ⟨l,h1,⟨rfl,h2⟩,h3⟩
noncomputable def RG(κ:Kp):EB:=⟨(SU κ).E.ay 76 (aR HE AS FX),(SU κ).ok.iE (qCp κ),(SU κ).mono.ay aK⟩
structure Ti where
 rel:ByteArray
 l:List AV
 xs:List AV
 i:Nat
abbrev Ju(x:Ti):S:=sp 24 [(0, .cK 0),(6, .ad 56 x.l),(7, .int x.l.length),(8, .int x.i)] [.ext (some x.xs), .box 63 (.agg [.lit (.string x.rel), .ad 56 x.l])]
theorem xCl(κ:Kp)(x:Ti)(I:Nat->S->Prop)(n:Nat)(K:Exit->S->Prop):(vc (RG κ).E 12 241 none 2 (ah (Pr κ).toProgram 241 1) (Ju x) (bL (RG κ).E 241 1 2 I n K))=(
 letI z1:=nth x.l (Int.toNat (↑(x.i):Int))
 letI z2:=AV.agg [AV.str x.rel,AV.ad 56 x.l]
 letI z3:=IntKind.wrap IntKind.i64 ((↑(x.i):Int)+(1:Int))
 letI z4:=(↑(x.i):Int)<(↑(x.l.length):Int)
 aC (decide z4) (ba (true&&decide z4) (aC (toInt (ae z1 0) != (4:Int)) (∃(e1:List AV),x.xs=AV.bp [AV.int (↑(x.i):Int),AV.agg [AV.int (toInt (ae z1
 0)),AV.str (toStr (ae z1 1)),AV.int (toInt (ae z1 2)),AV.ad 56 (ai (ae z1 3))]]::e1/\(∃(e0:Nat),e0<n/\I e0 (sp 24 [(0,AV.cK 0),(6,AV.ad 56 x.l),
 (7,AV.int (↑(x.l.length):Int)),(8,AV.int z3)] [Obj.ext (some e1),Obj.box 63 z2]))/\K Exit.ret (sp 24 [] [Obj.ext none,Obj.box 63 z2])) (∃(e0:Nat),e0
 <n/\I e0 (sp 24 [(0,AV.cK 0),(6,AV.ad 56 x.l),(7,AV.int (↑(x.l.length):Int)),(8,AV.int z3)] [Obj.ext (some x.xs),Obj.box 63 z2])))) (K (Exit.exit 0)
 (sp 24 [] [Obj.ext (some x.xs),Obj.box 63 z2]))):=by kernel_rfl
def DI(x:Ti):Prop:=x.l.length<=100000/\x.i<=x.l.length/\x.xs=CK (ez (x.l.drop x.i) x.i)
def PF(x:Ti):Out (Exit×S):= .all (fun _:Bool=>True) fun b=> .aC b
 (.one (.exit 0,sp 24 [] [.ext (some []), .box 63 (.agg [.lit (.string x.rel), .ad 56 x.l])]))
 (.one (.ret,sp 24 [] [.ext none, .box 63 (.agg [.lit (.string x.rel), .ad 56 x.l])]))
theorem JF(l:List AV)(i:Nat)(h:i<l.length):ez (l.drop i) i=bif decide (toInt (ae (nth l i) 0)=4) then ez (l.drop (i+1)) ((i+1:Nat):Int) else((i:Int),uv (nth l i))::ez (l.drop (i+1)) ((i+1:Nat):Int):=by
 rw[ab3 h,←aZ l i h,ez];rfl
theorem lCl(κ:Kp):bk (RG κ).E 12 241 1 (aP 2 Ju DI PF):=by
 refine aL (fun x=>x.l.length - x.i) ?_
 rintro⟨rel,l,xs,i⟩ K ⟨h1,h2,h3⟩ ho
 simp only at h1 h2 h3
 rw[show(RG κ).E.P=Pr κ from rfl]
 refine Eq.mpr (xCl κ ⟨rel,l,xs,i⟩ _ _ K) ?_
 have ho1:=ho true trivial
 have ho2:=ho false trivial
 simp only[Out.run,aC] at ho1 ho2
 rw[af,aa2,aa4]
 refine⟨fun h=>an.2 ⟨by simp at h⊢;omega,?_⟩,fun h=>?_⟩
 ·have hk:i<l.length:=by simp only at h;omega
  have hd:=JF l i hk
  rw[hd] at h3
  have next: ∀ys,ys=CK (ez (l.drop (i+1)) ((i+1:Nat):Int))->∃m,m<l.length - i/\eY Ju DI PF (fun x=>x.l.length - x.i) K m (Ju ⟨rel,l,ys,i+1⟩):=fun ys hy=>
   ⟨_,by simp only;omega,⟨rel,l,ys,i+1⟩,rfl,⟨h1,hk,hy⟩,rfl,ho⟩
  simp only[Int.toNat_natCast]
  rw[aW (n:=(i:Int)+1) (by omega) (by omega),af]
  refine⟨fun e=>?_,fun e=>?_⟩
  ·rw[aa6 (by simpa using e),aa7] at h3
   exact⟨_,h3,next _ rfl,ho2⟩
  ·rw[aa8 (by simpa using e),aa9] at h3
   exact next _ h3
 ·have hk:i=l.length:=by simp only at h;omega
  rw[ab0 (by omega)] at h3
  have h3:xs=[]:=h3
  subst h3
  exact ho1
noncomputable def Yr(κ:Kp):EB:=(RG κ).loop (lCl κ)
theorem yCl(κ:Kp)(l xs:List AV)(rel:ByteArray)(K:AV->List Dn.Obj->Prop):(bf (Yr κ).E 12 241 [.cK 0, .ptr 1 0 [] 0] [.ext (some xs), .box 63 (.agg [.lit (.string rel), .ad 56 l])] K)=(
 letI z1:=Pg.toProgram (Env.P (EB.E (RG κ)))
 ah z1 241 1=ah z1 241 1/\∃(e1:Ti),sp 24 [(0,AV.cK 0),(6,AV.ad 56 l),(7,AV.int (↑(l.length):Int)),(8,AV.int 0)] [Obj.ext (some xs),Obj.box 63
 (AV.agg [AV.str rel,AV.ad 56 l])]=Ju e1/\DI e1/\∀(e0:Bool),True->aC e0 (K (AV.bp []) [Obj.ext (some []),Obj.box 63 (AV.agg [AV.str e1.rel,AV.ad 56
 e1.l])]) (K (AV.bp []) [Obj.ext none,Obj.box 63 (AV.agg [AV.str e1.rel,AV.ad 56 e1.l])])):=by kernel_rfl
abbrev Yd:=ByteArray×List AV
def Qc(x:Yd):List AV×List Dn.Obj:=([.cK 0, .ptr 1 0 [] 0],[.ext (some (CK (ez x.2 0))), .box 63 (.agg [.lit (.string x.1), .ad 56 x.2])])
def GY(x:Yd):Prop:=x.2.length<=100000
def KT(_:Yd):Out (AV×List Dn.Obj):= .all (fun st'=>qN st') fun st'=> .one (.bp [],st')
theorem cCl(κ:Kp):bz (Yr κ).E 12 241 (aR Qc GY KT):=by
 refine bg ?_
 rintro⟨rel,l⟩ K h1 ho
 refine Eq.mpr (yCl κ l (CK (ez l 0)) rel K) ?_
 refine⟨rfl,⟨rel,l,CK (ez l 0),0⟩,rfl,⟨h1,Nat.zero_le _,rfl⟩,fun y _=>?_⟩
 cases y
 ·exact ho _ trivial
 ·exact ho _ trivial
noncomputable def XH(κ:Kp):EB:=(Yr κ).call (cCl κ)
theorem Xw(κ:Kp)(t:AT)(K:AV->List Dn.Obj->Prop):(bf (XH κ).E 12 120 [cv t] [] K)=(
 ∃(a:List AV),([AV.ad 56 t.l],[])=HE a/\AS a/\K (AV.agg [AV.int t.op,AV.str t.s,AV.int t.n,AV.ad 56 (cL (aa a))]) []):=by kernel_rfl
def iO(t:AT):List AV×List Dn.Obj:=([cv t],[])
def Q9(t:AT):Out (AV×List Dn.Obj):= .one (ID t,[])
theorem Xb(κ:Kp):bz (XH κ).E 12 120 (aR iO (fun t=>t.tm.gu<=100000) Q9):=by
 refine bg ?_
 rintro t K h ho
 refine Eq.mpr (Xw κ t K) ?_
 have hc:t.tm.gu=1+aO (aa t.l):=by rw[AT.tm,Tm.gu]
 exact⟨t.l,rfl,by show aO (aa t.l)<=100000;omega,ho⟩
noncomputable def SQ(κ:Kp):EB:=(((XH κ).call (Xb κ)).Ur [120]).calm [120,76,56]
structure tj where
 ds:List AV
 rs:List AV
 bd:List AV
 rel:ByteArray
 l:List AV
 op:Int
 nu:Int
 rl:Int
 s:ByteArray
 u:AT
 v:AT
abbrev SE(x:tj):Dn.Obj:= .box 131 (.agg [gS x.ds x.rs, .ad 9 x.bd])
abbrev VR(x:tj):Dn.Obj:= .box 63 (.agg [.lit (.string x.rel), .ad 56 x.l])
abbrev Q5(x:tj)(rl:Int)(a b c d e f:AV):Dn.Obj:= .box 58 (.agg [.int x.op, .int x.nu, .int rl,a,b,c,d,e,f, .lit (.string x.s),cv x.u,cv x.v])
noncomputable abbrev QI(κ:Kp)(x:tj):Dn.Obj:=
 .loop (gj (Pr κ).toProgram 126 3 .ready none (fU (bJ 102) [(0, .ptr 0 0 [] 0),(1, .agg [.lit (.string x.rel), .ad 56 x.l]),(2, .ptr 1 0 [] 0),(3, .ptr 2 0 [] 0),(4, .ptr 3 0 [] 0),(5, .ptr 4 0 [] 0),(8, .bp [.int (bD x.rel x.ds), .bool (fD x.rel x.ds)]),(9, .ptr 1 0 [] 0),(10, .ptr 0 0 [] 0),(11, .ptr 0 0 [] 0),(12, .ptr 0 0 [0] 0),(13, .ptr 0 0 [0,0] 0),(14, .ad 61 x.ds),(15, .ptr 3 0 [0] 0),(16, .lit (.string x.rel)),(17, .bp [.int (bD x.rel x.ds), .bool (fD x.rel x.ds)]),(18, .int (bD x.rel x.ds)),(19, .bool (fD x.rel x.ds)),(20, .ptr 1 0 [] 0),(21, .ptr 1 0 [2] 2),(22, .agg [.lit (.string x.rel), .ad 56 x.l]),(23, .bQ 241 [.ptr 5 0 [] 0])]))
noncomputable abbrev ny(κ:Kp)(x:tj):List Dn.Obj:=[SE x,Q5 x (bD x.rel x.ds) .nil .nil .nil .nil .nil .nil, .box 129 (.ptr 0 0 [] 0),VR x, .box 186 (.ptr 1 0 [] 0),VR x,QI κ x]
noncomputable abbrev UN(κ:Kp)(x:tj):List Dn.Obj:=[SE x,Q5 x (bD x.rel x.ds) .nil .nil .nil .nil .nil .nil, .box 129 (.ptr 0 0 [] 0),VR x, .box 186 (.ptr 1 0 [] 0), .dead,QI κ x]
noncomputable abbrev lG(κ:Kp)(x:tj)(q:SS):List Dn.Obj:=[SE x,Q5 x (bD x.rel x.ds) (.ar 7 0 (iA q.eO).length) (.ar 8 0 q.cG.length) (.ar 9 0 (iA q.c9).length) (.ar 10 0 (strs q.binds).length) (.ar 11 0 (iA q.c6).length) (.ar 12 0 (strs q.eqs).length), .box 129 (.ptr 0 0 [] 0),VR x, .box 186 (.ptr 1 0 [] 0), .dead,QI κ x,
 .row 3 (iA q.eO), .row 56 q.cG, .row 3 (iA q.c9), .row 9 (strs q.binds), .row 3 (iA q.c6), .row 9 (strs q.eqs)]
def ZU:List (Nat×Nat×TypeId):=[(1,3,3),(1,4,56),(1,5,3),(1,6,9),(1,7,3),(1,8,9)]
theorem sAm(κ:Kp)(x:tj)(Q:List Dn.Obj->Prop):(tidy (Pr κ).toProgram 7 (dY (ny κ x) (cH (ny κ x) [.ptr 5 0 [] 0])) Q)=(
 letI z1:=bD x.rel x.ds
 letI z2:=fD x.rel x.ds
 Q [Obj.box 131 (AV.agg [AV.agg [AV.ad 61 x.ds,AV.ad 66 x.rs],AV.ad 9 x.bd]),Obj.box 58 (AV.agg [AV.int x.op,AV.int x.nu,AV.int z1,AV.nil,AV.nil,AV.nil,
 AV.nil,AV.nil,AV.nil,AV.str x.s,cv x.u,cv x.v]),Obj.box 129 (AV.ptr 0 0 [] 0),Obj.box 63 (AV.agg [AV.str x.rel,AV.ad 56 x.l]),Obj.box 186 (AV.ptr 1 0
 [] 0),Obj.dead,Dn.Obj.loop (gj Tryz.prog 126 3 LoopState.ready none (fU (bJ 102) [(0,AV.ptr 0 0 [] 0),(1,AV.agg [AV.str x.rel,AV.ad 56 x.l]),(2,AV.ptr 1
 0 [] 0),(3,AV.ptr 2 0 [] 0),(4,AV.ptr 3 0 [] 0),(5,AV.ptr 4 0 [] 0),(8,AV.bp [AV.int z1,AV.bool z2]),(9,AV.ptr 1 0 [] 0),(10,AV.ptr 0 0 [] 0),(11,
 AV.ptr 0 0 [] 0),(12,AV.ptr 0 0 [0] 0),(13,AV.ptr 0 0 [0,0] 0),(14,AV.ad 61 x.ds),(15,AV.ptr 3 0 [0] 0),(16,AV.str x.rel),(17,AV.bp [AV.int z1,
 AV.bool z2]),(18,AV.int z1),(19,AV.bool z2),(20,AV.ptr 1 0 [] 0),(21,AV.ptr 1 0 [2] 2),(22,AV.agg [AV.str x.rel,AV.ad 56 x.l]),(23,AV.bQ 241
 [AV.ptr 5 0 [] 0])]))]):=by kernel_rfl
theorem rAm(κ:Kp)(x:tj)(q:SS)(i:Int)(t:AT)(Q:List Dn.Obj->Prop)(K2:List Dn.Obj->Prop):(gX (vc (SQ κ).E 12) 6 [.int i,cv t] (lG κ x q) (fun r st''=>match r with| .lit (.bool true)=>tidy (Pr κ).toProgram 7 st'' Q| .lit (.bool false)=>K2 st''|_=>False))=(
 letI z5:=decide ((List.length (iA q.c6)+1+1)*9<=70368744177664)
 letI z6:=decide ((List.length (iA q.c9)+1+1)*9<=70368744177664)
 letI z7:=strs q.binds
 letI z8:=AV.agg [AV.agg [AV.ad 61 x.ds,AV.ad 66 x.rs],AV.ad 9 x.bd]
 letI z9:=AV.agg [AV.str x.rel,AV.ad 56 x.l]
 letI z10:=strs q.eqs
 letI z11:=bD x.rel x.ds
 letI z12:=List.length z7
 letI z13:=List.length (iA q.eO)
 letI z14:=List.length (iA q.c6)
 letI z15:=List.length (iA q.c9)
 letI z16:=List.take z12 (List.drop 0 z7)
 letI z17:=List.length z10
 letI z18:=AV.ptr 0 0 [] 0
 letI z19:=AV.ptr 1 0 [] 0
 letI z20:=fD x.rel x.ds
 letI z1:=gj Tryz.prog 126 3 LoopState.ready none (fU (bJ 102) [(0,AV.ptr 0 0 [] 0),(1,AV.agg [AV.str x.rel,AV.ad 56 x.l]),(2,AV.ptr 1 0 [] 0),(3,
  AV.ptr 2 0 [] 0),(4,AV.ptr 3 0 [] 0),(5,AV.ptr 4 0 [] 0),(8,AV.bp [AV.int z11,AV.bool z20]),(9,AV.ptr 1 0 [] 0),(10,AV.ptr 0 0 [] 0),(11,AV.ptr 0 0
  [] 0),(12,AV.ptr 0 0 [0] 0),(13,AV.ptr 0 0 [0,0] 0),(14,AV.ad 61 x.ds),(15,AV.ptr 3 0 [0] 0),(16,AV.str x.rel),(17,AV.bp [AV.int z11,AV.bool
  z20]),(18,AV.int z11),(19,AV.bool z20),(20,AV.ptr 1 0 [] 0),(21,AV.ptr 1 0 [2] 2),(22,AV.agg [AV.str x.rel,AV.ad 56 x.l]),(23,AV.bQ 241 [AV.ptr 5 0
  [] 0])])
 letI z2:=ba (decide ((List.length z7+1+1)*17<=70368744177664)) (Q [Obj.box 131 z8,Obj.box 58 (AV.agg [AV.int x.op,AV.int x.nu,AV.int z11,AV.ar 7 0
  z13,AV.ar 8 0 q.cG.length,AV.ar 9 0 (List.length (iA q.c9)+1),AV.ar 10 0 (List.length z7+1),AV.ar 11 0 z14,AV.ar 12 0 z17,AV.str x.s,cv x.u,cv
  x.v]),Obj.box 129 z18,Obj.box 63 z9,Obj.box 186 z19,Obj.dead,Dn.Obj.loop z1,Obj.row 3 (iA q.eO),Obj.row 56 q.cG,Obj.row 3 (List.take z15 (iA q.c9)++
  [AV.int i]),Obj.row 9 (List.take z12 z7++[AV.str t.s]),Obj.row 3 (iA q.c6),Obj.row 9 z10])
 letI z3:=ba (decide ((List.length z10+1+1)*17<=70368744177664)) (Q [Obj.box 131 z8,Obj.box 58 (AV.agg [AV.int x.op,AV.int x.nu,AV.int z11,AV.ar 7 0
  z13,AV.ar 8 0 q.cG.length,AV.ar 9 0 z15,AV.ar 10 0 z12,AV.ar 11 0 (List.length (iA q.c6)+1),AV.ar 12 0 (List.length z10+1),AV.str x.s,cv x.u,cv
  x.v]),Obj.box 129 z18,Obj.box 63 z9,Obj.box 186 z19,Obj.dead,Dn.Obj.loop z1,Obj.row 3 (iA q.eO),Obj.row 56 q.cG,Obj.row 3 (iA q.c9),Obj.row 9 z7,
  Obj.row 3 (List.take z14 (iA q.c6)++[AV.int i]),Obj.row 9 (List.take z17 z10++[AV.str t.s])])
 letI z4:=ba (decide ((List.length (iA q.eO)+1+1)*9<=70368744177664)) (∃(e0:AT),([cv t],[])=iO e0/\Tm.gu (AT.tm e0)<=100000/\ba (decide
  ((q.cG.length+1+1)*57<=70368744177664)) (Q [Obj.box 131 z8,Obj.box 58 (AV.agg [AV.int x.op,AV.int x.nu,AV.int z11,AV.ar 7 0 (List.length (iA q.eO)+
  1),AV.ar 8 0 (q.cG.length+1),AV.ar 9 0 z15,AV.ar 10 0 z12,AV.ar 11 0 z14,AV.ar 12 0 z17,AV.str x.s,cv x.u,cv x.v]),Obj.box 129 z18,Obj.box 63 z9,
  Obj.box 186 z19,Obj.dead,Dn.Obj.loop z1,Obj.row 3 (List.take z13 (iA q.eO)++[AV.int i]),Obj.row 56 (List.take q.cG.length q.cG++[AV.agg [AV.int e0.op,
  AV.str e0.s,AV.int e0.n,AV.ad 56 (cL (aa e0.l))]]),Obj.row 3 (iA q.c9),Obj.row 9 z7,Obj.row 3 (iA q.c6),Obj.row 9 z10]))
 aC (t.op==(1:Int)) (ba (decide (x.bd.length<=9223372036854775807)) (aC (!!decide (eg t.s x.bd (0:Int)>=(0:Int))) z4 (ba (decide (List.length z16<=
 9223372036854775807)) (aC (decide (eg t.s z16 (0:Int)>=(0:Int))) ((ba z5 z3/\ba z5 z3)/\ba z5 z3) ((ba z6 z2/\ba z6 z2)/\ba z6 z2))))) z4):=by kernel_rfl
theorem mAm(κ:Kp)(x:tj):pC ZU (UN κ x)=lG κ x L2:=by kernel_rfl
theorem oAm(κ:Kp)(x:tj):nT (ny κ x) [.ptr 5 0 [] 0]=true:=by kernel_rfl
theorem kAm(κ:Kp)(x:tj)(xs:List AV):(AV.cK 0::fW (jM (cH (ny κ x) [.ptr 5 0 [] 0])) [.ptr 5 0 [] 0],Obj.ext (some xs)::gH (jM (cH (ny κ x) [.ptr 5 0 [] 0])) (gU (ny κ x) (cH (ny κ x) [.ptr 5 0 [] 0])))=([.cK 0, .ptr 1 0 [] 0],[.ext (some xs),VR x]):=by kernel_rfl
theorem tP: ∀{l:List AV} {x:AV},x∈l->(cx x).gu<=aO (aa l)
 | a::l,x,h=>by
  rw[aa,ac2,aO]
  rcases List.mem_cons.1 h with rfl|h
  ·omega
  ·have:=tP h
   rw[aa] at this;omega
theorem zw: ∀{l:List AV} {i:Int} {e:Int×AT},e∈ez l i->∃x,x∈l/\e.2=uv x
 |[],_,_,h=>by simp[ez] at h
 | a::l,i,e,h=>by
  rw[ez] at h
  cases hc:decide (toInt (ae a 0)=4) with
  |true=>
   rw[hc,aa9] at h
   obtain⟨x,h1,h2⟩:=zw h
   exact⟨x,by simp[h1],h2⟩
  | false=>
   rw[hc,aa7] at h
   rcases List.mem_cons.1 h with rfl|h
   ·exact⟨a,by simp,rfl⟩
   ·obtain⟨x,h1,h2⟩:=zw h
    exact⟨x,by simp[h1],h2⟩
structure qE(x:tj):Prop where
 hl:aO (aa x.l)<=100000
 hb:x.bd.length<=100000
 hd:x.ds.length<=aM
noncomputable def Vq(κ:Kp)(x:tj):List AV×List Dn.Obj:=([.ptr 5 0 [] 0],ny κ x)
noncomputable def TC(κ:Kp):dG:=fun caps st K=>∃x:tj,(caps,st)=Vq κ x/\qE x/\K (lG κ x (gY x.bd (ez x.l 0)))
theorem IE(κ:Kp):(TC κ).jk:=by
 rintro caps st K K' hK ⟨a,h1,h2,h3⟩
 exact⟨a,h1,h2,hK _ h3⟩
theorem Sq(κ:Kp)(args:List AV)(st:List Dn.Obj)(K:AV->List Dn.Obj->Prop)(h:aR Qc GY KT args st K):(SQ κ).E.call 241 args st K:=h
theorem Xc{n:Nat}(h:n<=200000):decide ((n+1+1)*9<=70368744177664)=true:=by rw[aa2];omega
theorem TZ{n:Nat}(h:n<=200000):decide ((n+1+1)*17<=70368744177664)=true:=by rw[aa2];omega
theorem W7{n:Nat}(h:n<=200000):decide ((n+1+1)*57<=70368744177664)=true:=by rw[aa2];omega
attribute [local irreducible] pC
theorem gAm(κ:Kp):wm (SQ κ).E 12 241 ZU (TC κ):=by
 rintro caps st K ⟨x,h1,hf,h5⟩
 obtain⟨rfl,rfl⟩:=Prod.mk.inj (show(caps,st)=([.ptr 5 0 [] 0],ny κ x) from h1)
 have hll:=eB (aa x.l)
 rw[dz] at hll
 have hl:=hf.hl
 have hb:=hf.hb
 have hcl:=wK x.l 0
 refine⟨CK (ez x.l 0),fun items st'=>∃E1 E2,items=CK E2/\st'=lG κ x (gY x.bd E1)/\E1++E2=ez x.l 0,⟨oAm κ x,?_,?_,?_,?_⟩⟩
 ·refine Sq κ _ _ _ ⟨(x.rel,x.l),?_,by show x.l.length<=100000;omega,fun st' h=>h⟩
  rw[kAm];rfl
 ·rw[show(SQ κ).E.P=Pr κ from rfl,show(ny κ x).length=7 from rfl,sAm]
  refine Exists.intro [] (Exists.intro (ez x.l 0) (And.intro (Eq.refl _) (And.intro ?_ (List.nil_append _))))
  exact mAm κ x
 ·rintro us rest st' ⟨E1,E2,e1,rfl,e3⟩
  cases E2 with
  |nil=>cases e1
  | cons e E2=>
   obtain⟨i,t⟩:=e
   obtain⟨hu,rfl⟩:=List.cons.inj e1
   obtain rfl:=AV.bp.inj hu
   rw[show(SQ κ).E.P=Pr κ from rfl,show(ny κ x).length=7 from rfl]
   rw[show(7:Nat) - 1=6 from rfl,show[AV.int (i,t).1,cv (i,t).2]=[AV.int i,cv t] from rfl]
   refine Eq.mpr (rAm κ x (gY x.bd E1) i t (fun st'=>∃F1 F2,CK E2=CK F2/\st'=lG κ x (gY x.bd F1)/\F1++F2=ez x.l 0) K) ?_
   have hle:(gY x.bd E1).le (0+E1.length):=Lm (bd:=x.bd) E1 MQ
   have hE:E1.length<=(ez x.l 0).length:=by rw[←e3];simp
   obtain⟨q1,q2,q3,q4,q5,q6⟩:=hle
   simp only[Nat.zero_add] at q1 q2 q3 q4 q5 q6
   have hc:t.tm.gu<=100000:=by
    obtain⟨y,y1,y2⟩:=zw (show(i,t)∈ez x.l 0 by rw[←e3];simp)
    have:=tP y1
    simp only at y2
    rw[y2,lb];omega
   have next: ∀st',st'=lG κ x (tE x.bd (gY x.bd E1) (i,t))->∃F1 F2,CK E2=CK F2/\st'=lG κ x (gY x.bd F1)/\F1++F2=ez x.l 0:=fun st' h=>
    ⟨E1++[(i,t)],E2,rfl,by rw[h];simp[gY],by rw[←e3];simp⟩
   generalize gY x.bd E1=q at*
   have hbd:decide (x.bd.length<=9223372036854775807)=true:=by rw[aa2];omega
   have hbn:decide ((strs q.binds).length<=9223372036854775807)=true:=by rw[aa2,aX];clear next;omega
   rw[←fv q.eO] at q1
   rw[←fv q.c9] at q3
   rw[←aX q.binds] at q4
   rw[←fv q.c6] at q5
   rw[←aX q.eqs] at q6
   have cA:Bw x.bd t=false->∃F1 F2,CK E2=CK F2/\lG κ x {q with eO:=q.eO++[i],cG:=q.cG++[ID t]}=lG κ x (gY x.bd F1)/\F1++F2=ez x.l 0:=fun h=>next _ (by unfold tE;simp only[h];rfl)
   have cB:Bw x.bd t=true->lT t.s (strs q.binds)=true->∃F1 F2,CK E2=CK F2/\lG κ x {q with c6:=q.c6++[i],eqs:=q.eqs++[t.s]}=lG κ x (gY x.bd F1)/\F1++F2=ez x.l 0:=fun h h2=>next _ (by unfold tE;simp only[h,h2];rfl)
   have cC:Bw x.bd t=true->lT t.s (strs q.binds)=false->∃F1 F2,CK E2=CK F2/\lG κ x {q with c9:=q.c9++[i],binds:=q.binds++[t.s]}=lG κ x (gY x.bd F1)/\F1++F2=ez x.l 0:=fun h h2=>next _ (by unfold tE;simp only[h,h2];rfl)
   have iA1:iA [i]=[AV.int i]:=rfl
   have st1:strs [t.s]=[AV.str t.s]:=rfl
   simp only[lG,Q5,wQ,iu,ac0,iA1,st1,List.length_singleton] at cA cB cC
   clear next h5 hf h1
   simp only[ab2,List.take_length]
   have b1:=Xc (n:=(iA q.eO).length) (by omega)
   have b2:=W7 (n:=q.cG.length) (by omega)
   have b3:=Xc (n:=(iA q.c6).length) (by omega)
   have b4:=TZ (n:=(strs q.eqs).length) (by omega)
   have b5:=Xc (n:=(iA q.c9).length) (by omega)
   have b6:=TZ (n:=(strs q.binds).length) (by omega)
   rw[af]
   refine⟨fun e1=>an.2 ⟨hbd,af.2 ⟨fun e2=>?_,fun e2=>an.2 ⟨hbn,af.2 ⟨fun e3=>?_,fun e3=>?_⟩⟩⟩⟩,fun e1=>?_⟩
   ·exact an.2 ⟨b1,t,rfl,hc,an.2 ⟨b2,cA (by unfold Bw lT;rw[Bool.not_not] at e2;rw[e2,Bool.not_true,Bool.and_false])⟩⟩
   ·have h:=cB (by unfold Bw lT;rw[Bool.not_not] at e2;rw[e2,e1];rfl) e3
    repeat' first
     |exact an.2 ⟨b3,an.2 ⟨b4,h⟩⟩
     |refine And.intro ?_ ?_
   ·have h:=cC (by unfold Bw lT;rw[Bool.not_not] at e2;rw[e2,e1];rfl) e3
    repeat' first
     |exact an.2 ⟨b5,an.2 ⟨b6,h⟩⟩
     |refine And.intro ?_ ?_
   ·exact an.2 ⟨b1,t,rfl,hc,an.2 ⟨b2,cA (by unfold Bw;rw[e1,Bool.false_and])⟩⟩
 ·rintro st' ⟨E1,E2,e1,rfl,e3⟩
  obtain rfl:E2=[]:=by cases E2 with|nil=>rfl|cons _ _=>cases e1
  rw[List.append_nil] at e3
  rw[e3];exact h5
noncomputable def X6(κ:Kp):EB:=(SQ κ).RD 126 3 (IE κ) (gAm κ) (fun f=>jH f (241::QG))
theorem yAm(κ:Kp)(x:tj)(K:AV->List Dn.Obj->Prop):(bf (X6 κ).E 12 126 [.ptr 0 0 [] 0, .agg [.lit (.string x.rel), .ad 56 x.l], .ptr 1 0 [] 0] [SE x,Q5 x x.rl .nil .nil .nil .nil .nil .nil] K)=(
 letI z1:=AV.agg [AV.str x.rel,AV.ad 56 x.l]
 ∃(e1:List AV×ByteArray),([AV.ad 61 x.ds,AV.str x.rel],[])=B5 e1/\gK e1/\∃(e0:tj),([AV.ptr 5 0 [] 0],[Obj.box 131 (AV.agg [AV.agg [AV.ad 61
 x.ds,AV.ad 66 x.rs],AV.ad 9 x.bd]),Obj.box 58 (AV.agg [AV.int x.op,AV.int x.nu,AV.int (bD e1.2 e1.1),AV.nil,AV.nil,AV.nil,AV.nil,AV.nil,AV.nil,
 AV.str x.s,cv x.u,cv x.v]),Obj.box 129 (AV.ptr 0 0 [] 0),Obj.box 63 z1,Obj.box 186 (AV.ptr 1 0 [] 0),Obj.box 63 z1,Dn.Obj.loop (gj Tryz.prog 126 3
 LoopState.ready none (fU (bJ 102) [(0,AV.ptr 0 0 [] 0),(1,AV.agg [AV.str x.rel,AV.ad 56 x.l]),(2,AV.ptr 1 0 [] 0),(3,AV.ptr 2 0 [] 0),(4,AV.ptr 3 0 []
 0),(5,AV.ptr 4 0 [] 0),(8,AV.bp [AV.int (bD e1.2 e1.1),AV.bool (fD e1.2 e1.1)]),(9,AV.ptr 1 0 [] 0),(10,AV.ptr 0 0 [] 0),(11,AV.ptr 0 0 [] 0),(12,
 AV.ptr 0 0 [0] 0),(13,AV.ptr 0 0 [0,0] 0),(14,AV.ad 61 x.ds),(15,AV.ptr 3 0 [0] 0),(16,AV.str x.rel),(17,AV.bp [AV.int (bD e1.2 e1.1),AV.bool (fD
 e1.2 e1.1)]),(18,AV.int (bD e1.2 e1.1)),(19,AV.bool (fD e1.2 e1.1)),(20,AV.ptr 1 0 [] 0),(21,AV.ptr 1 0 [2] 2),(22,AV.agg [AV.str x.rel,AV.ad 56
 x.l]),(23,AV.bQ 241 [AV.ptr 5 0 [] 0])]))])=Vq κ e0/\qE e0/\K (AV.bp []) [Obj.box 131 (AV.agg [AV.agg [AV.ad 61 e0.ds,AV.ad 66 e0.rs],AV.ad 9 e0.bd]),
 Obj.box 58 (AV.agg [AV.int e0.op,AV.int e0.nu,AV.int (bD e0.rel e0.ds),AV.ar 2 0 (List.length (iA (SS.eO (gY e0.bd (ez e0.l (0:Int)))))),AV.ar 3 0
 (List.length (SS.cG (gY e0.bd (ez e0.l (0:Int))))),AV.ar 4 0 (List.length (iA (SS.c9 (gY e0.bd (ez e0.l (0:Int)))))),AV.ar 5 0 (List.length (strs
 (SS.binds (gY e0.bd (ez e0.l (0:Int)))))),AV.ar 6 0 (List.length (iA (SS.c6 (gY e0.bd (ez e0.l (0:Int)))))),AV.ar 7 0 (List.length (strs (SS.eqs (gY e0.bd
 (ez e0.l (0:Int)))))),AV.str e0.s,cv e0.u,cv e0.v]),Obj.row 3 (iA (SS.eO (gY e0.bd (ez e0.l (0:Int))))),Obj.row 56 (SS.cG (gY e0.bd (ez e0.l (0:
 Int)))),Obj.row 3 (iA (SS.c9 (gY e0.bd (ez e0.l (0:Int))))),Obj.row 9 (strs (SS.binds (gY e0.bd (ez e0.l (0:Int))))),Obj.row 3 (iA (SS.c6 (gY e0.bd (ez
 e0.l (0:Int))))),Obj.row 9 (strs (SS.eqs (gY e0.bd (ez e0.l (0:Int)))))]):=by kernel_rfl
def x9(x:tj):List AV×List Dn.Obj:=([.ptr 0 0 [] 0, .agg [.lit (.string x.rel), .ad 56 x.l], .ptr 1 0 [] 0],[SE x,Q5 x x.rl .nil .nil .nil .nil .nil .nil])
def iQ(x:tj):SS:=gY x.bd (ez x.l 0)
abbrev TT(x:tj)(q:SS):List Dn.Obj:=[SE x,Q5 x (bD x.rel x.ds) (.ar 2 0 (iA q.eO).length) (.ar 3 0 q.cG.length) (.ar 4 0 (iA q.c9).length) (.ar 5 0 (strs q.binds).length) (.ar 6 0 (iA q.c6).length) (.ar 7 0 (strs q.eqs).length),
 .row 3 (iA q.eO), .row 56 q.cG, .row 3 (iA q.c9), .row 9 (strs q.binds), .row 3 (iA q.c6), .row 9 (strs q.eqs)]
def RV(x:tj):Out (AV×List Dn.Obj):= .one (.bp [],TT x (iQ x))
theorem cAm(κ:Kp):bz (X6 κ).E 12 126 (aR x9 qE RV):=by
 refine bg ?_
 rintro x K hf ho
 refine Eq.mpr (yAm κ x K) ?_
 exact⟨(x.ds,x.rel),rfl,hf.hd,x,rfl,hf,ho⟩
noncomputable def X4(κ:Kp):EB:=(X6 κ).opened [(1,[10,3],56),(1,[11,3],56)] [] (cAm κ)
structure SB where
 ds:List AV
 rs:List AV
 bd:List AV
 rel:ByteArray
 l:List AV
 op:Int
 u:AT
 v:AT
abbrev Ws(x:SB):Dn.Obj:= .box 131 (.agg [gS x.ds x.rs, .ad 9 x.bd])
theorem ySp(κ:Kp)(x:SB)(K:AV->List Dn.Obj->Prop):(bf (X4 κ).E 12 78 [.ptr 0 0 [] 0, .agg [.int x.op, .agg [.lit (.string x.rel), .ad 56 x.l],cv x.u,cv x.v]] [Ws x] K)=(
 letI z4:=AV.agg [AV.agg [AV.ad 61 x.ds,AV.ad 66 x.rs],AV.ad 9 x.bd]
 letI z1:=∃(e1:AT),([AV.agg [AV.int x.u.op,AV.str x.u.s,AV.int x.u.n,AV.ad 56 x.u.l]],[])=iO e1/\Tm.gu (AT.tm e1)<=100000/\∃(e0:AT),([AV.agg [AV.int x.v.op,AV.str x.v.s,AV.int x.v.n,AV.ad 56 x.v.l]],[])=iO e0/\Tm.gu (AT.tm e0)<=100000/\K (AV.agg [AV.int 3,AV.int x.op,AV.int 0,AV.ad 3 [],AV.ad 56 [],AV.ad 3 [],AV.ad 9 [],AV.ad 3 [],AV.ad 9 [],AV.str {data:= #[]},AV.agg [AV.int e1.op,AV.str e1.s,AV.int e1.n,AV.ad 56 (cL (aa e1.l))],AV.agg [AV.int e0.op,AV.str e0.s,AV.int e0.n,AV.ad 56 (cL (aa e0.l))]]) [Obj.box 131 z4]
 letI z2:=∃(e0:tj),([AV.ptr 0 0 [] 0,AV.agg [AV.str x.rel,AV.ad 56 x.l],AV.ptr 1 0 [] 0],[Obj.box 131 z4,Obj.box 58 (AV.agg [AV.int 5,AV.int x.op,AV.int 0,AV.nil,AV.nil,AV.nil,AV.nil,AV.nil,AV.nil,AV.str {data:= #[]},AV.agg [AV.int x.u.op,AV.str x.u.s,AV.int x.u.n,AV.ad 56 x.u.l],AV.agg [AV.int x.v.op,AV.str x.v.s,AV.int x.v.n,AV.ad 56 x.v.l]])])=x9 e0/\qE e0/\K (AV.agg [AV.int e0.op,AV.int e0.nu,AV.int (bD e0.rel e0.ds),AV.ad 3 (List.take (List.length (iA (SS.eO (iQ e0)))) (List.drop 0 (iA (SS.eO (iQ e0))))),AV.ad 56 (List.take (List.length (SS.cG (iQ e0))) (List.drop 0 (SS.cG (iQ e0)))),AV.ad 3 (List.take (List.length (iA (SS.c9 (iQ e0)))) (List.drop 0 (iA (SS.c9 (iQ e0))))),AV.ad 9 (List.take (List.length (strs (SS.binds (iQ e0)))) (List.drop 0 (strs (SS.binds (iQ e0))))),AV.ad 3 (List.take (List.length (iA (SS.c6 (iQ e0)))) (List.drop 0 (iA (SS.c6 (iQ e0))))),AV.ad 9 (List.take (List.length (strs (SS.eqs (iQ e0)))) (List.drop 0 (strs (SS.eqs (iQ e0))))),AV.str e0.s,AV.agg [AV.int e0.u.op,AV.str e0.u.s,AV.int e0.u.n,AV.ad 56 e0.u.l],AV.agg [AV.int e0.v.op,AV.str e0.v.s,AV.int e0.v.n,AV.ad 56 e0.v.l]]) [Obj.box 131 (AV.agg [AV.agg [AV.ad 61 e0.ds,AV.ad 66 e0.rs],AV.ad 9 e0.bd])]
 letI z5:=decide (x.bd.length<=9223372036854775807)
 letI z3:=ba z5 (aC (!decide (eg x.v.s x.bd (0:Int)>=(0:Int))) (∃(e0:AT),([AV.agg [AV.int x.u.op,AV.str x.u.s,AV.int x.u.n,AV.ad 56 x.u.l]],[])=iO e0/\Tm.gu (AT.tm e0)<=100000/\K (AV.agg [AV.int 4,AV.int 0,AV.int 0,AV.ad 3 [],AV.ad 56 [],AV.ad 3 [],AV.ad 9 [],AV.ad 3 [],AV.ad 9 [],AV.str x.v.s,AV.agg [AV.int e0.op,AV.str e0.s,AV.int e0.n,AV.ad 56 (cL (aa e0.l))],AV.agg [AV.int 0,AV.str {data:= #[]},AV.int 0,AV.ad 56 []]]) [Obj.box 131 z4]) z1)
 letI z6:=!decide (eg x.u.s x.bd (0:Int)>=(0:Int))
 aC (x.op==(2:Int)) (∃(e0:tj),([AV.ptr 0 0 [] 0,AV.agg [AV.str x.rel,AV.ad 56 x.l],AV.ptr 1 0 [] 0],[Obj.box 131 z4,Obj.box 58 (AV.agg [AV.int 2,AV.int 0,AV.int 0,AV.nil,AV.nil,AV.nil,AV.nil,AV.nil,AV.nil,AV.str {data:= #[]},AV.agg [AV.int 0,AV.str {data:= #[]},AV.int 0,AV.ad 56 []],AV.agg [AV.int 0,AV.str {data:= #[]},AV.int 0,AV.ad 56 []]])])=x9 e0/\qE e0/\K (AV.agg [AV.int e0.op,AV.int e0.nu,AV.int (bD e0.rel e0.ds),AV.ad 3 (List.take (List.length (iA (SS.eO (iQ e0)))) (List.drop 0 (iA (SS.eO (iQ e0))))),AV.ad 56 (List.take (List.length (SS.cG (iQ e0))) (List.drop 0 (SS.cG (iQ e0)))),AV.ad 3 (List.take (List.length (iA (SS.c9 (iQ e0)))) (List.drop 0 (iA (SS.c9 (iQ e0))))),AV.ad 9 (List.take (List.length (strs (SS.binds (iQ e0)))) (List.drop 0 (strs (SS.binds (iQ e0))))),AV.ad 3 (List.take (List.length (iA (SS.c6 (iQ e0)))) (List.drop 0 (iA (SS.c6 (iQ e0))))),AV.ad 9 (List.take (List.length (strs (SS.eqs (iQ e0)))) (List.drop 0 (strs (SS.eqs (iQ e0))))),AV.str e0.s,AV.agg [AV.int e0.u.op,AV.str e0.u.s,AV.int e0.u.n,AV.ad 56 e0.u.l],AV.agg [AV.int e0.v.op,AV.str e0.v.s,AV.int e0.v.n,AV.ad 56 e0.v.l]]) [Obj.box 131 (AV.agg [AV.agg [AV.ad 61 e0.ds,AV.ad 66 e0.rs],AV.ad 9 e0.bd])]) (aC (x.op==(1:Int)) (∃(e0:tj),([AV.ptr 0 0 [] 0,AV.agg [AV.str x.rel,AV.ad 56 x.l],AV.ptr 1 0 [] 0],[Obj.box 131 z4,Obj.box 58 (AV.agg [AV.int 1,AV.int 0,AV.int 0,AV.nil,AV.nil,AV.nil,AV.nil,AV.nil,AV.nil,AV.str {data:= #[]},AV.agg [AV.int 0,AV.str {data:= #[]},AV.int 0,AV.ad 56 []],AV.agg [AV.int 0,AV.str {data:= #[]},AV.int 0,AV.ad 56 []]])])=x9 e0/\qE e0/\K (AV.agg [AV.int e0.op,AV.int e0.nu,AV.int (bD e0.rel e0.ds),AV.ad 3 (List.take (List.length (iA (SS.eO (iQ e0)))) (List.drop 0 (iA (SS.eO (iQ e0))))),AV.ad 56 (List.take (List.length (SS.cG (iQ e0))) (List.drop 0 (SS.cG (iQ e0)))),AV.ad 3 (List.take (List.length (iA (SS.c9 (iQ e0)))) (List.drop 0 (iA (SS.c9 (iQ e0))))),AV.ad 9 (List.take (List.length (strs (SS.binds (iQ e0)))) (List.drop 0 (strs (SS.binds (iQ e0))))),AV.ad 3 (List.take (List.length (iA (SS.c6 (iQ e0)))) (List.drop 0 (iA (SS.c6 (iQ e0))))),AV.ad 9 (List.take (List.length (strs (SS.eqs (iQ e0)))) (List.drop 0 (strs (SS.eqs (iQ e0))))),AV.str e0.s,AV.agg [AV.int e0.u.op,AV.str e0.u.s,AV.int e0.u.n,AV.ad 56 e0.u.l],AV.agg [AV.int e0.v.op,AV.str e0.v.s,AV.int e0.v.n,AV.ad 56 e0.v.l]]) [Obj.box 131 (AV.agg [AV.agg [AV.ad 61 e0.ds,AV.ad 66 e0.rs],AV.ad 9 e0.bd])]) (aC (x.op==(3:Int)) (aC (x.u.op==(1:Int)) (ba z5 (aC z6 (∃(e0:AT),([AV.agg [AV.int x.v.op,AV.str x.v.s,AV.int x.v.n,AV.ad 56 x.v.l]],[])=iO e0/\Tm.gu (AT.tm e0)<=100000/\K (AV.agg [AV.int 4,AV.int 0,AV.int 0,AV.ad 3 [],AV.ad 56 [],AV.ad 3 [],AV.ad 9 [],AV.ad 3 [],AV.ad 9 [],AV.str x.u.s,AV.agg [AV.int e0.op,AV.str e0.s,AV.int e0.n,AV.ad 56 (cL (aa e0.l))],AV.agg [AV.int 0,AV.str {data:= #[]},AV.int 0,AV.ad 56 []]]) [Obj.box 131 z4]) (aC (x.v.op==(1:Int)) z3 (∃(e1:AT),([AV.agg [AV.int x.u.op,AV.str x.u.s,AV.int x.u.n,AV.ad 56 x.u.l]],[])=iO e1/\Tm.gu (AT.tm e1)<=100000/\∃(e0:AT),([AV.agg [AV.int x.v.op,AV.str x.v.s,AV.int x.v.n,AV.ad 56 x.v.l]],[])=iO e0/\Tm.gu (AT.tm e0)<=100000/\K (AV.agg [AV.int 3,AV.int x.op,AV.int 0,AV.ad 3 [],AV.ad 56 [],AV.ad 3 [],AV.ad 9 [],AV.ad 3 [],AV.ad 9 [],AV.str {data:= #[]},AV.agg [AV.int e1.op,AV.str e1.s,AV.int e1.n,AV.ad 56 (cL (aa e1.l))],AV.agg [AV.int e0.op,AV.str e0.s,AV.int e0.n,AV.ad 56 (cL (aa e0.l))]]) [Obj.box 131 z4])))) (aC (x.v.op==(1:Int)) z3 z1)) (aC (x.op==(4:Int)) z1 (aC (x.op==(5:Int)) z1 (aC (x.op==(6:Int)) z1 (aC (x.u.op==(1:Int)) (ba z5 (aC z6 (∃(e0:tj),([AV.ptr 0 0 [] 0,AV.agg [AV.str x.rel,AV.ad 56 x.l],AV.ptr 1 0 [] 0],[Obj.box 131 z4,Obj.box 58 (AV.agg [AV.int 5,AV.int x.op,AV.int 0,AV.nil,AV.nil,AV.nil,AV.nil,AV.nil,AV.nil,AV.str x.u.s,AV.agg [AV.int 0,AV.str {data:= #[]},AV.int 0,AV.ad 56 []],AV.agg [AV.int x.v.op,AV.str x.v.s,AV.int x.v.n,AV.ad 56 x.v.l]])])=x9 e0/\qE e0/\K (AV.agg [AV.int e0.op,AV.int e0.nu,AV.int (bD e0.rel e0.ds),AV.ad 3 (List.take (List.length (iA (SS.eO (iQ e0)))) (List.drop 0 (iA (SS.eO (iQ e0))))),AV.ad 56 (List.take (List.length (SS.cG (iQ e0))) (List.drop 0 (SS.cG (iQ e0)))),AV.ad 3 (List.take (List.length (iA (SS.c9 (iQ e0)))) (List.drop 0 (iA (SS.c9 (iQ e0))))),AV.ad 9 (List.take (List.length (strs (SS.binds (iQ e0)))) (List.drop 0 (strs (SS.binds (iQ e0))))),AV.ad 3 (List.take (List.length (iA (SS.c6 (iQ e0)))) (List.drop 0 (iA (SS.c6 (iQ e0))))),AV.ad 9 (List.take (List.length (strs (SS.eqs (iQ e0)))) (List.drop 0 (strs (SS.eqs (iQ e0))))),AV.str e0.s,AV.agg [AV.int e0.u.op,AV.str e0.u.s,AV.int e0.u.n,AV.ad 56 e0.u.l],AV.agg [AV.int e0.v.op,AV.str e0.v.s,AV.int e0.v.n,AV.ad 56 e0.v.l]]) [Obj.box 131 (AV.agg [AV.agg [AV.ad 61 e0.ds,AV.ad 66 e0.rs],AV.ad 9 e0.bd])]) z2)) z2))))))):=by kernel_rfl
structure PW(x:SB):Prop where
 hl:aO (aa x.l)<=100000
 hb:x.bd.length<=100000
 hd:x.ds.length<=aM
 hu:x.u.tm.gu<=100000
 hv:x.v.tm.gu<=100000
def U3(x:SB):List AV×List Dn.Obj:=([.ptr 0 0 [] 0, .agg [.int x.op, .agg [.lit (.string x.rel), .ad 56 x.l],cv x.u,cv x.v]],[Ws x])
def VB(x:SB):Out (AV×List Dn.Obj):= .one (P3 (tJ x.ds x.bd x.rel x.l x.op x.u x.v),[Ws x])
theorem cSp(κ:Kp):bz (X4 κ).E 12 78 (aR U3 PW VB):=by
 refine bg ?_
 rintro x K hf ho
 refine Eq.mpr (ySp κ x K) ?_
 have hbd:decide (x.bd.length<=9223372036854775807)=true:=by
  have:=hf.hb
  rw[aa2];omega
 have fa: ∀op nu rl s u v,qE ⟨x.ds,x.rs,x.bd,x.rel,x.l,op,nu,rl,s,u,v⟩:=fun _ _ _ _ _ _=>⟨hf.hl,hf.hb,hf.hd⟩
 have ho:K (P3 (tJ x.ds x.bd x.rel x.l x.op x.u x.v)) [Ws x]:=ho
 unfold tJ Bw at ho
 simp only[ab2,List.take_length,hbd]
 cases h2:(x.op==2) with
 |true=>
  rw[h2] at ho
  exact⟨⟨x.ds,x.rs,x.bd,x.rel,x.l,2,0,0,ByteArray.mk #[],zT,zT⟩,rfl,fa _ _ _ _ _ _,ho⟩
 | false=>
  rw[h2] at ho
  cases h1:(x.op==1) with
  |true=>
   rw[h1] at ho
   exact⟨⟨x.ds,x.rs,x.bd,x.rel,x.l,1,0,0,ByteArray.mk #[],zT,zT⟩,rfl,fa _ _ _ _ _ _,ho⟩
  | false=>
   rw[h1] at ho
   cases h3:(x.op==3) with
   | true=>
    rw[h3] at ho
    cases hu1:(x.u.op==1)<;>rw[hu1] at ho
    ·cases hv1:(x.v.op==1)<;>rw[hv1] at ho
     ·exact⟨x.u,rfl,hf.hu,x.v,rfl,hf.hv,ho⟩
     ·cases hv2:lT x.v.s x.bd<;>rw[hv2] at ho<;>unfold lT at hv2<;>rw[hv2]
      ·exact⟨x.u,rfl,hf.hu,ho⟩
      ·exact⟨x.u,rfl,hf.hu,x.v,rfl,hf.hv,ho⟩
    ·cases hu2:lT x.u.s x.bd<;>rw[hu2] at ho<;>unfold lT at hu2<;>rw[hu2]
     ·exact⟨x.v,rfl,hf.hv,ho⟩
     ·cases hv1:(x.v.op==1)<;>rw[hv1] at ho
      ·exact⟨x.u,rfl,hf.hu,x.v,rfl,hf.hv,ho⟩
      ·cases hv2:lT x.v.s x.bd<;>rw[hv2] at ho<;>unfold lT at hv2<;>rw[hv2]
       ·exact⟨x.u,rfl,hf.hu,ho⟩
       ·exact⟨x.u,rfl,hf.hu,x.v,rfl,hf.hv,ho⟩
   | false=>
    rw[h3] at ho
    cases h4:(x.op==4) with
    |true=>rw[h4] at ho;exact⟨x.u,rfl,hf.hu,x.v,rfl,hf.hv,ho⟩
    | false=>
     rw[h4] at ho
     cases h5:(x.op==5) with
     |true=>rw[h5] at ho;exact⟨x.u,rfl,hf.hu,x.v,rfl,hf.hv,ho⟩
     | false=>
      rw[h5] at ho
      cases h6:(x.op==6) with
      |true=>rw[h6] at ho;exact⟨x.u,rfl,hf.hu,x.v,rfl,hf.hv,ho⟩
      | false=>
       rw[h6] at ho
       cases hu1:(x.u.op==1)<;>rw[hu1] at ho
       ·exact⟨⟨x.ds,x.rs,x.bd,x.rel,x.l,5,x.op,0,ByteArray.mk #[],x.u,x.v⟩,rfl,fa _ _ _ _ _ _,ho⟩
       ·cases hu2:lT x.u.s x.bd<;>rw[hu2] at ho<;>unfold lT at hu2<;>rw[hu2]
        ·exact⟨⟨x.ds,x.rs,x.bd,x.rel,x.l,5,x.op,0,x.u.s,zT,x.v⟩,rfl,fa _ _ _ _ _ _,ho⟩
        ·exact⟨⟨x.ds,x.rs,x.bd,x.rel,x.l,5,x.op,0,ByteArray.mk #[],x.u,x.v⟩,rfl,fa _ _ _ _ _ _,ho⟩
noncomputable def BSp(κ:Kp):EB:=(((X4 κ).call (cSp κ)).calm [78]).opens [(41,5,[(1193,some 58)])]
end Go.Proofs.YthaiinlfnommnaaGreatDoor
