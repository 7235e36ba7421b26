import Derived.Test.YtdpmikfheebicaaGreatDoorDqMA
namespace Go.Proofs.YtdpmikfheebicaaGreatDoor
open Go Go.Dn Go.Rl Go.Proofs
attribute [local irreducible] bg vc
set_option maxRecDepth 20000
noncomputable def LB(κ:Kp):Env:=Env.nR (PG κ) (fun f=>kh f (20::35::17::BK))
theorem eLd(κ:Kp):aC (LB κ):=Ue (R7 κ) _
theorem Tw(κ:Kp):ai (LB κ):=Mq (Sj κ) _
theorem X9(κ:Kp)(l:List AV)(a:Int)(i k:Nat)(I:Nat->S->Prop)(n:Nat)(K:Exit->S->Prop):(vc (LB κ) 12 20 none 0 (ag (Pr κ).toProgram 20 5) (sp 32 [(0, .ae 48 l),(1, .int a),(5, .int i),(6, .int k)] []) (bI (LB κ) 20 5 0 I n K))=(
 letI z2:=true&&decide ((↑i:Int)<(↑(l.length):Int))
 letI z3:=ah (nth l (Int.toNat (↑i:Int)))
 letI z1:=(↑k:Int)<(↑(List.length z3):Int)
 aO z2 (ax (decide z1) (aO z2 (aO (true&&decide z1) (ax (toInt (nth z3 (Int.toNat (↑k:Int)))==a) (K Exit.ret (sp 32 [(4,AV.int (↑i:Int))] [])) (∃(e0:
 Nat),e0<n/\I e0 (sp 32 [(0,AV.ae 48 l),(1,AV.int a),(5,AV.int (↑i:Int)),(6,AV.int (IntKind.wrap IntKind.i64 ((↑k:Int)+(1:Int))))] []))))) (K
 (Exit.exit 2) (sp 32 [(0,AV.ae 48 l),(1,AV.int a),(5,AV.int (↑i:Int))] [])))):=by kernel_rfl
def L2(a:Int)(xs:List AV):Bool:=xs.any fun x=>toInt x==a
structure LZ where
 l:List AV
 a:Int
 i:Nat
 k:Nat
abbrev QR(x:LZ):S:=sp 32 [(0, .ae 48 x.l),(1, .int x.a),(5, .int x.i),(6, .int x.k)] []
def Hu(x:LZ):Prop:=x.i<x.l.length/\fY x.l=true/\x.k<=(ah (nth x.l x.i)).length
def DK(x:LZ):Out (Exit×S):= .ax (L2 x.a ((ah (nth x.l x.i)).drop x.k))
 (.one (.ret,sp 32 [(4, .int x.i)] []))
 (.one (.exit 2,sp 32 [(0, .ae 48 x.l),(1, .int x.a),(5, .int x.i)] []))
theorem JD{l:List AV}(h:fY l=true){i:Nat}(hi:i<l.length):l.length<=aP/\(ah (nth l i)).length<=aP:=by
 rw[fY,aa1,List.all_eq_true] at h
 have hx:nth l i∈l:=by rw[a8 _ _ hi];exact List.getElem_mem _
 exact⟨of_decide_eq_true h.1,of_decide_eq_true (h.2 _ hx)⟩
theorem Xq(κ:Kp):bn (LB κ) 12 20 5 (aQ 0 QR Hu DK):=by
 refine aR (fun x=>(ah (nth x.l x.i)).length - x.k) ?_
 rintro⟨l,a,i,k⟩ K ⟨hi,hf,hk⟩ ho
 simp only at hi hf hk
 have hm:=JD hf hi
 simp only[aP] at hm
 rw[show(LB κ).P=Pr κ from rfl]
 refine Eq.mpr (X9 κ l a i k _ _ K) ?_
 simp only[Int.toNat_natCast,ab9]
 have ho2:=ho
 simp only[DK,Out.run,af] at ho2
 rw[au,af,au,au,af]
 simp only[aa0,aa2]
 refine⟨by omega,fun h=>⟨by omega,h,fun e=>?_,fun e=>?_⟩,fun h=>?_⟩
 ·rw[ab1 (show k<(ah (nth l i)).length by omega),←a8 (ah (nth l i)) k (by omega),L2,List.any_cons,e] at ho2
  exact ho2.1 rfl
 ·rw[a5 (n:=(k:Int)+1) (by omega) (by omega)]
  refine⟨_,?_,⟨l,a,i,k+1⟩,rfl,⟨hi,hf,by simp only;omega⟩,rfl,?_⟩
  ·simp only;omega
  ·simp only[DK,Out.run,af]
   rw[ab1 (show k<(ah (nth l i)).length by omega),←a8 (ah (nth l i)) k (by omega),L2,List.any_cons,e] at ho2
   exact ho2
 ·rw[aa8 (by omega)] at ho2
  exact ho2.2 rfl
noncomputable def Lv(κ:Kp):Env:=(LB κ).aj 20 5 (aQ 0 QR Hu DK)
theorem ZV(κ:Kp):aC (Lv κ):=(eLd κ).aj (Tw κ) (Xq κ)
theorem UR(κ:Kp):ai (Lv κ):=(Tw κ).aj aG
theorem xPo(κ:Kp)(l:List AV)(a:Int)(i:Nat)(I:Nat->S->Prop)(n:Nat)(K:Exit->S->Prop):(vc (Lv κ) 12 20 none 0 (ag (Pr κ).toProgram 20 2) (sp 32 [(0, .ae 48 l),(1, .int a),(5, .int i)] []) (bI (Lv κ) 20 2 0 I n K))=(
 letI z1:=Pg.toProgram (Env.P (LB κ))
 ax (decide ((↑i:Int)<(↑(l.length):Int))) (ag z1 20 5=ag z1 20 5/\∃(e1:LZ),sp 32 [(0,AV.ae 48 l),(1,AV.int a),(5,AV.int (↑i:Int)),(6,AV.int
 0)] []=sp 32 [(0,AV.ae 48 e1.l),(1,AV.int e1.a),(5,AV.int (↑(e1.i):Int)),(6,AV.int (↑(e1.k):Int))] []/\(e1.i<e1.l.length/\fY e1.l=true/\e1.k
 <=List.length (ah (nth e1.l e1.i)))/\ax (L2 e1.a (List.drop e1.k (ah (nth e1.l e1.i)))) (K Exit.ret (sp 32 [(4,AV.int (↑(e1.i):Int))] [])) (∃(e0:Nat),e0
 <n/\I e0 (sp 32 [(0,AV.ae 48 e1.l),(1,AV.int e1.a),(5,AV.int (IntKind.wrap IntKind.i64 ((↑(e1.i):Int)+(1:Int))))] []))) (K (Exit.exit 0) (sp 32 []
 []))):=by kernel_rfl
def wS:List AV->Int->Int->Int
 |[],_,_=> -1
 |x::l,a,i=>bif L2 a (ah x) then i else wS l a (i+1)
def PV(l:List AV)(a:Int):Bool:=l.any fun x=>L2 a (ah x)
abbrev Ps(x:LZ):S:=sp 32 [(0, .ae 48 x.l),(1, .int x.a),(5, .int x.i)] []
def Jj(x:LZ):Prop:=fY x.l=true/\x.i<=x.l.length
def Dy(x:LZ):Out (Exit×S):= .ax (PV (x.l.drop x.i) x.a)
 (.one (.ret,sp 32 [(4, .int (wS (x.l.drop x.i) x.a x.i))] []))
 (.one (.exit 0,sp 32 [] []))
theorem XJ(κ:Kp):bn (Lv κ) 12 20 2 (aQ 0 Ps Jj Dy):=by
 refine aR (fun x=>x.l.length - x.i) ?_
 rintro⟨l,a,i,k⟩ K ⟨hf,hi⟩ ho
 simp only at hi hf
 have hm:l.length<=aP:=by rw[fY,aa1] at hf;exact of_decide_eq_true hf.1
 simp only[aP] at hm
 rw[show(Lv κ).P=Pr κ from rfl]
 refine Eq.mpr (xPo κ l a i _ _ K) ?_
 have ho2:=ho
 simp only[Dy,Out.run,af] at ho2
 rw[af,aa0,aa2]
 refine⟨fun h=>⟨rfl,⟨l,a,i,0⟩,rfl,⟨by simp only;omega,hf,Nat.zero_le _⟩,?_⟩,fun h=>?_⟩
 ·rw[ab1 (show i<l.length by omega),←a8 l i (by omega),PV,List.any_cons,wS] at ho2
  rw[ab0,af]
  refine⟨fun e=>?_,fun e=>?_⟩
  ·simp only at e
   rw[e,aa7,Bool.true_or] at ho2
   exact ho2.1 rfl
  ·simp only at e
   rw[e,aa5,Bool.false_or] at ho2
   rw[a5 (n:=(i:Int)+1) (by omega) (by omega)]
   refine⟨_,?_,⟨l,a,i+1,0⟩,rfl,⟨hf,by simp only;omega⟩,rfl,?_⟩
   ·simp only;omega
   ·simp only[Dy,Out.run,af]
    exact ho2
 ·rw[aa8 (by omega)] at ho2
  exact ho2.2 rfl
noncomputable def OK(κ:Kp):Env:=(Lv κ).aj 20 2 (aQ 0 Ps Jj Dy)
theorem Ye(κ:Kp):aC (OK κ):=(ZV κ).aj (UR κ) (XJ κ)
theorem Ul(κ:Kp):ai (OK κ):=(UR κ).aj aG
theorem Wf(κ:Kp)(l:List AV)(a:Int)(K:AV->List Dn.Obj->Prop):(bg (OK κ) 12 20 [.ae 48 l, .int a] [] K)=(
 letI z1:=Pg.toProgram (Env.P (Lv κ))
 ag z1 20 2=ag z1 20 2/\∃(e0:LZ),sp 32 [(0,AV.ae 48 l),(1,AV.int a),(5,AV.int 0)] []=sp 32 [(0,AV.ae 48 e0.l),(1,AV.int e0.a),(5,AV.int
 (↑(e0.i):Int))] []/\(fY e0.l=true/\e0.i<=e0.l.length)/\ax (PV (List.drop e0.i e0.l) e0.a) (K (AV.int (wS (List.drop e0.i e0.l) e0.a (↑(e0.i):Int)))
 []) (K (AV.int (-1)) [])):=by kernel_rfl
def R6:List AV->Option (Bool×AV)
 |[.ae 48 l, .lit (.int .i64 a)]=>some (fY l, .int (wS l a 0))
 |_=>none
theorem zu: ∀(l:List AV) (a i:Int),PV l a=false->wS l a i= -1
 |[],_,_,_=>rfl
 |x::l,a,i,h=>by
  rw[PV,List.any_cons,Bool.or_eq_false_iff] at h
  rw[wS,h.1,aa5]
  exact zu l a (i+1) h.2
theorem V7(κ:Kp):cy (OK κ) 12 20 R6:=by
 intro args x hh
 unfold R6 at hh
 split at hh
 ·rename_i l a
  simp only[aa3,aa9] at hh
  obtain⟨h1,rfl⟩:=hh
  refine⟨_,rfl,rfl,?_⟩
  refine Eq.mpr (Wf κ l a _) ?_
  refine⟨rfl,⟨l,a,0,0⟩,rfl,⟨h1,Nat.zero_le _⟩,?_⟩
  rw[ab0,af]
  exact⟨fun _=>rfl,fun e=>by rw[zu l a 0 e]⟩
 ·cases hh
noncomputable def Lc(κ:Kp):Env:=(OK κ).aF 20 R6
theorem YH(κ:Kp):aC (Lc κ):=(Ye κ).aF (Ul κ) (V7 κ)
theorem Tp(κ:Kp):ai (Lc κ):=(Ul κ).aF
theorem NI(a:Int)(g:List Int):L2 a (iA g)=g.contains a:=by
 rw[Bool.eq_iff_iff]
 simp only[L2,iA,List.any_map,List.any_eq_true,Function.comp,beq_iff_eq,List.contains_eq_mem,aa0]
 exact⟨fun⟨x,h1,h2⟩=>by have:x=a:=h2;rw[←this];exact h1,fun h=>⟨a,h,rfl⟩⟩
theorem yq(a:Int): ∀(gs:List (List Int)) (i:Int),wS (bU gs) a i=su gs a i
 |[],_=>rfl
 |g::gs,i=>by
  have ih:=yq a gs (i+1)
  rw[su,←ih,←NI a g]
  rfl
theorem Xf(κ:Kp)(ds rs gl M:List AV)(a b c:Int)(i k:Nat)(I:Nat->S->Prop)(n:Nat)(K:Exit->S->Prop):(vc (Lc κ) 12 8 none 0 (ag (Pr κ).toProgram 8 13) (sp 186 [(1, .int a),(2, .int b),(3, .ptr 0 0 [] 0),(7, .bool true),(8, .az 1 0 gl.length),(11, .az 2 0 M.length),(12, .int c),(13, .int i),(14, .int k)] [.box 25 (gz ds rs), .row 48 gl, .row 4 M]) (bI (Lc κ) 8 13 0 I n K))=(
 letI z3:=ah (nth gl (0+Int.toNat (↑i:Int)))
 letI z1:=nth z3 (Int.toNat (↑k:Int))
 letI z4:=K Exit.ret (sp 186 [(6,AV.bool false)] [])
 letI z5:=true&&decide ((↑i:Int)<(↑(gl.length):Int))
 letI z6:=decide ((0:Int)<=toInt z1)&&decide (toInt z1<(↑(M.length):Int))
 letI z7:=(↑k:Int) - (1:Int)
 letI z8:=(↑k:Int)<(↑(List.length z3):Int)
 letI z9:=AV.agg [AV.ae 62 ds,AV.ae 41 rs]
 letI z2:=aO z6 (∃(e0:Nat),e0<n/\I e0 (sp 186 [(1,AV.int a),(2,AV.int b),(3,AV.ptr 0 0 [] 0),(7,AV.bool true),(8,AV.az 1 0 gl.length),(11,
  AV.az 2 0 M.length),(12,AV.int (IntKind.wrap IntKind.i64 (c+(1:Int)))),(13,AV.int (↑i:Int)),(14,AV.int (IntKind.wrap IntKind.i64 ((↑k:Int)+(1:
  Int))))] [Obj.box 25 z9,Obj.row 48 gl,Obj.row 4 (bQ M (0+Int.toNat (toInt z1)) (AV.bool true))]))
 aO z5 (ax (decide z8) (aO z5 (aO (true&&decide z8) (ax (decide (toInt z1<(0:Int))) z4 (ax (decide (toInt z1>=(↑(M.length):Int))) z4 (aO z6 (ax
 (Dn.toBool (nth M (0+Int.toNat (toInt z1)))) z4 (ax (decide ((↑k:Int)>(0:Int))) (aO z5 (aO (decide ((0:Int)<=IntKind.wrap IntKind.i64 z7)&&decide
 (IntKind.wrap IntKind.i64 z7<(↑(List.length z3):Int))) (ax (decide (toInt (nth z3 (Int.toNat (IntKind.wrap IntKind.i64 z7)))>=toInt z1)) z4 z2))) z2)))))))
 (K (Exit.exit 2) (sp 186 [(1,AV.int a),(2,AV.int b),(3,AV.ptr 0 0 [] 0),(7,AV.bool true),(8,AV.az 1 0 gl.length),(11,AV.az 2 0 M.length),(12,AV.int
 c),(13,AV.int (↑i:Int))] [Obj.box 25 z9,Obj.row 48 gl,Obj.row 4 M])))):=by kernel_rfl
def cF(n:Nat)(l:List Int):List Bool:=(List.range n).map fun(j:Nat)=>l.contains (j:Int)
theorem mD(n:Nat)(l:List Int):(a6 (cF n l)).length=n:=by simp[a6,cF]
theorem Hr{n:Nat}{l:List Int}{x:Int}(h:0<=x/\x<n):Dn.toBool (nth (a6 (cF n l)) (0+x.toNat))=l.contains x:=by
 rw[Nat.zero_add,a8 _ _ (by rw[mD];omega)]
 simp only[a6,cF,List.getElem_map,List.getElem_range,Dn.toBool]
 rw[show((x.toNat:Nat):Int)=x by omega]
theorem Hm{n:Nat}{l:List Int}{x:Int}(h:0<=x/\x<n):bQ (a6 (cF n l)) (0+x.toNat) (.lit (.bool true))=a6 (cF n (l++[x])):=by
 rw[Nat.zero_add,lR]
 congr 1
 refine List.ext_getElem (by simp[cF]) fun j h1 h2=>?_
 rw[List.getElem_set]
 simp only[cF,List.getElem_map,List.getElem_range]
 by_cases e:x.toNat=j
 ·rw[if_pos e]
  have:(j:Int)=x:=by omega
  simp[this]
 ·rw[if_neg e]
  have: ¬ (j:Int)=x:=by omega
  rw[Bool.eq_iff_iff]
  simp[this]
theorem kI: ∀{l m:List Int},l.Nodup->(∀x,x∈l->x∈m)->l.length<=m.length
 |[],_,_,_=>Nat.zero_le _
 |a::l,m,h,hs=>by
  rw[List.nodup_cons] at h
  have ha:=hs a (by simp)
  have ih:=kI (l:=l) (m:=m.erase a) h.2 fun x hx=>(List.mem_erase_of_ne (fun e=>h.1 (by rw[←e];exact hx))).2 (hs x (by simp[hx]))
  rw[List.length_erase_of_mem ha] at ih
  have:=List.length_pos_of_mem ha
  simp only[List.length_cons];omega
structure rZ(n:Nat)(gs:List (List Int)):Prop where
 jO: ∀c,c∈gs.flatten->0<=c/\c<n
 pg:gs.flatten.Nodup
 Q5: ∀g,g∈gs->g.Pairwise (· < ·)
 hn:n<=60
 iN:gs.length<=100
theorem rZ.le{n:Nat}{gs:List (List Int)}(h:rZ n gs):gs.flatten.length<=n:=by
 have:=kI h.pg (fun x hx=>dK.2 (h.jO x hx))
 simpa[eQ] using this
structure Ja where
 ds:List AV
 rs:List AV
 n:Nat
 gs:List (List Int)
 a:Int
 b:Int
 i:Nat
 k:Nat
def jy(x:Ja):List Int:=(x.gs.take x.i).flatten
def fT(x:Ja):List Int:=(x.gs.take x.i).flatten++(x.gs.getD x.i []).take x.k
abbrev KS(x:Ja):S:=sp 186 [(1, .int x.a),(2, .int x.b),(3, .ptr 0 0 [] 0),(7, .bool true),(8, .az 1 0 (bU x.gs).length),(11, .az 2 0 (a6 (cF x.n (fT x))).length),(12, .int (fT x).length),(13, .int x.i),(14, .int x.k)] [.box 25 (gz x.ds x.rs), .row 48 (bU x.gs), .row 4 (a6 (cF x.n (fT x)))]
def BF(x:Ja):Prop:=rZ x.n x.gs/\x.i<x.gs.length/\x.k<=(x.gs.getD x.i []).length
def zT(x:Ja):Out (Exit×S):= .one (.exit 2,sp 186 [(1, .int x.a),(2, .int x.b),(3, .ptr 0 0 [] 0),(7, .bool true),(8, .az 1 0 (bU x.gs).length),(11, .az 2 0 (a6 (cF x.n (x.gs.take (x.i+1)).flatten)).length),(12, .int (x.gs.take (x.i+1)).flatten.length),(13, .int x.i)] [.box 25 (gz x.ds x.rs), .row 48 (bU x.gs), .row 4 (a6 (cF x.n (x.gs.take (x.i+1)).flatten))])
theorem KY(gs:List (List Int))(i:Nat)(h:i<gs.length):ah (nth (bU gs) (0+i))=iA (gs.getD i []):=by
 rw[Nat.zero_add,a8 _ _ (by rw[iK];exact h)]
 simp[bU,ah,List.getD_eq_getElem?_getD,h]
theorem j5(gs:List (List Int))(i:Nat)(h:i<gs.length):(gs.take (i+1)).flatten=(gs.take i).flatten++gs.getD i []:=by
 rw[List.take_add_one,List.flatten_append,ab6 h]
 simp[List.getD_eq_getElem?_getD,h]
theorem CO(gs:List (List Int))(i:Nat)(h:i<gs.length):gs.flatten=(gs.take i).flatten++(gs.getD i []++(gs.drop (i+1)).flatten):=by
 rw[←List.append_assoc,←j5 gs i h,←List.flatten_append,List.take_append_drop]
theorem Xw(κ:Kp):bn (Lc κ) 12 8 13 (aQ 0 KS BF zT):=by
 refine aR (fun x=>(x.gs.getD x.i []).length - x.k) ?_
 rintro⟨ds,rs,n,gs,a,b,i,k⟩ K ⟨hS,hi,hk⟩ ho
 simp only at hS hi hk
 rw[show(Lc κ).P=Pr κ from rfl]
 refine Eq.mpr (Xf κ ds rs (bU gs) (a6 (cF n (fT ⟨ds,rs,n,gs,a,b,i,k⟩))) a b (fT ⟨ds,rs,n,gs,a,b,i,k⟩).length i k _ _ K) ?_
 simp only[zT,Out.run,j5 gs i hi] at ho
 have hle:=hS.le
 have hfs:=CO gs i hi
 have hn:=hS.hn
 have hsl:(fT ⟨ds,rs,n,gs,a,b,i,k⟩).length<=gs.flatten.length:=by
  rw[hfs];simp only[fT,ab8,List.length_take];omega
 have hgl:(gs.getD i []).length<=gs.flatten.length:=by rw[hfs];simp only[ab8];omega
 rw[Int.toNat_natCast,KY gs i hi,Int.toNat_natCast,au,af]
 simp only[ab9,aa0,aa2,iK,gG]
 refine⟨by omega,fun h=>?_,fun h=>?_⟩
 ·have hk':k<(gs.getD i []).length:=by omega
  rw[CT _ k hk']
  generalize hx:(gs.getD i [])[k]=x
  have hxm:x∈gs.flatten:=by rw[hfs,←hx];simp[List.getElem_mem]
  have hxr:=hS.jO x hxm
  have hsplit:gs.flatten=fT ⟨ds,rs,n,gs,a,b,i,k⟩++x::((gs.getD i []).drop (k+1)++(gs.drop (i+1)).flatten):=by
   rw[hfs]
   simp only[fT,List.append_assoc]
   congr 1
   rw[←List.cons_append,←hx,←ab1 hk',←List.append_assoc,List.take_append_drop]
  have hns:(fT ⟨ds,rs,n,gs,a,b,i,k⟩).contains x=false:=by
   have hd:=hS.pg
   rw[hsplit,List.nodup_append] at hd
   rw[←Bool.not_eq_true,List.contains_eq_mem,aa0]
   exact fun hm=>hd.2.2 x hm x (by simp) rfl
  have hnext:fT ⟨ds,rs,n,gs,a,b,i,k+1⟩=fT ⟨ds,rs,n,gs,a,b,i,k⟩++[x]:=by
   simp only[fT,List.append_assoc]
   rw[List.take_add_one,ab6 hk',hx];rfl
  rw[Hr hxr,Hm hxr,hns,mD]
  rw[a5 (n:=((fT ⟨ds,rs,n,gs,a,b,i,k⟩).length:Int)+1) (by omega) (by omega),a5 (n:=(k:Int)+1) (by omega) (by omega)]
  have step: ∃m,m<(gs.getD i []).length - k/\fw KS BF zT (fun x=>(x.gs.getD x.i []).length - x.k) K m (sp 186 [(1, .int a),(2, .int b),(3, .ptr 0 0 [] 0),(7, .bool true),(8, .az 1 0 gs.length),(11, .az 2 0 n),(12, .int (((fT ⟨ds,rs,n,gs,a,b,i,k⟩).length:Int)+1)),(13, .int i),(14, .int ((k:Int)+1))] [.box 25 (gz ds rs), .row 48 (bU gs), .row 4 (a6 (cF n (fT ⟨ds,rs,n,gs,a,b,i,k⟩++[x])))]):=by
   refine⟨_,?_,⟨ds,rs,n,gs,a,b,i,k+1⟩,?_,⟨hS,hi,hk'⟩,rfl,?_⟩
   ·simp only;omega
   ·simp only[KS,hnext,mD,iK,ab8,List.length_singleton];rfl
   ·simp only[zT,Out.run,j5 gs i hi];exact ho
  have prev:0<k->toInt (nth (iA (gs.getD i [])) (Int.toNat (IntKind.wrap IntKind.i64 ((k:Int) - 1))))<x:=fun h0=>by
   rw[a5 (n:=(k:Int) - 1) (by omega) (by omega),show Int.toNat ((k:Int) - 1)=k - 1 by omega,CT _ (k - 1) (by omega)]
   have hg:gs.getD i []∈gs:=by
    rw[List.getD_eq_getElem?_getD,ab6 hi];exact List.getElem_mem _
   have hp:=List.pairwise_iff_getElem.1 (hS.Q5 _ hg) (k - 1) k (by omega) hk' (by omega)
   rw[hx] at hp;exact hp
  have wk:0<k->IntKind.wrap IntKind.i64 ((k:Int) - 1)=(k:Int) - 1:=fun _=>a5 (by omega) (by omega)
  simp only[af,au,aa0,aa2,aa1]
  refine⟨by omega,h,fun e=>absurd e (by omega),fun _=>⟨fun e=>absurd e (by omega),fun _=>⟨hxr,fun e=>(nomatch e),fun _=>⟨fun h0=>⟨by omega,⟨by have:=wk (by omega);omega,by have:=wk (by omega);omega⟩,fun e=>absurd e (by have:=prev (by omega);omega),fun _=>⟨hxr,step⟩⟩,fun _=>⟨hxr,step⟩⟩⟩⟩⟩
 ·have e:fT ⟨ds,rs,n,gs,a,b,i,k⟩=(gs.take i).flatten++gs.getD i []:=by
   simp only[fT]
   rw[List.take_of_length_le (l:=gs.getD i []) (by omega)]
  rw[e]
  simp only[iK] at ho
  exact ho
noncomputable def JM(κ:Kp):Env:=(Lc κ).aj 8 13 (aQ 0 KS BF zT)
theorem Xh(κ:Kp):aC (JM κ):=(YH κ).aj (Tp κ) (Xw κ)
theorem Ui(κ:Kp):ai (JM κ):=(Tp κ).aj aG
theorem xOo(κ:Kp)(ds rs M:List AV)(gs:List (List Int))(a b c:Int)(i:Nat)(I:Nat->S->Prop)(n:Nat)(K:Exit->S->Prop):(vc (JM κ) 12 8 none 0 (ag (Pr κ).toProgram 8 10) (sp 186 [(1, .int a),(2, .int b),(3, .ptr 0 0 [] 0),(7, .bool true),(8, .az 1 0 (bU gs).length),(11, .az 2 0 M.length),(12, .int c),(13, .int i)] [.box 25 (gz ds rs), .row 48 (bU gs), .row 4 M]) (bI (JM κ) 8 10 0 I n K))=(
 letI z1:=List.length (bU gs)
 letI z2:=AV.agg [AV.ae 62 ds,AV.ae 41 rs]
 letI z3:=Pg.toProgram (Env.P (Lc κ))
 ax (decide ((↑i:Int)<(↑z1:Int))) (ag z3 8 13=ag z3 8 13/\∃(e1:Ja),sp 186 [(1,AV.int a),(2,AV.int b),(3,AV.ptr 0 0 [] 0),(7,AV.bool true),
 (8,AV.az 1 0 z1),(11,AV.az 2 0 M.length),(12,AV.int c),(13,AV.int (↑i:Int)),(14,AV.int 0)] [Obj.box 25 z2,Obj.row 48 (bU gs),Obj.row 4 M]=sp 186
 [(1,AV.int e1.a),(2,AV.int e1.b),(3,AV.ptr 0 0 [] 0),(7,AV.bool true),(8,AV.az 1 0 (List.length (bU e1.gs))),(11,AV.az 2 0 (List.length (a6 (cF e1.n
 (fT e1))))),(12,AV.int (↑(List.length (fT e1)):Int)),(13,AV.int (↑(e1.i):Int)),(14,AV.int (↑(e1.k):Int))] [Obj.box 25 (AV.agg [AV.ae 62 e1.ds,AV.ae
 41 e1.rs]),Obj.row 48 (bU e1.gs),Obj.row 4 (a6 (cF e1.n (fT e1)))]/\(rZ e1.n e1.gs/\e1.i<e1.gs.length/\e1.k<=List.length (List.getD e1.gs e1.i []))/\∃
 (e0:Nat),e0<n/\I e0 (sp 186 [(1,AV.int e1.a),(2,AV.int e1.b),(3,AV.ptr 0 0 [] 0),(7,AV.bool true),(8,AV.az 1 0 (List.length (bU e1.gs))),(11,
 AV.az 2 0 (List.length (a6 (cF e1.n (List.flatten (List.take (e1.i+1) e1.gs)))))),(12,AV.int (↑(List.length (List.flatten (List.take (e1.i+1) e1.gs))):
 Int)),(13,AV.int (IntKind.wrap IntKind.i64 ((↑(e1.i):Int)+(1:Int))))] [Obj.box 25 (AV.agg [AV.ae 62 e1.ds,AV.ae 41 e1.rs]),Obj.row 48 (bU e1.gs),
 Obj.row 4 (a6 (cF e1.n (List.flatten (List.take (e1.i+1) e1.gs))))])) (K (Exit.exit 0) (sp 186 [(1,AV.int a),(2,AV.int b),(3,AV.ptr 0 0 [] 0),(7,
 AV.bool true),(8,AV.az 1 0 z1),(11,AV.az 2 0 M.length),(12,AV.int c)] [Obj.box 25 z2,Obj.row 48 (bU gs),Obj.row 4 M]))):=by kernel_rfl
abbrev On(x:Ja):S:=sp 186 [(1, .int x.a),(2, .int x.b),(3, .ptr 0 0 [] 0),(7, .bool true),(8, .az 1 0 (bU x.gs).length),(11, .az 2 0 (a6 (cF x.n (jy x))).length),(12, .int (jy x).length),(13, .int x.i)] [.box 25 (gz x.ds x.rs), .row 48 (bU x.gs), .row 4 (a6 (cF x.n (jy x)))]
def IP(x:Ja):Prop:=rZ x.n x.gs/\x.i<=x.gs.length
def Jf(x:Ja):Out (Exit×S):= .one (.exit 0,sp 186 [(1, .int x.a),(2, .int x.b),(3, .ptr 0 0 [] 0),(7, .bool true),(8, .az 1 0 (bU x.gs).length),(11, .az 2 0 (a6 (cF x.n x.gs.flatten)).length),(12, .int x.gs.flatten.length)] [.box 25 (gz x.ds x.rs), .row 48 (bU x.gs), .row 4 (a6 (cF x.n x.gs.flatten))])
theorem ZP(κ:Kp):bn (JM κ) 12 8 10 (aQ 0 On IP Jf):=by
 refine aR (fun x=>x.gs.length - x.i) ?_
 rintro⟨ds,rs,n,gs,a,b,i,k⟩ K ⟨hS,hi⟩ ho
 simp only at hS hi
 rw[show(JM κ).P=Pr κ from rfl]
 refine Eq.mpr (xOo κ ds rs (a6 (cF n (jy ⟨ds,rs,n,gs,a,b,i,k⟩))) gs a b (jy ⟨ds,rs,n,gs,a,b,i,k⟩).length i _ _ K) ?_
 have iN:=hS.iN
 rw[af,aa0,aa2,iK]
 refine⟨fun h=>?_,fun h=>?_⟩
 ·have hi':i<gs.length:=by omega
  refine⟨rfl,⟨ds,rs,n,gs,a,b,i,0⟩,?_,⟨hS,hi',Nat.zero_le _⟩,_,?_,⟨ds,rs,n,gs,a,b,i+1,k⟩,?_,⟨hS,hi'⟩,rfl,ho⟩
  ·simp only[fT,jy,List.take_zero,List.append_nil,iK]
   rfl
  ·simp only;omega
  ·simp only
   rw[a5 (n:=(i:Int)+1) (by omega) (by omega)]
   rfl
 ·have e:jy ⟨ds,rs,n,gs,a,b,i,k⟩=gs.flatten:=by
   simp only[jy]
   rw[List.take_of_length_le (by omega)]
  rw[e]
  simp only[Jf,Out.run,iK] at ho
  exact ho
noncomputable def S5(κ:Kp):Env:=(JM κ).aj 8 10 (aQ 0 On IP Jf)
theorem XT(κ:Kp):aC (S5 κ):=(Xh κ).aj (Ui κ) (ZP κ)
theorem Wx(κ:Kp):ai (S5 κ):=(Ui κ).aj aG
theorem yOn(κ:Kp)(ds rs:List AV)(a b:Int)(K:AV->List Dn.Obj->Prop):(bg (S5 κ) 12 8 [gz ds rs, .int a, .int b] [] K)=(
 letI z1:=true&&decide ((↑(ds.length):Int)<=(↑(ds.length):Int))&&decide ((Int.toNat (↑(ds.length):Int)+1)*2<=70368744177664)&&true
 letI z2:=Int.toNat (↑(ds.length):Int)
 letI z3:=Pg.toProgram (Env.P (JM κ))
 aO (decide (ds.length<=9223372036854775807)&&List.all ds fun(e0:AV)=>decide (List.length (ah (ad e0 1))<=9223372036854775807)) (ax ((bif fW ds rs then
 (1:Int) else(0:Int))==(0:Int)) (K (AV.bool true) []) (∃(e4:ga),([AV.agg [AV.ae 62 ds,AV.ae 41 rs]],aB)=([AV.agg [AV.ae 62 e4.1,AV.ae 41
 e4.2]],aB)/\(e4.1.length<=9223372036854775807/\e4.2.length<=9223372036854775807/\∀(e0:AV),List.Mem e0 e4.2->aM (aa (aH 52 (ba.hl (bM e0)) (ba.bl (bM
 e0))))<=100000/\List.length (ba.bl (bM e0))<=100000)/\ax (decide (Prod.snd (cr e4.1 e4.2)=(0:Int))) (aO z1 (ag z3 8 10=ag z3 8 10/\∃(e3:Ja),sp
 186 [(1,AV.int a),(2,AV.int b),(3,AV.ptr 0 0 [] 0),(7,AV.bool true),(8,AV.az 1 0 (List.length (bU (dA e4.1 e4.2)))),(11,AV.az 2 0 z2),(12,AV.int
 0),(13,AV.int 0)] [Obj.box 25 (AV.agg [AV.ae 62 ds,AV.ae 41 rs]),Obj.row 48 (bU (dA e4.1 e4.2)),Obj.row 4 (ee (AV.bool false) z2)]=sp 186 [(1,AV.int
 e3.a),(2,AV.int e3.b),(3,AV.ptr 0 0 [] 0),(7,AV.bool true),(8,AV.az 1 0 (List.length (bU e3.gs))),(11,AV.az 2 0 (List.length (a6 (cF e3.n (jy e3))))),
 (12,AV.int (↑(List.length (jy e3)):Int)),(13,AV.int (↑(e3.i):Int))] [Obj.box 25 (AV.agg [AV.ae 62 e3.ds,AV.ae 41 e3.rs]),Obj.row 48 (bU e3.gs),Obj.row
 4 (a6 (cF e3.n (jy e3)))]/\(rZ e3.n e3.gs/\e3.i<=e3.gs.length)/\∃(e2:AQ),([AV.agg [AV.ae 62 e3.ds,AV.ae 41 e3.rs],AV.int e3.a,AV.int e3.b],aB)=
 ([AV.agg [AV.ae 62 e2.ds,AV.ae 41 e2.rs],AV.int e2.a,AV.int e2.b],aB)/\(e2.ds.length<=9223372036854775807/\e2.rs.length<=9223372036854775807/\∀(e0:
 AV),List.Mem e0 e2.rs->aM (aa (aH 52 (ba.hl (bM e0)) (ba.bl (bM e0))))<=100000/\List.length (ba.bl (bM e0))<=100000)/\∃(e1:AQ),([AV.agg [AV.ae 62
 e3.ds,AV.ae 41 e3.rs],AV.int e3.a,AV.int e3.b],aB)=([AV.agg [AV.ae 62 e1.ds,AV.ae 41 e1.rs],AV.int e1.a,AV.int e1.b],aB)/\(e1.ds.length<=
 9223372036854775807/\e1.rs.length<=9223372036854775807/\∀(e0:AV),List.Mem e0 e1.rs->aM (aa (aH 52 (ba.hl (bM e0)) (ba.bl (bM e0))))<=100000/\
 List.length (ba.bl (bM e0))<=100000)/\ax (decide (e3.a<(0:Int))) (ax (qC e2.ds e2.rs e2.a e2.b==(2:Int)) (ax (qC e1.ds e1.rs e1.a e1.b==(2:Int))
 (K (AV.bool ((↑(List.length (List.flatten e3.gs)):Int)==(↑(List.length (a6 (cF e3.n (List.flatten e3.gs)))):Int))) []) (K (AV.bool false) [])) (K (AV.bool
 false) [])) (ax (decide (e3.b<(0:Int))) (ax (qC e2.ds e2.rs e2.a e2.b==(2:Int)) (ax (qC e1.ds e1.rs e1.a e1.b==(2:Int)) (K (AV.bool ((↑(List.length
 (List.flatten e3.gs)):Int)==(↑(List.length (a6 (cF e3.n (List.flatten e3.gs)))):Int))) []) (K (AV.bool false) [])) (K (AV.bool false) [])) (ax (decide
 (e3.a>=(↑(List.length (a6 (cF e3.n (List.flatten e3.gs)))):Int))) (ax (qC e2.ds e2.rs e2.a e2.b==(2:Int)) (ax (qC e1.ds e1.rs e1.a e1.b==(2:Int)) (K
 (AV.bool ((↑(List.length (List.flatten e3.gs)):Int)==(↑(List.length (a6 (cF e3.n (List.flatten e3.gs)))):Int))) []) (K (AV.bool false) [])) (K (AV.bool
 false) [])) (ax (decide (e3.b>=(↑(List.length (a6 (cF e3.n (List.flatten e3.gs)))):Int))) (ax (qC e2.ds e2.rs e2.a e2.b==(2:Int)) (ax (qC e1.ds e1.rs
 e1.a e1.b==(2:Int)) (K (AV.bool ((↑(List.length (List.flatten e3.gs)):Int)==(↑(List.length (a6 (cF e3.n (List.flatten e3.gs)))):Int))) []) (K (AV.bool
 false) [])) (K (AV.bool false) [])) (ax (qC e2.ds e2.rs e2.a e2.b==(0:Int)) (ax (qC e1.ds e1.rs e1.a e1.b==(0:Int)) (ax ((↑(List.length (List.flatten
 e3.gs)):Int)==(↑(List.length (a6 (cF e3.n (List.flatten e3.gs)))):Int)) (ax (!Ok e2.ds e2.rs e2.a e2.b) (aO (fY (List.take (List.length (bU e3.gs))
 (List.drop 0 (bU e3.gs)))) (aO (fY (List.take (List.length (bU e3.gs)) (List.drop 0 (bU e3.gs)))) (K (AV.bool (JV e1.ds e1.rs e1.a e1.b==(wS (List.take
 (List.length (bU e3.gs)) (List.drop 0 (bU e3.gs))) e3.a (0:Int)==wS (List.take (List.length (bU e3.gs)) (List.drop 0 (bU e3.gs))) e3.b (0:Int)))) [])))
 (aO (fY (List.take (List.length (bU e3.gs)) (List.drop 0 (bU e3.gs)))) (aO (fY (List.take (List.length (bU e3.gs)) (List.drop 0 (bU e3.gs)))) (ax (decide (wS
 (List.take (List.length (bU e3.gs)) (List.drop 0 (bU e3.gs))) e3.b (0:Int)<=wS (List.take (List.length (bU e3.gs)) (List.drop 0 (bU e3.gs))) e3.a (0:Int)))
 (aO (fY (List.take (List.length (bU e3.gs)) (List.drop 0 (bU e3.gs)))) (aO (fY (List.take (List.length (bU e3.gs)) (List.drop 0 (bU e3.gs)))) (K (AV.bool (JV
 e1.ds e1.rs e1.a e1.b==(wS (List.take (List.length (bU e3.gs)) (List.drop 0 (bU e3.gs))) e3.a (0:Int)==wS (List.take (List.length (bU e3.gs)) (List.drop 0
 (bU e3.gs))) e3.b (0:Int)))) []))) (K (AV.bool false) []))))) (K (AV.bool false) [])) (K (AV.bool false) [])) (K (AV.bool false) []))))))) (ax (Prod.snd (cr
 e4.1 e4.2) != (0:Int)) (K (AV.bool true) []) (aO z1 (ag z3 8 10=ag z3 8 10/\∃(e3:Ja),sp 186 [(1,AV.int a),(2,AV.int b),(3,AV.ptr 0 0 [] 0),(7,
 AV.bool true),(8,AV.nil),(11,AV.az 1 0 z2),(12,AV.int 0),(13,AV.int 0)] [Obj.box 25 (AV.agg [AV.ae 62 ds,AV.ae 41 rs]),Obj.row 4 (ee (AV.bool false)
 z2)]=sp 186 [(1,AV.int e3.a),(2,AV.int e3.b),(3,AV.ptr 0 0 [] 0),(7,AV.bool true),(8,AV.az 1 0 (List.length (bU e3.gs))),(11,AV.az 2 0 (List.length
 (a6 (cF e3.n (jy e3))))),(12,AV.int (↑(List.length (jy e3)):Int)),(13,AV.int (↑(e3.i):Int))] [Obj.box 25 (AV.agg [AV.ae 62 e3.ds,AV.ae 41 e3.rs]),
 Obj.row 48 (bU e3.gs),Obj.row 4 (a6 (cF e3.n (jy e3)))]/\(rZ e3.n e3.gs/\e3.i<=e3.gs.length)/\∃(e2:AQ),([AV.agg [AV.ae 62 e3.ds,AV.ae 41 e3.rs],
 AV.int e3.a,AV.int e3.b],aB)=([AV.agg [AV.ae 62 e2.ds,AV.ae 41 e2.rs],AV.int e2.a,AV.int e2.b],aB)/\(e2.ds.length<=9223372036854775807/\e2.rs.length
 <=9223372036854775807/\∀(e0:AV),List.Mem e0 e2.rs->aM (aa (aH 52 (ba.hl (bM e0)) (ba.bl (bM e0))))<=100000/\List.length (ba.bl (bM e0))<=100000)/\∃
 (e1:AQ),([AV.agg [AV.ae 62 e3.ds,AV.ae 41 e3.rs],AV.int e3.a,AV.int e3.b],aB)=([AV.agg [AV.ae 62 e1.ds,AV.ae 41 e1.rs],AV.int e1.a,AV.int e1.b],aB)
 /\(e1.ds.length<=9223372036854775807/\e1.rs.length<=9223372036854775807/\∀(e0:AV),List.Mem e0 e1.rs->aM (aa (aH 52 (ba.hl (bM e0)) (ba.bl (bM e0))))<=
 100000/\List.length (ba.bl (bM e0))<=100000)/\ax (decide (e3.a<(0:Int))) (ax (qC e2.ds e2.rs e2.a e2.b==(2:Int)) (ax (qC e1.ds e1.rs e1.a e1.b==(2
 :Int)) (K (AV.bool ((↑(List.length (List.flatten e3.gs)):Int)==(↑(List.length (a6 (cF e3.n (List.flatten e3.gs)))):Int))) []) (K (AV.bool false) [])) (K
 (AV.bool false) [])) (ax (decide (e3.b<(0:Int))) (ax (qC e2.ds e2.rs e2.a e2.b==(2:Int)) (ax (qC e1.ds e1.rs e1.a e1.b==(2:Int)) (K (AV.bool
 ((↑(List.length (List.flatten e3.gs)):Int)==(↑(List.length (a6 (cF e3.n (List.flatten e3.gs)))):Int))) []) (K (AV.bool false) [])) (K (AV.bool false) []))
 (ax (decide (e3.a>=(↑(List.length (a6 (cF e3.n (List.flatten e3.gs)))):Int))) (ax (qC e2.ds e2.rs e2.a e2.b==(2:Int)) (ax (qC e1.ds e1.rs e1.a e1.b==(2
 :Int)) (K (AV.bool ((↑(List.length (List.flatten e3.gs)):Int)==(↑(List.length (a6 (cF e3.n (List.flatten e3.gs)))):Int))) []) (K (AV.bool false) [])) (K
 (AV.bool false) [])) (ax (decide (e3.b>=(↑(List.length (a6 (cF e3.n (List.flatten e3.gs)))):Int))) (ax (qC e2.ds e2.rs e2.a e2.b==(2:Int)) (ax (qC e1.ds
 e1.rs e1.a e1.b==(2:Int)) (K (AV.bool ((↑(List.length (List.flatten e3.gs)):Int)==(↑(List.length (a6 (cF e3.n (List.flatten e3.gs)))):Int))) []) (K
 (AV.bool false) [])) (K (AV.bool false) [])) (ax (qC e2.ds e2.rs e2.a e2.b==(0:Int)) (ax (qC e1.ds e1.rs e1.a e1.b==(0:Int)) (ax ((↑(List.length
 (List.flatten e3.gs)):Int)==(↑(List.length (a6 (cF e3.n (List.flatten e3.gs)))):Int)) (ax (!Ok e2.ds e2.rs e2.a e2.b) (aO (fY (List.take (List.length (bU
 e3.gs)) (List.drop 0 (bU e3.gs)))) (aO (fY (List.take (List.length (bU e3.gs)) (List.drop 0 (bU e3.gs)))) (K (AV.bool (JV e1.ds e1.rs e1.a e1.b==(wS
 (List.take (List.length (bU e3.gs)) (List.drop 0 (bU e3.gs))) e3.a (0:Int)==wS (List.take (List.length (bU e3.gs)) (List.drop 0 (bU e3.gs))) e3.b (0:
 Int)))) []))) (aO (fY (List.take (List.length (bU e3.gs)) (List.drop 0 (bU e3.gs)))) (aO (fY (List.take (List.length (bU e3.gs)) (List.drop 0 (bU e3.gs)))) (ax
 (decide (wS (List.take (List.length (bU e3.gs)) (List.drop 0 (bU e3.gs))) e3.b (0:Int)<=wS (List.take (List.length (bU e3.gs)) (List.drop 0 (bU e3.gs))) e3.a
 (0:Int))) (aO (fY (List.take (List.length (bU e3.gs)) (List.drop 0 (bU e3.gs)))) (aO (fY (List.take (List.length (bU e3.gs)) (List.drop 0 (bU e3.gs)))) (K
 (AV.bool (JV e1.ds e1.rs e1.a e1.b==(wS (List.take (List.length (bU e3.gs)) (List.drop 0 (bU e3.gs))) e3.a (0:Int)==wS (List.take (List.length (bU e3.gs))
 (List.drop 0 (bU e3.gs))) e3.b (0:Int)))) []))) (K (AV.bool false) []))))) (K (AV.bool false) [])) (K (AV.bool false) [])) (K (AV.bool false) []))))))))))):=by kernel_rfl
theorem Jo(n:Nat):a6 (cF n [])=ee (.lit (.bool false)) n:=by
 rw[nh]
 congr 1
 refine List.ext_getElem (by simp[cF]) fun j h1 h2=>?_
 simp[cF]
theorem CM(n:Nat):(eQ n).Nodup:=wa (rU n)
theorem M9{ds rs:List AV}{a b:Int}(hc:(gg ds rs).2=0)(h:EG a b ds.length=false):qC ds rs a b=2:=by
 unfold qC yQ
 rw[aa6 hc,aa7,h];rfl
theorem PT(κ:Kp)(ds rs:List AV)(a b:Int)(h1:ds.length<=aP)(h2: ∀d,d∈ds->(ah (ad d 1)).length<=aP):dj (Pr κ) 8 [gz ds rs, .int a, .int b] [] (fun r _=>r= .bool true):=by
 refine gL (XT κ) (Wx κ) (N:=12) ?_
 refine Eq.mpr (yOn κ ds rs a b _) (vo h1 h2 rfl fun hs=>?_)
 have hp:=nf hs
 refine⟨(ds,rs),rfl,hp,?_⟩
 rw[af]
 refine⟨fun e=>?_,fun e=>?_⟩
 ·have hg:(cr ds rs).2=0:=of_decide_eq_true e
  have hc:=(oM.1 hg).1
  have f:=fA hc
  have hd:=f.hd
  have hL:=AK f
  have hS:rZ ds.length (dA ds rs):=⟨fun c hc=>(hL.jO c hc).1,hL.pg,hL.Q5,hd,by
   have h3:=sL ds.length (gE ds rs) (kg ds rs) (sn ds.length []+1) []
   have h4:=yt ds.length []
   exact Nat.le_trans h3.1 (by omega)⟩
  have hfl:(dA ds rs).flatten.length=ds.length:=Nat.le_antisymm hS.le (by
   have:=kI (CM ds.length) (fun x hx=>hL.all x (dK.1 hx).1 (dK.1 hx).2 (by simp))
   simpa[eQ] using this)
  have hfit:=Di (rs:=rs) hd
  refine au.2 ⟨by simp only[ab9,Bool.and_true,aa1,aa0,Int.toNat_natCast];omega,rfl,⟨ds,rs,ds.length,dA ds rs,a,b,0,0⟩,?_,⟨hS,Nat.zero_le _⟩,⟨ds,rs,a,b⟩,rfl,hp,⟨ds,rs,a,b⟩,rfl,hp,?_⟩
  ·have e0:jy ⟨ds,rs,ds.length,dA ds rs,a,b,0,0⟩=[]:=by simp[jy]
   rw[Int.toNat_natCast,←Jo,e0,mD]
   rfl
  ·simp only
   rw[mD,hfl,ab0,List.take_length,beq_self_eq_true,yq,yq,hfit]
   cases hr:EG a b ds.length with
   | false=>
    rw[M9 hc hr]
    simp only[af,aa0,aa2]
    have X:(((2:Int)==2)=true->(((2:Int)==2)=true->True)/\(((2:Int)==2)=false->AV.bool false=AV.bool true))/\(((2:Int)==2)=false->AV.bool false=AV.bool true):=
     ⟨fun _=>⟨fun _=>trivial,fun h=>absurd h (by decide)⟩,fun h=>absurd h (by decide)⟩
    refine⟨fun _=>X,fun p1=>⟨fun _=>X,fun p2=>⟨fun _=>X,fun p3=>⟨fun _=>X,fun p4=>?_⟩⟩⟩⟩
    exfalso
    have:EG a b ds.length=true:=by
     simp only[EG,aa1,aa0];omega
    rw[this] at hr;cases hr
   | true=>
    have hr2:=hr
    simp only[EG,aa1,aa0] at hr2
    have hz:qC ds rs a b=0:=Qm hc hr2.1 hr2.2
    have hz':yQ ds rs a b ds.length=0:=hz
    have hpl:=OV f.wg _ [] (Nat.le_refl _) zo a b 0 hr2.1 hr2.2 (by simp) (by simp)
    have hpl:(QA ds rs a b=true↔su (dA ds rs) a 0=su (dA ds rs) b 0)/\(Rc (kg ds rs) a b->su (dA ds rs) b 0<=su (dA ds rs) a 0):=hpl
    have hmu:JV ds rs a b=(su (dA ds rs) a 0==su (dA ds rs) b 0):=by
     unfold JV
     rw[aa6 hz',ab9,Bool.eq_iff_iff,hpl.1,beq_iff_eq]
    have hhg:Ok ds rs a b=true->su (dA ds rs) b 0<=su (dA ds rs) a 0:=fun h=>by
     unfold Ok Tj at h
     rw[aa1,List.contains_eq_mem,aa0] at h
     exact hpl.2 ⟨b,of_decide_eq_true h.2, .refl b⟩
    have leaf:AV.bool (JV ds rs a b==(su (dA ds rs) a 0==su (dA ds rs) b 0))=AV.bool true:=by rw[hmu,beq_self_eq_true]
    have cl:aO true (aO true (AV.bool (JV ds rs a b==(su (dA ds rs) a 0==su (dA ds rs) b 0))=AV.bool true)):=au.2 ⟨rfl,au.2 ⟨rfl,leaf⟩⟩
    rw[hz]
    simp only[af,aa0,aa2]
    refine⟨fun p=>absurd p (by omega),fun _=>⟨fun p=>absurd p (by omega),fun _=>⟨fun p=>absurd p (by omega),fun _=>⟨fun p=>absurd p (by omega),fun _=>⟨fun _=>⟨fun _=>⟨fun _=>⟨fun _=>cl,fun p=>au.2 ⟨rfl,au.2 ⟨rfl,fun _=>cl,fun q=>absurd (hhg (by simpa using p)) q⟩⟩⟩,fun p=>absurd p (by decide)⟩,fun p=>absurd p (by decide)⟩,fun p=>absurd p (by decide)⟩⟩⟩⟩⟩
 ·have hb:((cr ds rs).2 != 0)=true:=by simpa using e
  exact(af).2 ⟨fun _=>rfl,fun h=>absurd (hb.symm.trans h) (by decide)⟩
end Go.Proofs.YtdpmikfheebicaaGreatDoor
