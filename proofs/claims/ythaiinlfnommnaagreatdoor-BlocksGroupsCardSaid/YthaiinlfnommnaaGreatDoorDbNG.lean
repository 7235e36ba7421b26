import Derived.Test.YthaiinlfnommnaaGreatDoorDbME
namespace Go.Proofs.YthaiinlfnommnaaGreatDoor
open Go Go.Dn Go.Rl Go.Proofs
attribute [local irreducible] a9 vc
set_option maxRecDepth 20000
abbrev PL(bs gs:List AV)(i:Nat):S:=sp 54 [(3, .bool true),(4, .ar 0 0 bs.length),(6, .ar 1 0 gs.length),(9, .int i)] [.row 41 bs, .row 38 gs]
theorem xLg(κ:Kp)(bs gs:List AV)(i:Nat)(I:Nat->S->Prop)(n:Nat)(K:Exit->S->Prop):(vc (xy κ).E 12 4 none 0 (af (Pr κ).toProgram 4 9) (PL bs gs i) (bH (xy κ).E 4 9 0 I n K))=(
 letI z1:=ai (ae (nth bs (0+Int.toNat (↑i:Int))) 0)
 letI z2:=(↑i:Int)<(↑(bs.length):Int)
 aD (decide z2) (a7 (true&&decide z2) (a7 (true&&decide ((↑i:Int)<(↑(gs.length):Int))) (a7 (decide (List.length z1<=9223372036854775807)) (aD (!o9 z1
 (ai (nth gs (0+Int.toNat (↑i:Int))))) (K Exit.ret (sp 54 [(2,AV.bool false)] [])) (∃(e0:Nat),e0<n/\I e0 (sp 54 [(3,AV.bool true),(4,AV.ar 0 0
 bs.length),(6,AV.ar 1 0 gs.length),(9,AV.int (IntKind.wrap IntKind.i64 ((↑i:Int)+(1:Int))))] [Obj.row 41 bs,Obj.row 38 gs])))))) (K (Exit.exit 0) (sp
 54 [(3,AV.bool true)] []))):=by kernel_rfl
theorem xLn(κ:Kp)(I:Nat->S->Prop)(n:Nat)(K:Exit->S->Prop):(vc (xy κ).E 12 4 none 0 (af (Pr κ).toProgram 4 9) (sp 54 [(3, .bool true),(4, .nil),(6, .nil),(9, .int 0)] []) (bH (xy κ).E 4 9 0 I n K))=(
 K (Exit.exit 0) (sp 54 [(3,AV.bool true)] [])):=by kernel_rfl
structure Up where
 ds:List AV
 rs:List AV
 i:Nat
noncomputable abbrev Gd(x:Up):S:=PL (ir x.ds x.rs) (jy (jx x.ds x.rs)) x.i
def Dr(x:Up):Prop:=x.ds.length<=60/\x.i<=(jx x.ds x.rs).length
def OA(_:Up):Out (Exit×S):= .one (.exit 0,sp 54 [(3, .bool true)] [])
theorem sP(ds rs:List AV):(ir ds rs).length=(jx ds rs).length:=by simp[ir]
theorem M8(ds rs:List AV)(i:Nat)(h:i<(jx ds rs).length):nth (ir ds rs) i=DS ds rs (jx ds rs)[i]:=by
 rw[bg _ _ (by rw[sP];exact h)]
 simp[ir]
theorem Ny(l:List (List Int))(i:Nat)(h:i<l.length):nth (jy l) i= .ad 3 (iA l[i]):=by
 rw[bg _ _ (by rw[kR];exact h)]
 simp[jy]
theorem CS(l:List AV):o9 l l=true:=aa7 rfl
theorem YQ(κ:Kp):bh (xy κ).E 12 4 9 (aP 0 Gd Dr OA):=by
 refine aL (fun x=>(jx x.ds x.rs).length - x.i) ?_
 rintro⟨ds,rs,i⟩ K ⟨hd,hi⟩ ho
 simp only at hd hi
 rw[show(xy κ).E.P=Pr κ from rfl]
 refine Eq.mpr (xLg κ (ir ds rs) (jy (jx ds rs)) i _ _ K) ?_
 have hl:=Gb ds rs
 rw[ah,aa1,aa3,sP,kR,Nat.zero_add,Int.toNat_natCast]
 refine⟨fun h=>?_,fun h=>ho⟩
 have hk:i<(jx ds rs).length:=by omega
 rw[M8 _ _ _ hk,Ny _ _ hk]
 have hm:=Gm (List.getElem_mem hk)
 refine an.2 ⟨by simp;omega,an.2 ⟨by simp;omega,an.2 ⟨?_,ah.2 ⟨fun e=>?_,fun _=>⟨_,?_,⟨ds,rs,i+1⟩,?_,⟨hd,hk⟩,rfl,ho⟩⟩⟩⟩⟩
 ·rw[aa1]
  show(iA (jx ds rs)[i]).length<=_
  rw[fP];omega
 ·have:(!o9 (iA (jx ds rs)[i]) (iA (jx ds rs)[i]))=true:=e
  rw[CS] at this;cases this
 ·simp only;omega
 ·rw[aW (n:=(i:Int)+1) (by omega) (by omega)]
  simp only[Gd,PL,sP,kR]
  rfl
theorem lLn(κ:Kp):bh (xy κ).E 12 4 9 (aP 0 (fun _:Unit=>sp 54 [(3, .bool true),(4, .nil),(6, .nil),(9, .int 0)] []) (fun _=>True) (fun _=> .one (.exit 0,sp 54 [(3, .bool true)] []))):=by
 refine aL (fun _=>0) ?_
 rintro⟨⟩ K _ ho
 rw[show(xy κ).E.P=Pr κ from rfl]
 exact Eq.mpr (xLn κ _ _ K) ho
def Vj(s:S):Bool:=Nat.beq s.st.length 2
noncomputable def Vn(κ:Kp):EB:=⟨(xy κ).E.ak 4 9 (o6 Vj (aP 0 Gd Dr OA) (aP 0 (fun _:Unit=>sp 54 [(3, .bool true),(4, .nil),(6, .nil),(9, .int 0)] []) (fun _=>True) (fun _=> .one (.exit 0,sp 54 [(3, .bool true)] [])))),(xy κ).ok.ak (xy κ).mono (lS (YQ κ) (lLn κ)),(xy κ).mono.ak (jg aF aF)⟩
theorem yLg(κ:Kp)(ds rs:List AV)(K:AV->List Dn.Obj->Prop):(a9 (Vn κ).E 12 4 [gC ds rs] [] K)=(
 letI z1:=Pg.toProgram (Env.P (EB.E (xy κ)))
 a7 (decide (ds.length<=9223372036854775807)&&List.all ds fun(e0:AV)=>decide (List.length (ai (ae e0 1))<=9223372036854775807)) (aD ((bif qW ds rs then
 (1:Int) else(0:Int))==(0:Int)) (K (AV.bool true) []) (∃(e2:qB),([AV.agg [AV.ad 61 ds,AV.ad 66 rs]],[])=PH e2/\DN e2/\aD (decide (Prod.snd (qs
 e2.1 e2.2)=(0:Int))) (∃(e1:qB),([AV.agg [AV.ad 61 ds,AV.ad 66 rs]],[])=IF e1/\um e1/\aD (decide (Prod.snd (qs e1.1 e1.2)=(0:Int))) (aD
 ((↑(List.length (ir e2.1 e2.2)):Int) != (↑(List.length (jy (jx e1.1 e1.2))):Int)) (K (AV.bool false) []) (af z1 4 9=af z1 4 9/\∃(e0:Up),sp 54 [(3,
 AV.bool true),(4,AV.ar 0 0 (List.length (ir e2.1 e2.2))),(6,AV.ar 1 0 (List.length (jy (jx e1.1 e1.2)))),(9,AV.int 0)] [Obj.row 41 (ir e2.1 e2.2),Obj.row
 38 (jy (jx e1.1 e1.2))]=Gd e0/\Dr e0/\K (AV.bool true) [])) (aD ((0:Int) != Prod.snd (qs e1.1 e1.2)) (K (AV.bool false) []) (aD ((↑(List.length (ir e2.1
 e2.2)):Int) != (0:Int)) (K (AV.bool false) []) (af z1 4 9=af z1 4 9/\∃(e0:Unit),sp 54 [(3,AV.bool true),(4,AV.ar 0 0 (List.length (ir e2.1
 e2.2))),(6,AV.nil),(9,AV.int 0)] [Obj.row 41 (ir e2.1 e2.2)]=sp 54 [(3,AV.bool true),(4,AV.nil),(6,AV.nil),(9,AV.int 0)] []/\True/\K (AV.bool
 true) [])))) (∃(e1:qB),([AV.agg [AV.ad 61 ds,AV.ad 66 rs]],[])=IF e1/\um e1/\aD (decide (Prod.snd (qs e1.1 e1.2)=(0:Int))) (aD (Prod.snd (qs e2.1
 e2.2) != (0:Int)) (K (AV.bool false) []) (aD ((0:Int) != (↑(List.length (jy (jx e1.1 e1.2))):Int)) (K (AV.bool false) []) (af z1 4 9=af z1 4 9/\∃(e0:
 Unit),sp 54 [(3,AV.bool true),(4,AV.nil),(6,AV.ar 0 0 (List.length (jy (jx e1.1 e1.2)))),(9,AV.int 0)] [Obj.row 38 (jy (jx e1.1 e1.2))]=sp 54 [(3,
 AV.bool true),(4,AV.nil),(6,AV.nil),(9,AV.int 0)] []/\True/\K (AV.bool true) []))) (aD (Prod.snd (qs e2.1 e2.2) != Prod.snd (qs e1.1 e1.2)) (K (AV.bool
 false) []) (af z1 4 9=af z1 4 9/\∃(e0:Unit),sp 54 [(3,AV.bool true),(4,AV.nil),(6,AV.nil),(9,AV.int 0)] []=sp 54 [(3,AV.bool true),(4,
 AV.nil),(6,AV.nil),(9,AV.int 0)] []/\True/\K (AV.bool true) [])))))):=by kernel_rfl
theorem HG{ds rs:List AV}(h1:ds.length<=aR)(h2: ∀d,d∈ds->(ai (ae d 1)).length<=aR){p q:Prop}(hp:p)(hq:jK ds rs=true->rs.length<=8->q):
  a7 (decide (ds.length<=aR)&&ds.all fun d=>decide ((ai (ae d 1)).length<=aR)) (aD ((bif qW ds rs then(1:Int) else 0)==0) p q):=by
 refine an.2 ⟨?_,?_⟩
 ·rw[aa2,aa1,List.all_eq_true]
  exact⟨h1,fun d hd=>aa7 (h2 d hd)⟩
 ·cases hs:qW ds rs with
  |false=>exact hp
  |true=>
   simp only[qW,aa2,aa1] at hs
   exact hq hs.1 hs.2.1
theorem SU(κ:Kp)(ds rs:List AV)(h1:ds.length<=aR)(h2: ∀d,d∈ds->(ai (ae d 1)).length<=aR):dp (Pr κ) 4 [gC ds rs] [] (fun r _=>r= .bool true):=by
 refine il (Vn κ).ok (Vn κ).mono (N:=12) ?_
 refine Eq.mpr (yLg κ ds rs _) (HG h1 h2 rfl fun hs _=>?_)
 have hp:=sr hs
 refine⟨(ds,rs),rfl,hp,?_⟩
 rw[ah,aa1,aa3]
 refine⟨fun e=>⟨(ds,rs),rfl,hp,?_⟩,fun e=>⟨(ds,rs),rfl,hp,?_⟩⟩
 ·rw[ah,aa1,aa3]
  refine⟨fun _=>?_,fun e2=>absurd e e2⟩
  rw[ah]
  refine⟨fun e2=>?_,fun _=>⟨rfl,⟨ds,rs,0⟩,rfl,⟨(kr (Fl e)).hd,Nat.zero_le _⟩,rfl⟩⟩
  rw[sP,kR] at e2
  simp at e2
 ·rw[ah,aa1,aa3]
  refine⟨fun e2=>absurd e2 e,fun _=>?_⟩
  rw[ah]
  refine⟨fun e2=>?_,fun _=>⟨rfl,(),rfl,trivial,rfl⟩⟩
  simp at e2
end Go.Proofs.YthaiinlfnommnaaGreatDoor
