import Derived.Test.YthaiinlfnommnaaGreatDoorDbMD
import Derived.Test.YthaiinlfnommnaaGreatDoorDbM1
namespace Go.Proofs.YthaiinlfnommnaaGreatDoor
open Go Go.Dn Go.Rl Go.Proofs
attribute [local irreducible] a9 vc
set_option maxRecDepth 20000
def IB(ds:List AV)(r:AV):QD:=dM ds (eE r)
def Oo(ds rs:List AV)(r:AV):Bool:=FV fF ds.length (jE ds rs) (pr ds rs) ds r
def Aa(ds rs:List AV)(g:List Int)(l:List AV):List QD:=Ly (IB ds) (BK ds) (Oo ds rs) g l
def z9(ds rs:List AV)(g:List Int)(l:List AV):List QD:=MQ (IB ds) (BK ds) (Oo ds rs) g l
theorem FA(mk:AV->QD)(hd:AV->Int)(ag:AV->Bool)(g:List Int): ∀l m:List AV,Ly mk hd ag g (l++m)=Ly mk hd ag g l++Ly mk hd ag g m
 |[],_=>rfl
 |r::l,m=>by
  rw[List.cons_append,Ly,Ly,FA mk hd ag g l m]
  cases(g.contains (hd r)&& !ag r)<;>rfl
theorem Fb(mk:AV->QD)(hd:AV->Int)(ag:AV->Bool)(g:List Int): ∀l m:List AV,MQ mk hd ag g (l++m)=MQ mk hd ag g l++MQ mk hd ag g m
 |[],_=>rfl
 |r::l,m=>by
  rw[List.cons_append,MQ,MQ,Fb mk hd ag g l m,List.append_assoc]
theorem FC(mk:AV->QD)(hd:AV->Int)(ag:AV->Bool)(g:List Int): ∀l:List AV,(Ly mk hd ag g l).length<=l.length
 |[]=>Nat.le_refl _
 |r::l=>by
  have:=FC mk hd ag g l
  rw[Ly]
  cases(g.contains (hd r)&& !ag r)
  ·rw[aa6];simp only[List.length_cons];omega
  ·rw[aa8];simp only[List.length_cons];omega
theorem Ew(mk:AV->QD)(hd:AV->Int)(ag:AV->Bool)(g:List Int)(n:Nat): ∀l:List AV,(∀r,r∈l->(mk r).steps.length<=n)->(MQ mk hd ag g l).length<=l.length*n
 |[],_=>Nat.zero_le _
 |r::l,h=>by
  have h1:=Ew mk hd ag g n l fun r hr=>h r (List.mem_cons_of_mem _ hr)
  have h2:=h r List.mem_cons_self
  have h3:=yj (mk r) g (mk r).steps 0
  rw[MQ,ab9,List.length_cons,Nat.succ_mul]
  cases(g.contains (hd r)&&ag r)
  ·rw[aa6];simp only[List.length_nil];omega
  ·rw[aa8];omega
theorem Ac{l:List AV}{i:Nat}(h:i<l.length):l.take (i+1)=l.take i++[nth l i]:=by
 rw[List.take_add_one,ab7 h,bg _ _ h];rfl
theorem Nb(ds rs:List AV)(g:List Int){l:List AV}{i:Nat}(h:i<l.length):Aa ds rs g (l.take (i+1))=Aa ds rs g (l.take i)++bif g.contains (BK ds (nth l i))&& !Oo ds rs (nth l i) then[IB ds (nth l i)] else[]:=by
 rw[Aa,Ac h,FA];rfl
theorem M1(ds rs:List AV)(g:List Int){l:List AV}{i:Nat}(h:i<l.length):z9 ds rs g (l.take (i+1))=z9 ds rs g (l.take i)++bif g.contains (BK ds (nth l i))&&Oo ds rs (nth l i) then Ap (IB ds (nth l i)) g (IB ds (nth l i)).steps 0 else[]:=by
 rw[z9,Ac h,Fb]
 exact congrArg _ (List.append_nil _)
structure T7 where
 ds:List AV
 rs:List AV
 g:List Int
 i:Nat
noncomputable abbrev PU(x:T7):S:=MB x.ds x.rs (iA x.g) ((Aa x.ds x.rs x.g (x.rs.take x.i)).map qA) ((z9 x.ds x.rs x.g (x.rs.take x.i)).map qA) x.i
def DH(x:T7):Prop:=(fX x.ds x.rs/\(fG x.ds x.rs).2=0/\x.g.length<=60)/\x.i<=x.rs.length
noncomputable def NZ(x:T7):Out (Exit×S):= .one (.exit 0,sp 65 [(4, .ptr 0 0 [] 0),(5, .ptr 1 0 [] 0)] [.box 41 (.agg [.nil, .nil, .nil]), .box 41 (.agg [.ad 3 (iA x.g), .ar 2 0 ((Aa x.ds x.rs x.g x.rs).map qA).length, .ar 3 0 ((z9 x.ds x.rs x.g x.rs).map qA).length]), .row 45 ((Aa x.ds x.rs x.g x.rs).map qA), .row 45 ((z9 x.ds x.rs x.g x.rs).map qA)])
theorem WK{p:Prop}(h:p):(p/\p)/\p:=⟨⟨h,h⟩,h⟩
theorem JU{ds rs:List AV}(hs:fX ds rs)(hc:(fG ds rs).2=0){r:AV}(hr:r∈rs):(IB ds r).steps.length<=100000:=by
 have h:=F0 hs hc hr
 have h1:=oH h.f
 have h2:=h.s.2
 show(jj ds (eE r) (cd (aG (eE r))).length).length<=100000
 rw[tD,h1];exact h2
theorem Rx{ds rs:List AV}(hc:(fG ds rs).2=0){i:Nat}(h:i<rs.length):QO ds rs i=Oo ds rs (nth rs i):=by
 unfold QO
 rw[IL hc ⟨by omega,by omega⟩ ⟨by omega,by omega⟩]
 rfl
theorem lBk(κ:Kp):bh (O0 κ).E 12 28 3 (aP 0 PU DH NZ):=by
 refine aL (fun x=>x.rs.length - x.i) ?_
 rintro⟨ds,rs,g,i⟩ K ⟨⟨hs,hc,hg⟩,hi⟩ ho
 simp only at hs hc hg hi
 rw[show(O0 κ).E.P=Pr κ from rfl]
 refine Eq.mpr (xBk κ ds rs g ((Aa ds rs g (rs.take i)).map qA) ((z9 ds rs g (rs.take i)).map qA) i _ _ K) ?_
 have hr:=(kr hc).hr
 rw[ah,aa1,aa3]
 refine⟨fun h=>?_,fun h=>?_⟩
 ·have hk:i<rs.length:=by omega
  have hx:nth rs i∈rs:=by rw[bg _ _ hk];exact List.getElem_mem _
  have hot:=Nb ds rs g hk
  have hlt:=M1 ds rs g hk
  have hol:=FC (IB ds) (BK ds) (Oo ds rs) g (rs.take i)
  have hll:=Ew (IB ds) (BK ds) (Oo ds rs) g 100000 (rs.take i) fun r h=>JU hs hc (List.mem_of_mem_take h)
  rw[List.length_take] at hol hll
  have hck:wq ds rs i i rs.length=0:=IL hc ⟨by omega,by omega⟩ ⟨by omega,by omega⟩
  have next: ∀os ls,os=(Aa ds rs g (rs.take (i+1))).map qA->ls=(z9 ds rs g (rs.take (i+1))).map qA->∃m,m<rs.length - i/\fe PU DH NZ (fun x=>x.rs.length - x.i) K m (MB ds rs (iA g) os ls (IntKind.wrap IntKind.i64 ((i:Int)+1))):=by
   rintro _ _ rfl rfl
   rw[aW (n:=(i:Int)+1) (by omega) (by omega)]
   exact⟨_,by simp only;omega,⟨ds,rs,g,i+1⟩,rfl,⟨⟨hs,hc,hg⟩,hk⟩,rfl,ho⟩
  refine an.2 ⟨by simp;omega,(ds,toStr (ae (ae (nth rs i) 0) 0)),rfl,hs.1,an.2 ⟨by rw[aa1,fP];omega,?_⟩⟩
  rw[CQ,ah]
  refine⟨fun e=>?_,fun e=>⟨⟨ds,rs,i⟩,rfl,⟨hs,hck⟩,⟨ds,rs,i⟩,rfl,hs,?_⟩⟩
  ·have e:g.contains (BK ds (nth rs i))=false:=by rw[←Bool.not_eq_true'];exact e
   rw[e,Bool.false_and,aa6,List.append_nil] at hot hlt
   refine next _ _ (by rw[hot]) (by rw[hlt])
  ·have e:g.contains (BK ds (nth rs i))=true:=by rw[←ab3];exact e
   rw[show QO ds rs ((i:Nat):Int)=Oo ds rs (nth rs i) from Rx hc hk,ah]
   rw[e,ac0] at hot hlt
   refine⟨fun e2=>WK ⟨⟨ds,rs,g,(Aa ds rs g (rs.take i)).map qA,(z9 ds rs g (rs.take i)).map qA,eE (nth rs i),IB ds (nth rs i)⟩,rfl,⟨JU hs hc hx,hg,?_⟩,?_⟩,fun e2=>?_⟩
   ·simp only[List.length_map]
    have:(z9 ds rs g (rs.take i)).length<=min i rs.length*100000:=hll
    omega
   ·rw[e2,Bool.not_true,aa6,List.append_nil] at hot
    rw[e2,aa8] at hlt
    rw[ah]
    refine⟨fun e3=>next _ _ (by rw[hot]) ?_,fun e3=>next _ _ (by rw[hot]) ?_⟩
    ·have e4:Ap (IB ds (nth rs i)) g (IB ds (nth rs i)).steps 0=[]:=List.isEmpty_iff.1 e3
     rw[hlt,e4,List.append_nil]
    ·rw[hlt,List.map_append];rfl
   ·rw[e2,Bool.not_false,aa8] at hot
    rw[e2,aa6,List.append_nil] at hlt
    refine an.2 ⟨?_,?_⟩
    ·rw[aa1,List.length_map]
     have:(Aa ds rs g (rs.take i)).length<=min i rs.length:=hol
     omega
    ·have n1:=next _ _ rfl rfl
     rw[hot,hlt,List.map_append] at n1
     unfold MB at n1
     rw[ab9] at n1
     rw[List.take_length]
     exact n1
 ·obtain rfl:i=rs.length:=by omega
  have ho:K (.exit 0) _:=ho
  simp only[List.take_length]
  exact ho
noncomputable def Vo(κ:Kp):EB:=(O0 κ).loop (lBk κ)
theorem YZ(κ:Kp)(ds rs:List AV)(g:List Int)(K:AV->List Dn.Obj->Prop):(a9 (Vo κ).E 12 28 [gC ds rs, .ad 3 (iA g)] [] K)=(
 letI z1:=Pg.toProgram (Env.P (EB.E (O0 κ)))
 af z1 28 3=af z1 28 3/\∃(e0:T7),sp 65 [(1,AV.ad 3 (iA g)),(2,AV.ptr 0 0 [] 0),(4,AV.ptr 1 0 [] 0),(5,AV.ptr 2 0 [] 0),(17,AV.ad 66 rs),(18,
 AV.int (↑(rs.length):Int)),(19,AV.int 0)] [Obj.box 25 (AV.agg [AV.ad 61 ds,AV.ad 66 rs]),Obj.box 41 (AV.agg [AV.nil,AV.nil,AV.nil]),Obj.box 41 (AV.agg
 [AV.ad 3 (iA g),AV.ar 3 0 0,AV.ar 4 0 0]),Obj.row 45 [],Obj.row 45 []]=PU e0/\DH e0/\K (AV.agg [AV.ad 3 (iA e0.g),AV.ad 45 (List.take (List.length
 (List.map qA (Aa e0.ds e0.rs e0.g e0.rs))) (List.drop 0 (List.map qA (Aa e0.ds e0.rs e0.g e0.rs)))),AV.ad 45 (List.take (List.length (List.map qA (z9 e0.ds
 e0.rs e0.g e0.rs))) (List.drop 0 (List.map qA (z9 e0.ds e0.rs e0.g e0.rs))))]) []):=by kernel_rfl
noncomputable def DS(ds rs:List AV)(g:List Int):AV:= .agg [.ad 3 (iA g), .ad 45 ((Aa ds rs g rs).map qA), .ad 45 ((z9 ds rs g rs).map qA)]
structure Ud where
 ds:List AV
 rs:List AV
 g:List Int
def To(x:Ud):List AV×List Dn.Obj:=([gC x.ds x.rs, .ad 3 (iA x.g)],[])
def Ku(x:Ud):Prop:=fX x.ds x.rs/\(fG x.ds x.rs).2=0/\x.g.length<=60
noncomputable def SB(x:Ud):Out (AV×List Dn.Obj):= .one (.agg [.ad 3 (iA x.g), .ad 45 ((Aa x.ds x.rs x.g x.rs).map qA), .ad 45 ((z9 x.ds x.rs x.g x.rs).map qA)],[])
theorem cBb(κ:Kp):bq (Vo κ).E 12 28 (aM To Ku SB):=by
 refine aZ ?_
 rintro⟨ds,rs,g⟩ K hs ho
 refine Eq.mpr (YZ κ ds rs g K) ?_
 refine⟨rfl,⟨ds,rs,g,0⟩,rfl,⟨hs,Nat.zero_le _⟩,?_⟩
 simp only[ab1,List.take_length]
 exact ho
noncomputable def NO(κ:Kp):EB:=((Vo κ).call (cBb κ)).calm [28]
abbrev Pz(ds rs os gs:List AV)(i:Int):S:=sp 33 [(1, .ptr 0 0 [] 0),(7, .ar 1 0 os.length),(19, .ar 2 0 gs.length),(20, .int gs.length),(21, .int i)] [.box 25 (gC ds rs), .row 41 os, .row 38 gs]
theorem xZo(κ:Kp)(ds rs os gs:List AV)(i:Int)(I:Nat->S->Prop)(n:Nat)(K:Exit->S->Prop):(vc (NO κ).E 12 12 none 0 (af (Pr κ).toProgram 12 6) (Pz ds rs os gs i) (bH (NO κ).E 12 6 0 I n K))=(
 aD (decide (i<(↑(gs.length):Int))) (a7 (decide ((0:Int)<=i)&&decide (i<(↑(gs.length):Int))) (∃(a:Ud),([AV.agg [AV.ad 61 ds,AV.ad 66 rs],
 AV.ad 3 (ai (nth gs (0+i.toNat)))],[])=To a/\Ku a/\a7 (decide ((os.length+1+1)*73<=70368744177664)) (∃(m:Nat),m<n/\I m (sp 33
 [(1,AV.ptr 0 0 [] 0),(7,AV.ar 1 0 (os.length+1)),(19,AV.ar 2 0 gs.length),(20,AV.int (↑(gs.length):Int)),(21,AV.int (IntKind.wrap IntKind.i64 (i
 +(1:Int))))] [Obj.box 25 (AV.agg [AV.ad 61 ds,AV.ad 66 rs]),Obj.row 41 (List.take os.length os++[AV.agg [AV.ad 3 (iA a.g),AV.ad 45 (List.map qA
 (Aa a.ds a.rs a.g a.rs)),AV.ad 45 (List.map qA (z9 a.ds a.rs a.g a.rs))]]),Obj.row 38 gs])))) (K (Exit.exit 0) (sp 33 [(7,AV.ar 0 0 os.length)] [Obj.row
 41 os]))):=by kernel_rfl
theorem AS{n m:Nat}{L:Gr}: ∀(f:Nat) (done:List Int),(ug n m L f done).length<=f
 |0,_=>Nat.le_refl _
 | f+1,done=>by
  rw[ug]
  cases decide (fS n m L done<0) with
  |true=>exact Nat.zero_le _
  |false=>
   have:=AS (n:=n) (m:=m) (L:=L) f (tC done (gM n m L (fS n m L done)))
   rw[aa6,List.length_cons];omega
theorem As{n m:Nat}{L:Gr}{g:List Int}: ∀(f:Nat) (done:List Int),g∈ug n m L f done->g.length<=n
 |0,_,h=>by cases h
 | f+1,done,h=>by
  rw[ug] at h
  cases e:decide (fS n m L done<0) with
  |true=>rw[e] at h;cases h
  |false=>
   rw[e,aa6] at h
   rcases List.mem_cons.1 h with rfl|h
   ·exact xJ _ _ _ _
   ·exact As f _ h
theorem Gb(ds rs:List AV):(jx ds rs).length<=ds.length+1:=by
 have h1:=AS (n:=ds.length) (m:=jE ds rs) (L:=pr ds rs) (yz ds.length []+1) []
 have h2:=Cx ds.length []
 exact Nat.le_trans h1 (by omega)
theorem Gm{ds rs:List AV}{g:List Int}(h:g∈jx ds rs):g.length<=ds.length:=As _ _ h
theorem Fl{ds rs:List AV}(h:(qs ds rs).2=0):(fG ds rs).2=0:=by
 unfold qs at h
 by_cases e:(fG ds rs).2=0
 ·exact e
 ·rw[aa5 e] at h;exact h
structure Sz where
 ds:List AV
 rs:List AV
 i:Nat
noncomputable abbrev Mr(x:Sz):S:=Pz x.ds x.rs (((jx x.ds x.rs).take x.i).map (DS x.ds x.rs)) (jy (jx x.ds x.rs)) x.i
def Dy(x:Sz):Prop:=(fX x.ds x.rs/\(fG x.ds x.rs).2=0)/\x.i<=(jx x.ds x.rs).length
noncomputable def Sp(x:Sz):Out (Exit×S):= .one (.exit 0,sp 33 [(7, .ar 0 0 ((jx x.ds x.rs).map (DS x.ds x.rs)).length)] [.row 41 ((jx x.ds x.rs).map (DS x.ds x.rs))])
theorem lZo(κ:Kp):bh (NO κ).E 12 12 6 (aP 0 Mr Dy Sp):=by
 refine aL (fun x=>(jx x.ds x.rs).length - x.i) ?_
 rintro⟨ds,rs,i⟩ K ⟨⟨hs,hc⟩,hi⟩ ho
 simp only at hs hc hi
 rw[show(NO κ).E.P=Pr κ from rfl]
 refine Eq.mpr (xZo κ ds rs (((jx ds rs).take i).map (DS ds rs)) (jy (jx ds rs)) i _ _ K) ?_
 have hd:=(kr hc).hd
 have hl:=Gb ds rs
 rw[kR,ah,aa1,aa3]
 refine⟨fun h=>?_,fun h=>?_⟩
 ·have hk:i<(jx ds rs).length:=by omega
  have hx:(jx ds rs)[i]∈jx ds rs:=List.getElem_mem _
  have hn:nth (jy (jx ds rs)) (0+((i:Nat):Int).toNat)= .ad 3 (iA (jx ds rs)[i]):=by
   rw[Int.toNat_natCast,Nat.zero_add,bg _ _ (by rw[kR];exact hk)]
   simp[jy]
  rw[hn]
  refine an.2 ⟨by simp;omega,⟨ds,rs,(jx ds rs)[i]⟩,rfl,⟨hs,hc,Nat.le_trans (Gm hx) hd⟩,an.2 ⟨?_,?_⟩⟩
  ·rw[aa1,List.length_map,List.length_take];omega
  ·have e:((jx ds rs).take (i+1)).map (DS ds rs)=((jx ds rs).take i).map (DS ds rs)++[DS ds rs (jx ds rs)[i]]:=by
    rw[List.take_add_one,ab7 hk,List.map_append];rfl
   refine⟨_,?_,⟨ds,rs,i+1⟩,?_,⟨⟨hs,hc⟩,hk⟩,rfl,ho⟩
   ·simp only;omega
   ·rw[aW (n:=(i:Int)+1) (by omega) (by omega),List.take_length]
    simp only[Mr]
    unfold Pz
    rw[e,ab9,kR]
    rfl
 ·obtain rfl:i=(jx ds rs).length:=by omega
  have ho:K (.exit 0) _:=ho
  simp only[List.take_length]
  exact ho
noncomputable def Vd(κ:Kp):EB:=(NO κ).loop (lZo κ)
theorem yZo(κ:Kp)(ds rs:List AV)(K:AV->List Dn.Obj->Prop):(a9 (Vd κ).E 12 12 [gC ds rs] [] K)=(
 letI z1:=Pg.toProgram (Env.P (EB.E (NO κ)))
 letI z2:=AV.agg [AV.ad 61 ds,AV.ad 66 rs]
 ∃(e1:qB),([AV.agg [AV.ad 61 ds,AV.ad 66 rs]],[])=IF e1/\um e1/\aD (decide (Prod.snd (qs e1.1 e1.2)=(0:Int))) (af z1 12 6=af z1 12 6/\∃(e0:
 Sz),sp 33 [(1,AV.ptr 0 0 [] 0),(7,AV.ar 1 0 0),(19,AV.ar 2 0 (List.length (jy (jx e1.1 e1.2)))),(20,AV.int (↑(List.length (jy (jx e1.1 e1.2))):Int)),
 (21,AV.int 0)] [Obj.box 25 z2,Obj.row 41 [],Obj.row 38 (jy (jx e1.1 e1.2))]=Mr e0/\Dy e0/\K (AV.ba [AV.ar 0 0 (List.length (List.map (DS e0.ds e0.rs) (jx
 e0.ds e0.rs))),AV.int 0]) [Obj.row 41 (List.map (DS e0.ds e0.rs) (jx e0.ds e0.rs))]) (aD (Prod.snd (qs e1.1 e1.2) != (0:Int)) (K (AV.ba [AV.nil,AV.int
 (Prod.snd (qs e1.1 e1.2))]) []) (af z1 12 6=af z1 12 6/\∃(e0:Sz),sp 33 [(1,AV.ptr 0 0 [] 0),(7,AV.ar 1 0 0),(19,AV.nil),(20,AV.int 0),(21,AV.int
 0)] [Obj.box 25 z2,Obj.row 41 []]=Mr e0/\Dy e0/\K (AV.ba [AV.ar 0 0 (List.length (List.map (DS e0.ds e0.rs) (jx e0.ds e0.rs))),AV.int 0]) [Obj.row 41
 (List.map (DS e0.ds e0.rs) (jx e0.ds e0.rs))]))):=by kernel_rfl
noncomputable def ir(ds rs:List AV):List AV:=(jx ds rs).map (DS ds rs)
def PH(x:qB):List AV×List Dn.Obj:=([gC x.1 x.2],[])
def DN(x:qB):Prop:=fX x.1 x.2
noncomputable def OP(x:qB):Out (AV×List Dn.Obj):= .aD (decide ((qs x.1 x.2).2=0))
 (.one (.ba [.ar 0 0 (ir x.1 x.2).length, .int 0],[.row 41 (ir x.1 x.2)]))
 (.one (.ba [.nil, .int (qs x.1 x.2).2],[]))
theorem cZo(κ:Kp):bq (Vd κ).E 12 12 (aM PH DN OP):=by
 refine aZ ?_
 rintro⟨ds,rs⟩ K hs ho
 refine Eq.mpr (yZo κ ds rs K) ?_
 have hs:fX ds rs:=hs
 simp only[OP,Out.run,ah,aa1,aa3] at ho
 refine⟨(ds,rs),rfl,hs,?_⟩
 rw[ah,aa1,aa3]
 refine⟨fun e=>⟨rfl,⟨ds,rs,0⟩,rfl,⟨⟨hs,Fl e⟩,Nat.zero_le _⟩,ho.1 e⟩,fun e=>?_⟩
 rw[ah]
 exact⟨fun _=>ho.2 e,fun e2=>absurd (by simpa using e2) e⟩
noncomputable def UB(κ:Kp):EB:=(Vd κ).call (cZo κ)
theorem Wg(κ:Kp)(K:AV->List Dn.Obj->Prop):(a9 (UB κ).E 12 25 [] [] K)=(
 K (AV.agg [AV.ad 61 [AV.agg [AV.str {data:= #[OfNat.ofNat 101]},AV.ad 9 [AV.str {data:= #[OfNat.ofNat 97]},AV.str {data:= #[OfNat.ofNat 98]}],AV.ad 3 [AV.int 1,AV.int 1],AV.bool false,AV.bool false,AV.int 0],AV.agg [AV.str {data:= #[OfNat.ofNat 112]},AV.ad 9 [AV.str {data:= #[OfNat.ofNat 97]},AV.str {data:= #[OfNat.ofNat 98]}],AV.ad 3 [AV.int 1,AV.int 1],AV.bool false,AV.bool false,AV.int 0]],AV.ad 66 [AV.agg [AV.agg [AV.str {data:= #[OfNat.ofNat 112]},AV.ad 56 [AV.agg [AV.int 1,AV.str {data:= #[OfNat.ofNat 120]},AV.int 0,AV.ad 56 []],AV.agg [AV.int 1,AV.str {data:= #[OfNat.ofNat 121]},AV.int 0,AV.ad 56 []]]],AV.ad 72 [AV.agg [AV.int 1,AV.agg [AV.str {data:= #[OfNat.ofNat 101]},AV.ad 56 [AV.agg [AV.int 1,AV.str {data:= #[OfNat.ofNat 120]},AV.int 0,AV.ad 56 []],AV.agg [AV.int 1,AV.str {data:= #[OfNat.ofNat 121]},AV.int 0,AV.ad 56 []]]],AV.agg [AV.int 0,AV.str {data:= #[]},AV.int 0,AV.nil],AV.agg [AV.int 0,AV.str {data:= #[]},AV.int 0,AV.nil]]],AV.int 0],AV.agg [AV.agg [AV.str {data:= #[OfNat.ofNat 112]},AV.ad 56 [AV.agg [AV.int 1,AV.str {data:= #[OfNat.ofNat 120]},AV.int 0,AV.ad 56 []],AV.agg [AV.int 1,AV.str {data:= #[OfNat.ofNat 122]},AV.int 0,AV.ad 56 []]]],AV.ad 72 [AV.agg [AV.int 1,AV.agg [AV.str {data:= #[OfNat.ofNat 112]},AV.ad 56 [AV.agg [AV.int 1,AV.str {data:= #[OfNat.ofNat 120]},AV.int 0,AV.ad 56 []],AV.agg [AV.int 1,AV.str {data:= #[OfNat.ofNat 121]},AV.int 0,AV.ad 56 []]]],AV.agg [AV.int 0,AV.str {data:= #[]},AV.int 0,AV.nil],AV.agg [AV.int 0,AV.str {data:= #[]},AV.int 0,AV.nil]],AV.agg [AV.int 1,AV.agg [AV.str {data:= #[OfNat.ofNat 112]},AV.ad 56 [AV.agg [AV.int 1,AV.str {data:= #[OfNat.ofNat 121]},AV.int 0,AV.ad 56 []],AV.agg [AV.int 1,AV.str {data:= #[OfNat.ofNat 122]},AV.int 0,AV.ad 56 []]]],AV.agg [AV.int 0,AV.str {data:= #[]},AV.int 0,AV.nil],AV.agg [AV.int 0,AV.str {data:= #[]},AV.int 0,AV.nil]]],AV.int 0]]]) []):=by kernel_rfl
def bE:ByteArray:=⟨#[101]⟩
def bA:ByteArray:=⟨#[97]⟩
def bB:ByteArray:=⟨#[98]⟩
def bP:ByteArray:=⟨#[112]⟩
def bX:ByteArray:=⟨#[120]⟩
def bY:ByteArray:=⟨#[121]⟩
def bZ:ByteArray:=⟨#[122]⟩
abbrev Pn(s:ByteArray):AV:= .agg [.int 1, .lit (.string s), .int 0, .ad 56 []]
abbrev Wj:AV:= .agg [.int 0, .lit (.string s0), .int 0, .nil]
def OM(s:ByteArray):AV:= .agg [.lit (.string s), .ad 9 [.lit (.string bA), .lit (.string bB)], .ad 3 [.int 1, .int 1], .bool false, .bool false, .int 0]
abbrev U9(r s t:ByteArray):AV:= .agg [.int 1, .agg [.lit (.string r), .ad 56 [Pn s,Pn t]],Wj,Wj]
def rp:List AV:=[OM bE,OM bP]
def S5:cg:=⟨[],[],bP,[Pn bX,Pn bY],[U9 bE bX bY],0,0⟩
def Q0:cg:=⟨[],[],bP,[Pn bX,Pn bZ],[U9 bP bX bY,U9 bP bY bZ],0,0⟩
def sf:List AV:=[aq S5,aq Q0]
def R8:List AV->Option (Bool×AV)
 |[]=>some (true, .agg [.ad 61 rp, .ad 66 sf])
 |_=>none
theorem UN(κ:Kp):pY (UB κ).E 12 25 R8:=by
 intro args x hh
 unfold R8 at hh
 split at hh
 ·simp only[aa4,ab0,true_and] at hh
  subst hh
  exact⟨rfl,Eq.mpr (Wg κ _) rfl⟩
 ·cases hh
noncomputable def Wi(κ:Kp):EB:=(UB κ).fresh (UN κ)
theorem WH(κ:Kp)(K:AV->List Dn.Obj->Prop):(a9 (Wi κ).E 12 10 [] [] K)=(
 letI z1:=K (AV.bool false) []
 ∃(e0:qB),([AV.agg [AV.ad 61 [AV.agg [AV.str bE,AV.ad 9 [AV.str bA,AV.str bB],AV.ad 3 [AV.int 1,AV.int 1],AV.bool false,AV.bool false,AV.int 0],
 AV.agg [AV.str bP,AV.ad 9 [AV.str bA,AV.str bB],AV.ad 3 [AV.int 1,AV.int 1],AV.bool false,AV.bool false,AV.int 0]],AV.ad 66 [AV.agg [AV.agg [AV.str
 S5.rel,AV.ad 56 [AV.agg [AV.int 1,AV.str bX,AV.int 0,AV.ad 56 []],AV.agg [AV.int 1,AV.str bY,AV.int 0,AV.ad 56 []]]],AV.ad 72 [AV.agg [AV.int 1,AV.agg
 [AV.str bE,AV.ad 56 [AV.agg [AV.int 1,AV.str bX,AV.int 0,AV.ad 56 []],AV.agg [AV.int 1,AV.str bY,AV.int 0,AV.ad 56 []]]],AV.agg [AV.int 0,AV.str s0,
 AV.int 0,AV.nil],AV.agg [AV.int 0,AV.str s0,AV.int 0,AV.nil]]],AV.int 0],AV.agg [AV.agg [AV.str Q0.rel,AV.ad 56 [AV.agg [AV.int 1,AV.str bX,AV.int 0,
 AV.ad 56 []],AV.agg [AV.int 1,AV.str bZ,AV.int 0,AV.ad 56 []]]],AV.ad 72 [AV.agg [AV.int 1,AV.agg [AV.str bP,AV.ad 56 [AV.agg [AV.int 1,AV.str bX,
 AV.int 0,AV.ad 56 []],AV.agg [AV.int 1,AV.str bY,AV.int 0,AV.ad 56 []]]],AV.agg [AV.int 0,AV.str s0,AV.int 0,AV.nil],AV.agg [AV.int 0,AV.str s0,
 AV.int 0,AV.nil]],AV.agg [AV.int 1,AV.agg [AV.str bP,AV.ad 56 [AV.agg [AV.int 1,AV.str bY,AV.int 0,AV.ad 56 []],AV.agg [AV.int 1,AV.str bZ,AV.int 0,
 AV.ad 56 []]]],AV.agg [AV.int 0,AV.str s0,AV.int 0,AV.nil],AV.agg [AV.int 0,AV.str s0,AV.int 0,AV.nil]]],AV.int 0]]]],[])=PH e0/\DN e0/\aD (decide
 (Prod.snd (qs e0.1 e0.2)=(0:Int))) (aD ((↑(List.length (ir e0.1 e0.2)):Int) != (2:Int)) z1 (a7 (true&&decide ((1:Int)<(↑(List.length (ir e0.1
 e0.2)):Int))) (aD ((↑(List.length (ai (ae (nth (ir e0.1 e0.2) 1) 1))):Int) != (1:Int)) z1 (a7 (true&&decide ((1:Int)<(↑(List.length (ir e0.1 e0.2))
 :Int))) (aD ((↑(List.length (ai (ae (nth (ir e0.1 e0.2) 1) 2))):Int) != (2:Int)) z1 (a7 (true&&decide ((1:Int)<(↑(List.length (ir e0.1 e0.2)):
 Int))) (a7 (true&&decide ((0:Int)<(↑(List.length (ai (ae (nth (ir e0.1 e0.2) 1) 1))):Int))) (aD (toInt (ae (nth (ai (ae (nth (ir e0.1 e0.2) 1) 1)) 0) 3)
 ==(-1:Int)) (a7 (true&&decide ((1:Int)<(↑(List.length (ir e0.1 e0.2)):Int))) (a7 (true&&decide ((0:Int)<(↑(List.length (ai (ae (nth (ir e0.1
 e0.2) 1) 2))):Int))) (aD (toInt (ae (nth (ai (ae (nth (ir e0.1 e0.2) 1) 2)) 0) 3)==(0:Int)) (a7 (true&&decide ((1:Int)<(↑(List.length (ir e0.1
 e0.2)):Int))) (a7 (true&&decide ((1:Int)<(↑(List.length (ai (ae (nth (ir e0.1 e0.2) 1) 2))):Int))) (K (AV.bool (toInt (ae (nth (ai (ae (nth (ir e0.1
 e0.2) 1) 2)) 1) 3)==(1:Int))) []))) z1))) z1)))))))) (aD (Prod.snd (qs e0.1 e0.2) != (0:Int)) z1 z1)):=by kernel_rfl
def GR:Rl:=⟨⟨bP,[tv bX,tv bY]⟩,[⟨1,⟨bE,[tv bX,tv bY]⟩,t0,t0⟩]⟩
def Hi:Rl:=⟨⟨bP,[tv bX,tv bZ]⟩,[⟨1,⟨bP,[tv bX,tv bY]⟩,t0,t0⟩,⟨1,⟨bP,[tv bY,tv bZ]⟩,t0,t0⟩]⟩
theorem Ib(s:ByteArray):cM (Pn s)=tv s:=by rw[nU];rfl
theorem IW:cM Wj=t0:=by rw[da];rfl
theorem DF:aG S5=GR:=by
 simp only[aG,S5,GR,aa,c6,ac1,ac2,Ib,cE,Df,ae,nth,IW,ai,toInt,toStr]
theorem DD:aG Q0=Hi:=by
 simp only[aG,Q0,Hi,aa,c6,ac1,ac2,Ib,cE,Df,ae,nth,IW,ai,toInt,toStr]
theorem Qf:isName bE=true:=gS _ (by decide+kernel) (by decide+kernel) (by decide+kernel)
theorem UL:isName bA=true:=gS _ (by decide+kernel) (by decide+kernel) (by decide+kernel)
theorem UM:isName bB=true:=gS _ (by decide+kernel) (by decide+kernel) (by decide+kernel)
theorem HX:isName bP=true:=gS _ (by decide+kernel) (by decide+kernel) (by decide+kernel)
theorem Mm:isName bX=true:=gS _ (by decide+kernel) (by decide+kernel) (by decide+kernel)
theorem LO:isName bY=true:=gS _ (by decide+kernel) (by decide+kernel) (by decide+kernel)
theorem Ry:isName bZ=true:=gS _ (by decide+kernel) (by decide+kernel) (by decide+kernel)
theorem uF(r s t:ByteArray)(hr:isName r=true)(hs:isName s=true)(ht:isName t=true):bf ⟨r,[tv s,tv t]⟩=true:=by
 simp[bf,hr,tn 19 s hs,tn 19 t ht]
theorem uD(r s t:ByteArray)(hr:isName r=true)(hs:isName s=true)(ht:isName t=true):iE ⟨1,⟨r,[tv s,tv t]⟩,t0,t0⟩=true:=by
 simp[iE,uF r s t hr hs ht,Jc]
theorem uw:aK GR=true:=by
 simp[aK,GR,uF bP bX bY HX Mm LO,uD bE bX bY Qf Mm LO,vZ]
theorem vl:aK Hi=true:=by
 simp[aK,Hi,uF bP bX bZ HX Mm Ry,uD bP bX bY HX Mm LO,uD bP bY bZ HX LO Ry,vZ]
theorem Nt(s:ByteArray)(h:isName s=true):tp (OM s)=true:=by
 have:zy [.lit (.string bA), .lit (.string bB)] [.int 1, .int 1]=true:=by
  simp only[zy,toStr,UL,UM];rfl
 unfold tp Ad
 simp only[OM,ae,nth,toStr,ai,h,this]
 rfl
theorem FZ:eL rp sf=true:=by
 have e1:tp (OM bE)=true:=Nt _ Qf
 have e2:tp (OM bP)=true:=Nt _ HX
 have e3:lv (aq S5)=true:=(congrArg aK DF).trans uw
 have e4:lv (aq Q0)=true:=(congrArg aK DD).trans vl
 simp only[eL,rp,sf,List.all_cons,List.all_nil,e1,e2,e3,e4];rfl
theorem Km:(pD (cz rp) GR).1=0:=by
 have:cP GR=[bX,bY]:=by unfold cP;rw[uw,aa8];decide+kernel
 unfold pD
 rw[this]
 decide+kernel
theorem Kc:(pD (cz rp) Hi).1=0:=by
 have:cP Hi=[bX,bZ,bY]:=by unfold cP;rw[vl,aa8];decide+kernel
 unfold pD
 rw[this]
 decide+kernel
theorem of_B{x:cg}{r:Rl}(hr:aG x=r)(h:aK r=true)(h2:iH r=true)(h3:aq (eE (aq x))=aq x)(h4:aG (eE (aq x))=aG x)(h5:(pD (cz rp) r).1=0):jv rp (aq x)=0/\iU (aq x)=0:=by
 constructor
 ·have hR:eL rp [aq x]=true:=by
   have e1:tp (OM bE)=true:=Nt _ Qf
   have e2:tp (OM bP)=true:=Nt _ HX
   have e3:lv (aq x)=true:=(congrArg aK hr).trans h
   simp only[eL,rp,List.all_cons,List.all_nil,e1,e2,e3];rfl
  unfold jv rY
  rw[h3,hR,aa8]
  simp only[h4,hr]
  exact h5
 ·unfold iU uu
  rw[h4,hr,h,h2];rfl
theorem SM:(fG rp sf).2=0:=by
 have h1:=of_B DF uw (by decide+kernel) rfl rfl Km
 have h2:=of_B DD vl (by decide+kernel) rfl rfl Kc
 refine zY.2 ⟨FZ,by decide+kernel,fun y hy=>?_,fun y hy=>?_⟩
 ·rcases List.mem_cons.1 hy with rfl|hy
  ·exact h1.1
  ·obtain rfl:=List.mem_singleton.1 hy
   exact h2.1
 ·rcases List.mem_cons.1 hy with rfl|hy
  ·exact h1.2
  ·obtain rfl:=List.mem_singleton.1 hy
   exact h2.2
theorem Fk{x:cg}{r:Rl}(hr:aG x=r)(h5:(eE (aq x)).hl=x.hl/\(eE (aq x)).bl=x.bl)(hc:oU r<=100000)(hl:x.bl.length<=100000):cV (eE (aq x)):=by
 refine⟨?_,by rw[h5.2];exact hl⟩
 rw[h5.1,h5.2]
 have:=mD 56 x.rel x.hl x.bl
 rw[show(⟨⟨x.rel,aa x.hl⟩,c6 x.bl⟩:Rl)=aG x from rfl,hr] at this
 rw[this];exact hc
theorem PF:fX rp sf:=by
 refine⟨by decide,by decide,fun y hy=>?_⟩
 rcases List.mem_cons.1 hy with rfl|hy
 ·exact Fk DF ⟨rfl,rfl⟩ (by decide) (by decide)
 ·obtain rfl:=List.mem_singleton.1 hy
  exact Fk DD ⟨rfl,rfl⟩ (by decide) (by decide)
theorem Qg:(Aa rp sf [1] sf).map QD.delta=[-1]:=by decide+kernel
theorem PK:(z9 rp sf [1] sf).map QD.delta=[0,1]:=by decide+kernel
theorem SL:jx rp sf=[[0],[1]]:=by decide+kernel
theorem Vw:(wC rp.length (jE rp sf) (pr rp sf) rp sf).2=0:=by decide+kernel
theorem Vx:(qs rp sf).2=0:=O7.2 ⟨SM,Vw⟩
theorem St: ∃r1 s1 o1 r2 s2 o2 r3 s3 o3,ir rp sf=[DS rp sf [0], .agg [.ad 3 (iA [1]), .ad 45 [qA ⟨r1,s1,o1, -1⟩], .ad 45 [qA ⟨r2,s2,o2,0⟩,qA ⟨r3,s3,o3,1⟩]]]:=by
 have h1:=Qg
 have h2:=PK
 rw[ir,SL,ac1,ac1,ac2]
 rw[show DS rp sf [1]= .agg [.ad 3 (iA [1]), .ad 45 ((Aa rp sf [1] sf).map qA), .ad 45 ((z9 rp sf [1] sf).map qA)] from rfl]
 generalize Aa rp sf [1] sf=l at h1
 generalize z9 rp sf [1] sf=m at h2
 match l,m,h1,h2 with
 |[⟨r1,s1,o1,d1⟩],[⟨r2,s2,o2,d2⟩,⟨r3,s3,o3,d3⟩],h1,h2=>
  simp only[ac1,ac2,List.cons.injEq,and_true] at h1 h2
  obtain rfl:=h1
  obtain⟨rfl,rfl⟩:=h2
  exact⟨r1,s1,o1,r2,s2,o2,r3,s3,o3,rfl⟩
def SY:List AV->Option (Bool×AV)
 |[]=>some (true, .bool true)
 |_=>none
theorem V1(κ:Kp):c9 (Wi κ).E 12 10 SY:=by
 intro args x hh
 unfold SY at hh
 split at hh
 ·simp only[aa4,ab0,true_and] at hh
  subst hh
  refine⟨_,rfl,rfl,?_⟩
  refine Eq.mpr (WH κ _) ?_
  refine⟨(rp,sf),rfl,PF,?_⟩
  simp only[Vx]
  obtain⟨r1,s1,o1,r2,s2,o2,r3,s3,o3,h⟩:=St
  simp only[h]
  rfl
 ·cases hh
noncomputable def Pw(κ:Kp):EB:=(Wi κ).pure (V1 κ)
structure Ri where
 ds:List AV
 rs:List AV
 i:Nat
 n:Nat
 k:Nat
abbrev Qd(x:Ri):S:=sp 91 [(1, .ad 73 []),(2, .ptr 0 0 [] 0),(5, .int x.i),(6, .int x.n),(7, .int x.k)] [.box 25 (gC x.ds x.rs)]
theorem ZN(κ:Kp)(x:Ri)(I:Nat->S->Prop)(n:Nat)(K:Exit->S->Prop):(vc (Pw κ).E 12 11 none 0 (af (Pr κ).toProgram 11 8) (Qd x) (bH (Pw κ).E 11 8 0 I n K))=(
 letI z1:=ai (ae (nth x.rs (Int.toNat (↑(x.i):Int))) 1)
 letI z2:=AV.agg [AV.ad 61 x.ds,AV.ad 66 x.rs]
 letI z3:=true&&decide ((↑(x.i):Int)<(↑(x.rs.length):Int))
 letI z4:=IntKind.wrap IntKind.i64 ((↑(x.k):Int)+(1:Int))
 letI z5:=(↑(x.k):Int)<(↑(List.length z1):Int)
 a7 z3 (aD (decide z5) (a7 z3 (a7 (true&&decide z5) (aD (toInt (ae (nth z1 (Int.toNat (↑(x.k):Int))) 0)==(1:Int)) (∃(e0:Nat),e0<n/\I e0 (sp 91
 [(1,AV.ad 73 []),(2,AV.ptr 0 0 [] 0),(5,AV.int (↑(x.i):Int)),(6,AV.int (IntKind.wrap IntKind.i64 ((↑(x.n):Int)+(1:Int)))),(7,AV.int z4)]
 [Obj.box 25 z2])) (∃(e0:Nat),e0<n/\I e0 (sp 91 [(1,AV.ad 73 []),(2,AV.ptr 0 0 [] 0),(5,AV.int (↑(x.i):Int)),(6,AV.int (↑(x.n):Int)),(7,
 AV.int z4)] [Obj.box 25 z2]))))) (K (Exit.exit 2) (sp 91 [(1,AV.ad 73 []),(2,AV.ptr 0 0 [] 0),(5,AV.int (↑(x.i):Int)),(6,AV.int (↑(x.n):Int))]
 [Obj.box 25 z2])))):=by kernel_rfl
def xa(l:List AV):Nat:=(l.filter fun x=>toInt (ae x 0)==1).length
def JZ(x:Ri):Prop:=x.i<x.rs.length/\x.k<=(ai (ae (nth x.rs x.i) 1)).length/\(ai (ae (nth x.rs x.i) 1)).length<=100000/\x.n<=x.k
def Ij(x:Ri):Out (Exit×S):= .one (.exit 2,sp 91 [(1, .ad 73 []),(2, .ptr 0 0 [] 0),(5, .int x.i),(6, .int (x.n+xa ((ai (ae (nth x.rs x.i) 1)).drop x.k):Nat))] [.box 25 (gC x.ds x.rs)])
theorem ZM(κ:Kp):bh (Pw κ).E 12 11 8 (aP 0 Qd JZ Ij):=by
 refine aL (fun x=>(ai (ae (nth x.rs x.i) 1)).length - x.k) ?_
 rintro⟨ds,rs,i,n,k⟩ K ⟨h1,h2,h3,h4⟩ ho
 simp only at h1 h2 h3 h4
 rw[show(Pw κ).E.P=Pr κ from rfl]
 refine Eq.mpr (ZN κ ⟨ds,rs,i,n,k⟩ _ _ K) ?_
 simp only[Int.toNat_natCast]
 refine an.2 ⟨by simp;omega,?_⟩
 rw[ah,aa1,aa3]
 simp only[Ij,Out.run] at ho
 refine⟨fun h=>an.2 ⟨by simp;omega,an.2 ⟨by simp;omega,?_⟩⟩,fun h=>?_⟩
 ·have hk:k<(ai (ae (nth rs i) 1)).length:=by omega
  rw[aW (n:=(k:Int)+1) (by omega) (by omega),aW (n:=(n:Int)+1) (by omega) (by omega)]
  have hd:xa ((ai (ae (nth rs i) 1)).drop k)=(bif toInt (ae (nth (ai (ae (nth rs i) 1)) k) 0)==1 then 1 else 0)+xa ((ai (ae (nth rs i) 1)).drop (k+1)):=by
   rw[ab2 hk,←bg _ k hk]
   unfold xa
   rw[List.filter_cons]
   cases toInt (ae (nth (ai (ae (nth rs i) 1)) k) 0)==1 with
   |true=>simp;omega
   |false=>simp
  rw[hd] at ho
  rw[ah]
  refine⟨fun e=>?_,fun e=>?_⟩
  ·rw[e,aa8] at ho
   refine⟨_,?_,⟨ds,rs,i,n+1,k+1⟩,rfl,⟨h1,hk,h3,by simp only;omega⟩,rfl,?_⟩
   ·simp only;omega
   ·simp only[Ij,Out.run]
    rw[Nat.add_assoc];exact ho
  ·rw[e,aa6,Nat.zero_add] at ho
   refine⟨_,?_,⟨ds,rs,i,n,k+1⟩,rfl,⟨h1,hk,h3,by simp only;omega⟩,rfl,ho⟩
   simp only;omega
 ·rw[aa9 (by omega)] at ho
  exact ho
noncomputable def PJ(κ:Kp):EB:=(Pw κ).loop (ZM κ)
abbrev Tf(ds rs:List AV)(i:Nat):S:=sp 91 [(1, .ad 73 []),(2, .ptr 0 0 [] 0),(5, .int i)] [.box 25 (gC ds rs)]
theorem YD(κ:Kp)(ds rs:List AV)(i:Nat)(I:Nat->S->Prop)(n:Nat)(K:Exit->S->Prop):(vc (PJ κ).E 12 11 none 0 (af (Pr κ).toProgram 11 4) (Tf ds rs i) (bH (PJ κ).E 11 4 0 I n K))=(
 letI z1:=Pg.toProgram (Env.P (EB.E (Pw κ)))
 aD (decide ((↑i:Int)<(↑(rs.length):Int))) (af z1 11 8=af z1 11 8/\∃(e1:Ri),sp 91 [(1,AV.ad 73 []),(2,AV.ptr 0 0 [] 0),(5,AV.int (↑i:Int)),
 (6,AV.int 0),(7,AV.int 0)] [Obj.box 25 (AV.agg [AV.ad 61 ds,AV.ad 66 rs])]=Qd e1/\JZ e1/\aD (decide ((↑(e1.n+xa (List.drop e1.k (ai (ae (nth e1.rs
 e1.i) 1)))):Int)>(3:Int))) (K Exit.ret (sp 91 [(4,AV.int 0)] [])) (∃(e0:Nat),e0<n/\I e0 (sp 91 [(1,AV.ad 73 []),(2,AV.ptr 0 0 [] 0),(5,AV.int
 (IntKind.wrap IntKind.i64 ((↑(e1.i):Int)+(1:Int))))] [Obj.box 25 (AV.agg [AV.ad 61 e1.ds,AV.ad 66 e1.rs])]))) (K (Exit.exit 0) (sp 91 [(1,AV.ad 73 [])]
 []))):=by kernel_rfl
def SZ(r:AV):Bool:=decide (xa (ai (ae r 1))<=3)
structure TZ where
 ds:List AV
 rs:List AV
 i:Nat
abbrev Oe(x:TZ):S:=Tf x.ds x.rs x.i
def KV(x:TZ):Prop:=x.i<=x.rs.length/\x.rs.length<=100000/\∀r,r∈x.rs->(ai (ae r 1)).length<=100000
def KO(x:TZ):Out (Exit×S):= .aD ((x.rs.drop x.i).all SZ) (.one (.exit 0,sp 91 [(1, .ad 73 [])] [])) (.one (.ret,sp 91 [(4, .int 0)] []))
theorem lLr(κ:Kp):bh (PJ κ).E 12 11 4 (aP 0 Oe KV KO):=by
 refine aL (fun x=>x.rs.length - x.i) ?_
 rintro⟨ds,rs,i⟩ K ⟨h1,h2,h3⟩ ho
 simp only at h1 h2 h3
 rw[show(PJ κ).E.P=Pr κ from rfl]
 refine Eq.mpr (YD κ ds rs i _ _ K) ?_
 simp only[KO,Out.run,ah] at ho
 rw[ah,aa1,aa3]
 refine⟨fun h=>?_,fun h=>?_⟩
 ·have hk:i<rs.length:=by omega
  have hx:nth rs i∈rs:=by rw[bg _ _ hk];exact List.getElem_mem _
  rw[ab2 hk,←bg _ i hk,List.all_cons] at ho
  refine⟨rfl,⟨ds,rs,i,0,0⟩,rfl,⟨hk,Nat.zero_le _,h3 _ hx,Nat.le_refl _⟩,?_⟩
  simp only[ab1,Nat.zero_add]
  rw[aW (n:=(i:Int)+1) (by omega) (by omega),ah,aa1,aa3]
  refine⟨fun e=>ho.2 ?_,fun e=>⟨_,?_,⟨ds,rs,i+1⟩,rfl,⟨hk,h2,h3⟩,rfl,?_⟩⟩
  ·rw[show SZ (nth rs i)=false from aa5 (by omega),Bool.false_and]
  ·simp only;omega
  ·simp only[KO,Out.run,ah]
   rw[show SZ (nth rs i)=true from aa7 (by omega),ac0] at ho
   exact ho
 ·rw[aa9 (by omega)] at ho
  exact ho.1 rfl
noncomputable def Po(κ:Kp):EB:=(PJ κ).loop (lLr κ)
theorem ZO(κ:Kp)(I:Nat->S->Prop)(n:Nat)(K:Exit->S->Prop):(vc (Po κ).E 12 11 none 0 (af (Pr κ).toProgram 11 16) (sp 91 [(1, .ad 73 []),(8, .int 0),(9, .int 0)] []) (bH (Po κ).E 11 16 0 I n K))=(
 K (Exit.exit 4) (sp 91 [] [])):=by kernel_rfl
abbrev Sy(_:Unit):S:=sp 91 [(1, .ad 73 []),(8, .int 0),(9, .int 0)] []
def RU(_:Unit):Out (Exit×S):= .one (.exit 4,sp 91 [] [])
theorem lLw(κ:Kp):bh (Po κ).E 12 11 16 (aP 0 Sy (fun _=>True) RU):=by
 refine aL (fun _=>0) ?_
 rintro⟨⟩ K _ ho
 rw[show(Po κ).E.P=Pr κ from rfl]
 exact Eq.mpr (ZO κ _ _ K) ho
noncomputable def V3(κ:Kp):EB:=(Po κ).loop (lLw κ)
theorem yLw(κ:Kp)(ds rs:List AV)(K:AV->List Dn.Obj->Prop):(a9 (V3 κ).E 12 11 [gC ds rs, .ad 73 []] [] K)=(
 letI z1:=Pg.toProgram (Env.P (EB.E (PJ κ)))
 letI z2:=Pg.toProgram (Env.P (EB.E (Po κ)))
 a7 (decide (ds.length<=9223372036854775807)&&List.all ds fun(e0:AV)=>decide (List.length (ai (ae e0 1))<=9223372036854775807)) (aD ((bif jK ds rs then
 (1:Int) else(0:Int))==(0:Int)) (K (AV.int 0) []) (aD (decide ((↑(rs.length):Int)>(8:Int))) (K (AV.int 0) []) (af z1 11 4=af z1 11 4/\∃(e1:
 TZ),sp 91 [(1,AV.ad 73 []),(2,AV.ptr 0 0 [] 0),(5,AV.int 0)] [Obj.box 25 (AV.agg [AV.ad 61 ds,AV.ad 66 rs])]=Oe e1/\KV e1/\aD (List.all (List.drop
 e1.i e1.rs) SZ) (af z2 11 16=af z2 11 16/\∃(e0:Unit),sp 91 [(1,AV.ad 73 []),(8,AV.int 0),(9,AV.int 0)] []=Sy e0/\True/\K (AV.int 1) []) (K
 (AV.int 0) []))))):=by kernel_rfl
def qW(ds rs:List AV):Bool:=jK ds rs&&(decide (rs.length<=8)&&rs.all SZ)
def XR:List AV->Option (Bool×AV)
 |[.agg [.ad 61 ds, .ad 66 rs], .ad 73 []]=>some (decide (ds.length<=aR)&&ds.all (fun d=>decide ((ai (ae d 1)).length<=aR)), .int (bif qW ds rs then 1 else 0))
 |_=>none
theorem pLw(κ:Kp):c9 (V3 κ).E 12 11 XR:=by
 intro args x hh
 unfold XR at hh
 split at hh
 ·rename_i ds rs
  simp only[aa4,ab0] at hh
  obtain⟨h1,rfl⟩:=hh
  refine⟨_,rfl,rfl,?_⟩
  refine Eq.mpr (yLw κ ds rs _) ?_
  refine an.2 ⟨h1,?_⟩
  unfold qW
  cases hs:jK ds rs with
  |false=>exact rfl
  | true=>
   rw[ac0]
   refine ah.2 ⟨fun e=>absurd e (by decide),fun _=>?_⟩
   rw[ah,aa1,aa3]
   refine⟨fun e=>?_,fun e=>⟨rfl,⟨ds,rs,0⟩,rfl,⟨Nat.zero_le _,by show rs.length<=100000;omega,fun r hr=>(sr hs).2.2 r hr|>.2⟩,?_⟩⟩
   ·rw[aa5 (show ¬ rs.length<=8 by omega)];rfl
   ·rw[aa7 (show rs.length<=8 by omega),ac0,ab1]
    rw[ah]
    refine⟨fun e2=>⟨rfl,(),rfl,trivial,?_⟩,fun e2=>?_⟩
    ·rw[e2];rfl
    ·rw[e2];rfl
 ·cases hh
noncomputable def xy(κ:Kp):EB:=(V3 κ).pure (pLw κ)
end Go.Proofs.YthaiinlfnommnaaGreatDoor
