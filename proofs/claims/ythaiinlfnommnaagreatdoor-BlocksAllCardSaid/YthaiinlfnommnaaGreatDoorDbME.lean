import Derived.Test.YthaiinlfnommnaaGreatDoorDbMD
import Derived.Test.YthaiinlfnommnaaGreatDoorDbM1
namespace Go.Proofs.YthaiinlfnommnaaGreatDoor
open Go Go.Dn Go.Rl Go.Proofs
attribute [local irreducible] bf vc
set_option maxRecDepth 20000
def A5(ds:List AV)(r:AV):QD:=dm ds (dW r)
def Gn(ds rs:List AV)(r:AV):Bool:=FP fH ds.length (jm ds rs) (oN ds rs) ds r
def xj(ds rs:List AV)(g:List Int)(l:List AV):List QD:=EZ (A5 ds) (uq ds) (Gn ds rs) g l
def xh(ds rs:List AV)(g:List Int)(l:List AV):List QD:=FI (A5 ds) (uq ds) (Gn ds rs) g l
theorem He(mk:AV->QD)(hd:AV->Int)(ag:AV->Bool)(g:List Int): ∀l m:List AV,EZ mk hd ag g (l++m)=EZ mk hd ag g l++EZ mk hd ag g m
 |[],_=>rfl
 |r::l,m=>by
  rw[List.cons_append,EZ,EZ,He mk hd ag g l m]
  cases(g.contains (hd r)&& !ag r)<;>rfl
theorem Hy(mk:AV->QD)(hd:AV->Int)(ag:AV->Bool)(g:List Int): ∀l m:List AV,FI mk hd ag g (l++m)=FI mk hd ag g l++FI mk hd ag g m
 |[],_=>rfl
 |r::l,m=>by
  rw[List.cons_append,FI,FI,Hy mk hd ag g l m,List.append_assoc]
theorem Ah(mk:AV->QD)(hd:AV->Int)(ag:AV->Bool)(g:List Int): ∀l:List AV,(EZ mk hd ag g l).length<=l.length
 |[]=>Nat.le_refl _
 |r::l=>by
  have:=Ah mk hd ag g l
  rw[EZ]
  cases(g.contains (hd r)&& !ag r)
  ·rw[aa7];simp only[List.length_cons];omega
  ·rw[aa9];simp only[List.length_cons];omega
theorem zI(mk:AV->QD)(hd:AV->Int)(ag:AV->Bool)(g:List Int)(n:Nat): ∀l:List AV,(∀r,r∈l->(mk r).steps.length<=n)->(FI mk hd ag g l).length<=l.length*n
 |[],_=>Nat.zero_le _
 |r::l,h=>by
  have h1:=zI mk hd ag g n l fun r hr=>h r (List.mem_cons_of_mem _ hr)
  have h2:=h r List.mem_cons_self
  have h3:=zM (mk r) g (mk r).steps 0
  rw[FI,ac0,List.length_cons,Nat.succ_mul]
  cases(g.contains (hd r)&&ag r)
  ·rw[aa7];simp only[List.length_nil];omega
  ·rw[aa9];omega
theorem Dl{l:List AV}{i:Nat}(h:i<l.length):l.take (i+1)=l.take i++[nth l i]:=by
 rw[List.take_add_one,ab8 h,aZ _ _ h];rfl
theorem O3(ds rs:List AV)(g:List Int){l:List AV}{i:Nat}(h:i<l.length):xj ds rs g (l.take (i+1))=xj ds rs g (l.take i)++bif g.contains (uq ds (nth l i))&& !Gn ds rs (nth l i) then[A5 ds (nth l i)] else[]:=by
 rw[xj,Dl h,He];rfl
theorem Nr(ds rs:List AV)(g:List Int){l:List AV}{i:Nat}(h:i<l.length):xh ds rs g (l.take (i+1))=xh ds rs g (l.take i)++bif g.contains (uq ds (nth l i))&&Gn ds rs (nth l i) then ua (A5 ds (nth l i)) g (A5 ds (nth l i)).steps 0 else[]:=by
 rw[xh,Dl h,Hy]
 exact congrArg _ (List.append_nil _)
structure Wp where
 ds:List AV
 rs:List AV
 g:List Int
 i:Nat
noncomputable abbrev R3(x:Wp):S:=Ng x.ds x.rs (iA x.g) ((xj x.ds x.rs x.g (x.rs.take x.i)).map qA) ((xh x.ds x.rs x.g (x.rs.take x.i)).map qA) x.i
def Eo(x:Wp):Prop:=(eX x.ds x.rs/\(ft x.ds x.rs).2=0/\x.g.length<=60)/\x.i<=x.rs.length
noncomputable def Qh(x:Wp):Out (Exit×S):= .one (.exit 0,sp 65 [(4, .ptr 0 0 [] 0),(5, .ptr 1 0 [] 0)] [.box 41 (.agg [.nil, .nil, .nil]), .box 41 (.agg [.ad 3 (iA x.g), .ar 2 0 ((xj x.ds x.rs x.g x.rs).map qA).length, .ar 3 0 ((xh x.ds x.rs x.g x.rs).map qA).length]), .row 45 ((xj x.ds x.rs x.g x.rs).map qA), .row 45 ((xh x.ds x.rs x.g x.rs).map qA)])
theorem Yy{p:Prop}(h:p):(p/\p)/\p:=⟨⟨h,h⟩,h⟩
theorem Fy{ds rs:List AV}(hs:eX ds rs)(hc:(ft ds rs).2=0){r:AV}(hr:r∈rs):(A5 ds r).steps.length<=100000:=by
 have h:=qw hs hc hr
 have h1:=kt h.f
 have h2:=h.s.2
 show(iI ds (dW r) (bU (aH (dW r))).length).length<=100000
 rw[pI,h1];exact h2
theorem TD{ds rs:List AV}(hc:(ft ds rs).2=0){i:Nat}(h:i<rs.length):Jk ds rs i=Gn ds rs (nth rs i):=by
 unfold Jk
 rw[KJ hc ⟨by omega,by omega⟩ ⟨by omega,by omega⟩]
 rfl
theorem lBk(κ:Kp):bk (Q6 κ).E 12 28 3 (aP 0 R3 Eo Qh):=by
 refine aL (fun x=>x.rs.length - x.i) ?_
 rintro⟨ds,rs,g,i⟩ K ⟨⟨hs,hc,hg⟩,hi⟩ ho
 simp only at hs hc hg hi
 rw[show(Q6 κ).E.P=Pr κ from rfl]
 refine Eq.mpr (xBk κ ds rs g ((xj ds rs g (rs.take i)).map qA) ((xh ds rs g (rs.take i)).map qA) i _ _ K) ?_
 have hr:=(iR hc).hr
 rw[af,aa2,aa4]
 refine⟨fun h=>?_,fun h=>?_⟩
 ·have hk:i<rs.length:=by omega
  have hx:nth rs i∈rs:=by rw[aZ _ _ hk];exact List.getElem_mem _
  have hot:=O3 ds rs g hk
  have hlt:=Nr ds rs g hk
  have hol:=Ah (A5 ds) (uq ds) (Gn ds rs) g (rs.take i)
  have hll:=zI (A5 ds) (uq ds) (Gn ds rs) g 100000 (rs.take i) fun r h=>Fy hs hc (List.mem_of_mem_take h)
  rw[List.length_take] at hol hll
  have hck:qn ds rs i i rs.length=0:=KJ hc ⟨by omega,by omega⟩ ⟨by omega,by omega⟩
  have next: ∀os ls,os=(xj ds rs g (rs.take (i+1))).map qA->ls=(xh ds rs g (rs.take (i+1))).map qA->∃m,m<rs.length - i/\eY R3 Eo Qh (fun x=>x.rs.length - x.i) K m (Ng ds rs (iA g) os ls (IntKind.wrap IntKind.i64 ((i:Int)+1))):=by
   rintro _ _ rfl rfl
   rw[aW (n:=(i:Int)+1) (by omega) (by omega)]
   exact⟨_,by simp only;omega,⟨ds,rs,g,i+1⟩,rfl,⟨⟨hs,hc,hg⟩,hk⟩,rfl,ho⟩
  refine an.2 ⟨by simp;omega,(ds,toStr (ae (ae (nth rs i) 0) 0)),rfl,hs.1,an.2 ⟨by rw[aa2,fv];omega,?_⟩⟩
  rw[EH,af]
  refine⟨fun e=>?_,fun e=>⟨⟨ds,rs,i⟩,rfl,⟨hs,hck⟩,⟨ds,rs,i⟩,rfl,hs,?_⟩⟩
  ·have e:g.contains (uq ds (nth rs i))=false:=by rw[←Bool.not_eq_true'];exact e
   rw[e,Bool.false_and,aa7,List.append_nil] at hot hlt
   refine next _ _ (by rw[hot]) (by rw[hlt])
  ·have e:g.contains (uq ds (nth rs i))=true:=by rw[←ab4];exact e
   rw[show Jk ds rs ((i:Nat):Int)=Gn ds rs (nth rs i) from TD hc hk,af]
   rw[e,ac1] at hot hlt
   refine⟨fun e2=>Yy ⟨⟨ds,rs,g,(xj ds rs g (rs.take i)).map qA,(xh ds rs g (rs.take i)).map qA,dW (nth rs i),A5 ds (nth rs i)⟩,rfl,⟨Fy hs hc hx,hg,?_⟩,?_⟩,fun e2=>?_⟩
   ·simp only[List.length_map]
    have:(xh ds rs g (rs.take i)).length<=min i rs.length*100000:=hll
    omega
   ·rw[e2,Bool.not_true,aa7,List.append_nil] at hot
    rw[e2,aa9] at hlt
    rw[af]
    refine⟨fun e3=>next _ _ (by rw[hot]) ?_,fun e3=>next _ _ (by rw[hot]) ?_⟩
    ·have e4:ua (A5 ds (nth rs i)) g (A5 ds (nth rs i)).steps 0=[]:=List.isEmpty_iff.1 e3
     rw[hlt,e4,List.append_nil]
    ·rw[hlt,List.map_append];rfl
   ·rw[e2,Bool.not_false,aa9] at hot
    rw[e2,aa7,List.append_nil] at hlt
    refine an.2 ⟨?_,?_⟩
    ·rw[aa2,List.length_map]
     have:(xj ds rs g (rs.take i)).length<=min i rs.length:=hol
     omega
    ·have n1:=next _ _ rfl rfl
     rw[hot,hlt,List.map_append] at n1
     unfold Ng at n1
     rw[ac0] at n1
     rw[List.take_length]
     exact n1
 ·obtain rfl:i=rs.length:=by omega
  have ho:K (.exit 0) _:=ho
  simp only[List.take_length]
  exact ho
noncomputable def Xl(κ:Kp):EB:=(Q6 κ).loop (lBk κ)
theorem yBk(κ:Kp)(ds rs:List AV)(g:List Int)(K:AV->List Dn.Obj->Prop):(bf (Xl κ).E 12 28 [gS ds rs, .ad 3 (iA g)] [] K)=(
 letI z1:=Pg.toProgram (Env.P (EB.E (Q6 κ)))
 ah z1 28 3=ah z1 28 3/\∃(e0:Wp),sp 65 [(1,AV.ad 3 (iA g)),(2,AV.ptr 0 0 [] 0),(4,AV.ptr 1 0 [] 0),(5,AV.ptr 2 0 [] 0),(17,AV.ad 66 rs),(18,
 AV.int (↑(rs.length):Int)),(19,AV.int 0)] [Obj.box 25 (AV.agg [AV.ad 61 ds,AV.ad 66 rs]),Obj.box 41 (AV.agg [AV.nil,AV.nil,AV.nil]),Obj.box 41 (AV.agg
 [AV.ad 3 (iA g),AV.ar 3 0 0,AV.ar 4 0 0]),Obj.row 45 [],Obj.row 45 []]=R3 e0/\Eo e0/\K (AV.agg [AV.ad 3 (iA e0.g),AV.ad 45 (List.take (List.length
 (List.map qA (xj e0.ds e0.rs e0.g e0.rs))) (List.drop 0 (List.map qA (xj e0.ds e0.rs e0.g e0.rs)))),AV.ad 45 (List.take (List.length (List.map qA (xh e0.ds
 e0.rs e0.g e0.rs))) (List.drop 0 (List.map qA (xh e0.ds e0.rs e0.g e0.rs))))]) []):=by kernel_rfl
noncomputable def Ex(ds rs:List AV)(g:List Int):AV:= .agg [.ad 3 (iA g), .ad 45 ((xj ds rs g rs).map qA), .ad 45 ((xh ds rs g rs).map qA)]
structure V7 where
 ds:List AV
 rs:List AV
 g:List Int
def SZ(x:V7):List AV×List Dn.Obj:=([gS x.ds x.rs, .ad 3 (iA x.g)],[])
def Kq(x:V7):Prop:=eX x.ds x.rs/\(ft x.ds x.rs).2=0/\x.g.length<=60
noncomputable def UF(x:V7):Out (AV×List Dn.Obj):= .one (.agg [.ad 3 (iA x.g), .ad 45 ((xj x.ds x.rs x.g x.rs).map qA), .ad 45 ((xh x.ds x.rs x.g x.rs).map qA)],[])
theorem cBb(κ:Kp):bz (Xl κ).E 12 28 (aR SZ Kq UF):=by
 refine bg ?_
 rintro⟨ds,rs,g⟩ K hs ho
 refine Eq.mpr (yBk κ ds rs g K) ?_
 refine⟨rfl,⟨ds,rs,g,0⟩,rfl,⟨hs,Nat.zero_le _⟩,?_⟩
 simp only[ab2,List.take_length]
 exact ho
noncomputable def OU(κ:Kp):EB:=((Xl κ).call (cBb κ)).calm [28]
abbrev Sg(ds rs os gs:List AV)(i:Int):S:=sp 33 [(1, .ptr 0 0 [] 0),(7, .ar 1 0 os.length),(19, .ar 2 0 gs.length),(20, .int gs.length),(21, .int i)] [.box 25 (gS ds rs), .row 41 os, .row 38 gs]
theorem xZo(κ:Kp)(ds rs os gs:List AV)(i:Int)(I:Nat->S->Prop)(n:Nat)(K:Exit->S->Prop):(vc (OU κ).E 12 12 none 0 (ah (Pr κ).toProgram 12 6) (Sg ds rs os gs i) (bL (OU κ).E 12 6 0 I n K))=(
 aC (decide (i<(↑(gs.length):Int))) (ba (decide ((0:Int)<=i)&&decide (i<(↑(gs.length):Int))) (∃(a:V7),([AV.agg [AV.ad 61 ds,AV.ad 66 rs],
 AV.ad 3 (ai (nth gs (0+i.toNat)))],[])=SZ a/\Kq a/\ba (decide ((os.length+1+1)*73<=70368744177664)) (∃(m:Nat),m<n/\I m (sp 33
 [(1,AV.ptr 0 0 [] 0),(7,AV.ar 1 0 (os.length+1)),(19,AV.ar 2 0 gs.length),(20,AV.int (↑(gs.length):Int)),(21,AV.int (IntKind.wrap IntKind.i64 (i
 +(1:Int))))] [Obj.box 25 (AV.agg [AV.ad 61 ds,AV.ad 66 rs]),Obj.row 41 (List.take os.length os++[AV.agg [AV.ad 3 (iA a.g),AV.ad 45 (List.map qA
 (xj a.ds a.rs a.g a.rs)),AV.ad 45 (List.map qA (xh a.ds a.rs a.g a.rs))]]),Obj.row 38 gs])))) (K (Exit.exit 0) (sp 33 [(7,AV.ar 0 0 os.length)] [Obj.row
 41 os]))):=by kernel_rfl
theorem B7{n m:Nat}{L:Gr}: ∀(f:Nat) (done:List Int),(si n m L f done).length<=f
 |0,_=>Nat.le_refl _
 | f+1,done=>by
  rw[si]
  cases decide (eG n m L done<0) with
  |true=>exact Nat.zero_le _
  |false=>
   have:=B7 (n:=n) (m:=m) (L:=L) f (tH done (fV n m L (eG n m L done)))
   rw[aa7,List.length_cons];omega
theorem Cv{n m:Nat}{L:Gr}{g:List Int}: ∀(f:Nat) (done:List Int),g∈si n m L f done->g.length<=n
 |0,_,h=>by cases h
 | f+1,done,h=>by
  rw[si] at h
  cases e:decide (eG n m L done<0) with
  |true=>rw[e] at h;cases h
  |false=>
   rw[e,aa7] at h
   rcases List.mem_cons.1 h with rfl|h
   ·exact x0 _ _ _ _
   ·exact Cv f _ h
theorem G8(ds rs:List AV):(jO ds rs).length<=ds.length+1:=by
 have h1:=B7 (n:=ds.length) (m:=jm ds rs) (L:=oN ds rs) (xz ds.length []+1) []
 have h2:=D2 ds.length []
 exact Nat.le_trans h1 (by omega)
theorem FL{ds rs:List AV}{g:List Int}(h:g∈jO ds rs):g.length<=ds.length:=Cv _ _ h
theorem Nw{ds rs:List AV}(h:(s8 ds rs).2=0):(ft ds rs).2=0:=by
 unfold s8 at h
 by_cases e:(ft ds rs).2=0
 ·exact e
 ·rw[aa6 e] at h;exact h
structure Vg where
 ds:List AV
 rs:List AV
 i:Nat
noncomputable abbrev N8(x:Vg):S:=Sg x.ds x.rs (((jO x.ds x.rs).take x.i).map (Ex x.ds x.rs)) (lW (jO x.ds x.rs)) x.i
def DH(x:Vg):Prop:=(eX x.ds x.rs/\(ft x.ds x.rs).2=0)/\x.i<=(jO x.ds x.rs).length
noncomputable def VA(x:Vg):Out (Exit×S):= .one (.exit 0,sp 33 [(7, .ar 0 0 ((jO x.ds x.rs).map (Ex x.ds x.rs)).length)] [.row 41 ((jO x.ds x.rs).map (Ex x.ds x.rs))])
theorem lZo(κ:Kp):bk (OU κ).E 12 12 6 (aP 0 N8 DH VA):=by
 refine aL (fun x=>(jO x.ds x.rs).length - x.i) ?_
 rintro⟨ds,rs,i⟩ K ⟨⟨hs,hc⟩,hi⟩ ho
 simp only at hs hc hi
 rw[show(OU κ).E.P=Pr κ from rfl]
 refine Eq.mpr (xZo κ ds rs (((jO ds rs).take i).map (Ex ds rs)) (lW (jO ds rs)) i _ _ K) ?_
 have hd:=(iR hc).hd
 have hl:=G8 ds rs
 rw[tV,af,aa2,aa4]
 refine⟨fun h=>?_,fun h=>?_⟩
 ·have hk:i<(jO ds rs).length:=by omega
  have hx:(jO ds rs)[i]∈jO ds rs:=List.getElem_mem _
  have hn:nth (lW (jO ds rs)) (0+((i:Nat):Int).toNat)= .ad 3 (iA (jO ds rs)[i]):=by
   rw[Int.toNat_natCast,Nat.zero_add,aZ _ _ (by rw[tV];exact hk)]
   simp[lW]
  rw[hn]
  refine an.2 ⟨by simp;omega,⟨ds,rs,(jO ds rs)[i]⟩,rfl,⟨hs,hc,Nat.le_trans (FL hx) hd⟩,an.2 ⟨?_,?_⟩⟩
  ·rw[aa2,List.length_map,List.length_take];omega
  ·have e:((jO ds rs).take (i+1)).map (Ex ds rs)=((jO ds rs).take i).map (Ex ds rs)++[Ex ds rs (jO ds rs)[i]]:=by
    rw[List.take_add_one,ab8 hk,List.map_append];rfl
   refine⟨_,?_,⟨ds,rs,i+1⟩,?_,⟨⟨hs,hc⟩,hk⟩,rfl,ho⟩
   ·simp only;omega
   ·rw[aW (n:=(i:Int)+1) (by omega) (by omega),List.take_length]
    simp only[N8]
    unfold Sg
    rw[e,ac0,tV]
    rfl
 ·obtain rfl:i=(jO ds rs).length:=by omega
  have ho:K (.exit 0) _:=ho
  simp only[List.take_length]
  exact ho
noncomputable def Xq(κ:Kp):EB:=(OU κ).loop (lZo κ)
theorem yZo(κ:Kp)(ds rs:List AV)(K:AV->List Dn.Obj->Prop):(bf (Xq κ).E 12 12 [gS ds rs] [] K)=(
 letI z1:=Pg.toProgram (Env.P (EB.E (OU κ)))
 letI z2:=AV.agg [AV.ad 61 ds,AV.ad 66 rs]
 ∃(e1:sm),([AV.agg [AV.ad 61 ds,AV.ad 66 rs]],[])=QF e1/\D5 e1/\aC (decide (Prod.snd (s8 e1.1 e1.2)=(0:Int))) (ah z1 12 6=ah z1 12 6/\∃(e0:
 Vg),sp 33 [(1,AV.ptr 0 0 [] 0),(7,AV.ar 1 0 0),(19,AV.ar 2 0 (List.length (lW (jO e1.1 e1.2)))),(20,AV.int (↑(List.length (lW (jO e1.1 e1.2))):Int)),
 (21,AV.int 0)] [Obj.box 25 z2,Obj.row 41 [],Obj.row 38 (lW (jO e1.1 e1.2))]=N8 e0/\DH e0/\K (AV.bp [AV.ar 0 0 (List.length (List.map (Ex e0.ds e0.rs) (jO
 e0.ds e0.rs))),AV.int 0]) [Obj.row 41 (List.map (Ex e0.ds e0.rs) (jO e0.ds e0.rs))]) (aC (Prod.snd (s8 e1.1 e1.2) != (0:Int)) (K (AV.bp [AV.nil,AV.int
 (Prod.snd (s8 e1.1 e1.2))]) []) (ah z1 12 6=ah z1 12 6/\∃(e0:Vg),sp 33 [(1,AV.ptr 0 0 [] 0),(7,AV.ar 1 0 0),(19,AV.nil),(20,AV.int 0),(21,AV.int
 0)] [Obj.box 25 z2,Obj.row 41 []]=N8 e0/\DH e0/\K (AV.bp [AV.ar 0 0 (List.length (List.map (Ex e0.ds e0.rs) (jO e0.ds e0.rs))),AV.int 0]) [Obj.row 41
 (List.map (Ex e0.ds e0.rs) (jO e0.ds e0.rs))]))):=by kernel_rfl
noncomputable def hJ(ds rs:List AV):List AV:=(jO ds rs).map (Ex ds rs)
def RT(x:sm):List AV×List Dn.Obj:=([gS x.1 x.2],[])
def EN(x:sm):Prop:=eX x.1 x.2
noncomputable def Qs(x:sm):Out (AV×List Dn.Obj):= .aC (decide ((s8 x.1 x.2).2=0))
 (.one (.bp [.ar 0 0 (hJ x.1 x.2).length, .int 0],[.row 41 (hJ x.1 x.2)]))
 (.one (.bp [.nil, .int (s8 x.1 x.2).2],[]))
theorem cZo(κ:Kp):bz (Xq κ).E 12 12 (aR RT EN Qs):=by
 refine bg ?_
 rintro⟨ds,rs⟩ K hs ho
 refine Eq.mpr (yZo κ ds rs K) ?_
 have hs:eX ds rs:=hs
 simp only[Qs,Out.run,af,aa2,aa4] at ho
 refine⟨(ds,rs),rfl,hs,?_⟩
 rw[af,aa2,aa4]
 refine⟨fun e=>⟨rfl,⟨ds,rs,0⟩,rfl,⟨⟨hs,Nw e⟩,Nat.zero_le _⟩,ho.1 e⟩,fun e=>?_⟩
 rw[af]
 exact⟨fun _=>ho.2 e,fun e2=>absurd (by simpa using e2) e⟩
noncomputable def Yn(κ:Kp):EB:=(Xq κ).call (cZo κ)
theorem XJ(κ:Kp)(K:AV->List Dn.Obj->Prop):(bf (Yn κ).E 12 25 [] [] K)=(
 K (AV.agg [AV.ad 61 [AV.agg [AV.str {data:= #[OfNat.ofNat 101]},AV.ad 9 [AV.str {data:= #[OfNat.ofNat 97]},AV.str {data:= #[OfNat.ofNat 98]}],AV.ad 3 [AV.int 1,AV.int 1],AV.bool false,AV.bool false,AV.int 0],AV.agg [AV.str {data:= #[OfNat.ofNat 112]},AV.ad 9 [AV.str {data:= #[OfNat.ofNat 97]},AV.str {data:= #[OfNat.ofNat 98]}],AV.ad 3 [AV.int 1,AV.int 1],AV.bool false,AV.bool false,AV.int 0]],AV.ad 66 [AV.agg [AV.agg [AV.str {data:= #[OfNat.ofNat 112]},AV.ad 56 [AV.agg [AV.int 1,AV.str {data:= #[OfNat.ofNat 120]},AV.int 0,AV.ad 56 []],AV.agg [AV.int 1,AV.str {data:= #[OfNat.ofNat 121]},AV.int 0,AV.ad 56 []]]],AV.ad 72 [AV.agg [AV.int 1,AV.agg [AV.str {data:= #[OfNat.ofNat 101]},AV.ad 56 [AV.agg [AV.int 1,AV.str {data:= #[OfNat.ofNat 120]},AV.int 0,AV.ad 56 []],AV.agg [AV.int 1,AV.str {data:= #[OfNat.ofNat 121]},AV.int 0,AV.ad 56 []]]],AV.agg [AV.int 0,AV.str {data:= #[]},AV.int 0,AV.nil],AV.agg [AV.int 0,AV.str {data:= #[]},AV.int 0,AV.nil]]],AV.int 0],AV.agg [AV.agg [AV.str {data:= #[OfNat.ofNat 112]},AV.ad 56 [AV.agg [AV.int 1,AV.str {data:= #[OfNat.ofNat 120]},AV.int 0,AV.ad 56 []],AV.agg [AV.int 1,AV.str {data:= #[OfNat.ofNat 122]},AV.int 0,AV.ad 56 []]]],AV.ad 72 [AV.agg [AV.int 1,AV.agg [AV.str {data:= #[OfNat.ofNat 112]},AV.ad 56 [AV.agg [AV.int 1,AV.str {data:= #[OfNat.ofNat 120]},AV.int 0,AV.ad 56 []],AV.agg [AV.int 1,AV.str {data:= #[OfNat.ofNat 121]},AV.int 0,AV.ad 56 []]]],AV.agg [AV.int 0,AV.str {data:= #[]},AV.int 0,AV.nil],AV.agg [AV.int 0,AV.str {data:= #[]},AV.int 0,AV.nil]],AV.agg [AV.int 1,AV.agg [AV.str {data:= #[OfNat.ofNat 112]},AV.ad 56 [AV.agg [AV.int 1,AV.str {data:= #[OfNat.ofNat 121]},AV.int 0,AV.ad 56 []],AV.agg [AV.int 1,AV.str {data:= #[OfNat.ofNat 122]},AV.int 0,AV.ad 56 []]]],AV.agg [AV.int 0,AV.str {data:= #[]},AV.int 0,AV.nil],AV.agg [AV.int 0,AV.str {data:= #[]},AV.int 0,AV.nil]]],AV.int 0]]]) []):=by kernel_rfl
def bE:ByteArray:=⟨#[101]⟩
def bA:ByteArray:=⟨#[97]⟩
def bB:ByteArray:=⟨#[98]⟩
def bP:ByteArray:=⟨#[112]⟩
def bX:ByteArray:=⟨#[120]⟩
def bY:ByteArray:=⟨#[121]⟩
def bZ:ByteArray:=⟨#[122]⟩
abbrev RJ(s:ByteArray):AV:= .agg [.int 1, .lit (.string s), .int 0, .ad 56 []]
abbrev XT:AV:= .agg [.int 0, .lit (.string s0), .int 0, .nil]
def Qr(s:ByteArray):AV:= .agg [.lit (.string s), .ad 9 [.lit (.string bA), .lit (.string bB)], .ad 3 [.int 1, .int 1], .bool false, .bool false, .int 0]
abbrev Xg(r s t:ByteArray):AV:= .agg [.int 1, .agg [.lit (.string r), .ad 56 [RJ s,RJ t]],XT,XT]
def sG:List AV:=[Qr bE,Qr bP]
def Uu:cq:=⟨[],[],bP,[RJ bX,RJ bY],[Xg bE bX bY],0,0⟩
def Uo:cq:=⟨[],[],bP,[RJ bX,RJ bZ],[Xg bP bX bY,Xg bP bY bZ],0,0⟩
def tp:List AV:=[aq Uu,aq Uo]
def UE:List AV->Option (Bool×AV)
 |[]=>some (true, .agg [.ad 61 sG, .ad 66 tp])
 |_=>none
theorem YM(κ:Kp):qq (Yn κ).E 12 25 UE:=by
 intro args x hh
 unfold UE at hh
 split at hh
 ·simp only[aa5,ab1,true_and] at hh
  subst hh
  exact⟨rfl,Eq.mpr (XJ κ _) rfl⟩
 ·cases hh
noncomputable def XQ(κ:Kp):EB:=(Yn κ).fresh (YM κ)
theorem Yi(κ:Kp)(K:AV->List Dn.Obj->Prop):(bf (XQ κ).E 12 10 [] [] K)=(
 letI z1:=K (AV.bool false) []
 ∃(e0:sm),([AV.agg [AV.ad 61 [AV.agg [AV.str bE,AV.ad 9 [AV.str bA,AV.str bB],AV.ad 3 [AV.int 1,AV.int 1],AV.bool false,AV.bool false,AV.int 0],
 AV.agg [AV.str bP,AV.ad 9 [AV.str bA,AV.str bB],AV.ad 3 [AV.int 1,AV.int 1],AV.bool false,AV.bool false,AV.int 0]],AV.ad 66 [AV.agg [AV.agg [AV.str
 Uu.rel,AV.ad 56 [AV.agg [AV.int 1,AV.str bX,AV.int 0,AV.ad 56 []],AV.agg [AV.int 1,AV.str bY,AV.int 0,AV.ad 56 []]]],AV.ad 72 [AV.agg [AV.int 1,AV.agg
 [AV.str bE,AV.ad 56 [AV.agg [AV.int 1,AV.str bX,AV.int 0,AV.ad 56 []],AV.agg [AV.int 1,AV.str bY,AV.int 0,AV.ad 56 []]]],AV.agg [AV.int 0,AV.str s0,
 AV.int 0,AV.nil],AV.agg [AV.int 0,AV.str s0,AV.int 0,AV.nil]]],AV.int 0],AV.agg [AV.agg [AV.str Uo.rel,AV.ad 56 [AV.agg [AV.int 1,AV.str bX,AV.int 0,
 AV.ad 56 []],AV.agg [AV.int 1,AV.str bZ,AV.int 0,AV.ad 56 []]]],AV.ad 72 [AV.agg [AV.int 1,AV.agg [AV.str bP,AV.ad 56 [AV.agg [AV.int 1,AV.str bX,
 AV.int 0,AV.ad 56 []],AV.agg [AV.int 1,AV.str bY,AV.int 0,AV.ad 56 []]]],AV.agg [AV.int 0,AV.str s0,AV.int 0,AV.nil],AV.agg [AV.int 0,AV.str s0,
 AV.int 0,AV.nil]],AV.agg [AV.int 1,AV.agg [AV.str bP,AV.ad 56 [AV.agg [AV.int 1,AV.str bY,AV.int 0,AV.ad 56 []],AV.agg [AV.int 1,AV.str bZ,AV.int 0,
 AV.ad 56 []]]],AV.agg [AV.int 0,AV.str s0,AV.int 0,AV.nil],AV.agg [AV.int 0,AV.str s0,AV.int 0,AV.nil]]],AV.int 0]]]],[])=RT e0/\EN e0/\aC (decide
 (Prod.snd (s8 e0.1 e0.2)=(0:Int))) (aC ((↑(List.length (hJ e0.1 e0.2)):Int) != (2:Int)) z1 (ba (true&&decide ((1:Int)<(↑(List.length (hJ e0.1
 e0.2)):Int))) (aC ((↑(List.length (ai (ae (nth (hJ e0.1 e0.2) 1) 1))):Int) != (1:Int)) z1 (ba (true&&decide ((1:Int)<(↑(List.length (hJ e0.1 e0.2))
 :Int))) (aC ((↑(List.length (ai (ae (nth (hJ e0.1 e0.2) 1) 2))):Int) != (2:Int)) z1 (ba (true&&decide ((1:Int)<(↑(List.length (hJ e0.1 e0.2)):
 Int))) (ba (true&&decide ((0:Int)<(↑(List.length (ai (ae (nth (hJ e0.1 e0.2) 1) 1))):Int))) (aC (toInt (ae (nth (ai (ae (nth (hJ e0.1 e0.2) 1) 1)) 0) 3)
 ==(-1:Int)) (ba (true&&decide ((1:Int)<(↑(List.length (hJ e0.1 e0.2)):Int))) (ba (true&&decide ((0:Int)<(↑(List.length (ai (ae (nth (hJ e0.1
 e0.2) 1) 2))):Int))) (aC (toInt (ae (nth (ai (ae (nth (hJ e0.1 e0.2) 1) 2)) 0) 3)==(0:Int)) (ba (true&&decide ((1:Int)<(↑(List.length (hJ e0.1
 e0.2)):Int))) (ba (true&&decide ((1:Int)<(↑(List.length (ai (ae (nth (hJ e0.1 e0.2) 1) 2))):Int))) (K (AV.bool (toInt (ae (nth (ai (ae (nth (hJ e0.1
 e0.2) 1) 2)) 1) 3)==(1:Int))) []))) z1))) z1)))))))) (aC (Prod.snd (s8 e0.1 e0.2) != (0:Int)) z1 z1)):=by kernel_rfl
def Im:Rl:=⟨⟨bP,[tv bX,tv bY]⟩,[⟨1,⟨bE,[tv bX,tv bY]⟩,t0,t0⟩]⟩
def HP:Rl:=⟨⟨bP,[tv bX,tv bZ]⟩,[⟨1,⟨bP,[tv bX,tv bY]⟩,t0,t0⟩,⟨1,⟨bP,[tv bY,tv bZ]⟩,t0,t0⟩]⟩
theorem MX(s:ByteArray):cx (RJ s)=tv s:=by rw[iU];rfl
theorem JJ:cx XT=t0:=by rw[cz];rfl
theorem EP:aH Uu=Im:=by
 simp only[aH,Uu,Im,aa,di,ac2,ac3,MX,cU,DQ,ae,nth,JJ,ai,toInt,toStr]
theorem Ej:aH Uo=HP:=by
 simp only[aH,Uo,HP,aa,di,ac2,ac3,MX,cU,DQ,ae,nth,JJ,ai,toInt,toStr]
theorem RC:isName bE=true:=iv _ (by decide+kernel) (by decide+kernel) (by decide+kernel)
theorem YD:isName bA=true:=iv _ (by decide+kernel) (by decide+kernel) (by decide+kernel)
theorem WZ:isName bB=true:=iv _ (by decide+kernel) (by decide+kernel) (by decide+kernel)
theorem IS:isName bP=true:=iv _ (by decide+kernel) (by decide+kernel) (by decide+kernel)
theorem OG:isName bX=true:=iv _ (by decide+kernel) (by decide+kernel) (by decide+kernel)
theorem Np:isName bY=true:=iv _ (by decide+kernel) (by decide+kernel) (by decide+kernel)
theorem S5:isName bZ=true:=iv _ (by decide+kernel) (by decide+kernel) (by decide+kernel)
theorem vf(r s t:ByteArray)(hr:isName r=true)(hs:isName s=true)(ht:isName t=true):bq ⟨r,[tv s,tv t]⟩=true:=by
 simp[bq,hr,uo 19 s hs,uo 19 t ht]
theorem wS(r s t:ByteArray)(hr:isName r=true)(hs:isName s=true)(ht:isName t=true):iV ⟨1,⟨r,[tv s,tv t]⟩,t0,t0⟩=true:=by
 simp[iV,vf r s t hr hs ht,Lz]
theorem wj:aQ Im=true:=by
 simp[aQ,Im,vf bP bX bY IS OG Np,wS bE bX bY RC OG Np,uU]
theorem vL:aQ HP=true:=by
 simp[aQ,HP,vf bP bX bZ IS OG S5,wS bP bX bY IS OG Np,wS bP bY bZ IS Np S5,uU]
theorem Ov(s:ByteArray)(h:isName s=true):u5 (Qr s)=true:=by
 have:yW [.lit (.string bA), .lit (.string bB)] [.int 1, .int 1]=true:=by
  simp only[yW,toStr,YD,WZ];rfl
 unfold u5 BU
 simp only[Qr,ae,nth,toStr,ai,h,this]
 rfl
theorem Hq:fc sG tp=true:=by
 have e1:u5 (Qr bE)=true:=Ov _ RC
 have e2:u5 (Qr bP)=true:=Ov _ IS
 have e3:lR (aq Uu)=true:=(congrArg aQ EP).trans wj
 have e4:lR (aq Uo)=true:=(congrArg aQ Ej).trans vL
 simp only[fc,sG,tp,List.all_cons,List.all_nil,e1,e2,e3,e4];rfl
theorem LC:(pH (cQ sG) Im).1=0:=by
 have:dc Im=[bX,bY]:=by unfold dc;rw[wj,aa9];decide+kernel
 unfold pH
 rw[this]
 decide+kernel
theorem MF:(pH (cQ sG) HP).1=0:=by
 have:dc HP=[bX,bZ,bY]:=by unfold dc;rw[vL,aa9];decide+kernel
 unfold pH
 rw[this]
 decide+kernel
theorem of_B{x:cq}{r:Rl}(hr:aH x=r)(h:aQ r=true)(h2:iP r=true)(h3:aq (dW (aq x))=aq x)(h4:aH (dW (aq x))=aH x)(h5:(pH (cQ sG) r).1=0):jN sG (aq x)=0/\jo (aq x)=0:=by
 constructor
 ·have hR:fc sG [aq x]=true:=by
   have e1:u5 (Qr bE)=true:=Ov _ RC
   have e2:u5 (Qr bP)=true:=Ov _ IS
   have e3:lR (aq x)=true:=(congrArg aQ hr).trans h
   simp only[fc,sG,List.all_cons,List.all_nil,e1,e2,e3];rfl
  unfold jN sa
  rw[h3,hR,aa9]
  simp only[h4,hr]
  exact h5
 ·unfold jo vR
  rw[h4,hr,h,h2];rfl
theorem Tn:(ft sG tp).2=0:=by
 have h1:=of_B EP wj (by decide+kernel) rfl rfl LC
 have h2:=of_B Ej vL (by decide+kernel) rfl rfl MF
 refine zR.2 ⟨Hq,by decide+kernel,fun y hy=>?_,fun y hy=>?_⟩
 ·rcases List.mem_cons.1 hy with rfl|hy
  ·exact h1.1
  ·obtain rfl:=List.mem_singleton.1 hy
   exact h2.1
 ·rcases List.mem_cons.1 hy with rfl|hy
  ·exact h1.2
  ·obtain rfl:=List.mem_singleton.1 hy
   exact h2.2
theorem Hx{x:cq}{r:Rl}(hr:aH x=r)(h5:(dW (aq x)).hl=x.hl/\(dW (aq x)).bl=x.bl)(hc:n9 r<=100000)(hl:x.bl.length<=100000):df (dW (aq x)):=by
 refine⟨?_,by rw[h5.2];exact hl⟩
 rw[h5.1,h5.2]
 have:=lj 56 x.rel x.hl x.bl
 rw[show(⟨⟨x.rel,aa x.hl⟩,di x.bl⟩:Rl)=aH x from rfl,hr] at this
 rw[this];exact hc
theorem RX:eX sG tp:=by
 refine⟨by decide,by decide,fun y hy=>?_⟩
 rcases List.mem_cons.1 hy with rfl|hy
 ·exact Hx EP ⟨rfl,rfl⟩ (by decide) (by decide)
 ·obtain rfl:=List.mem_singleton.1 hy
  exact Hx Ej ⟨rfl,rfl⟩ (by decide) (by decide)
theorem QP:(xj sG tp [1] tp).map QD.delta=[-1]:=by decide+kernel
theorem Si:(xh sG tp [1] tp).map QD.delta=[0,1]:=by decide+kernel
theorem Tz:jO sG tp=[[0],[1]]:=by decide+kernel
theorem Xv:(xm sG.length (jm sG tp) (oN sG tp) sG tp).2=0:=by decide+kernel
theorem XD:(s8 sG tp).2=0:=Q4.2 ⟨Tn,Xv⟩
theorem UG: ∃r1 s1 o1 r2 s2 o2 r3 s3 o3,hJ sG tp=[Ex sG tp [0], .agg [.ad 3 (iA [1]), .ad 45 [qA ⟨r1,s1,o1, -1⟩], .ad 45 [qA ⟨r2,s2,o2,0⟩,qA ⟨r3,s3,o3,1⟩]]]:=by
 have h1:=QP
 have h2:=Si
 rw[hJ,Tz,ac2,ac2,ac3]
 rw[show Ex sG tp [1]= .agg [.ad 3 (iA [1]), .ad 45 ((xj sG tp [1] tp).map qA), .ad 45 ((xh sG tp [1] tp).map qA)] from rfl]
 generalize xj sG tp [1] tp=l at h1
 generalize xh sG tp [1] tp=m at h2
 match l,m,h1,h2 with
 |[⟨r1,s1,o1,d1⟩],[⟨r2,s2,o2,d2⟩,⟨r3,s3,o3,d3⟩],h1,h2=>
  simp only[ac2,ac3,List.cons.injEq,and_true] at h1 h2
  obtain rfl:=h1
  obtain⟨rfl,rfl⟩:=h2
  exact⟨r1,s1,o1,r2,s2,o2,r3,s3,o3,rfl⟩
def UC:List AV->Option (Bool×AV)
 |[]=>some (true, .bool true)
 |_=>none
theorem YQ(κ:Kp):cy (XQ κ).E 12 10 UC:=by
 intro args x hh
 unfold UC at hh
 split at hh
 ·simp only[aa5,ab1,true_and] at hh
  subst hh
  refine⟨_,rfl,rfl,?_⟩
  refine Eq.mpr (Yi κ _) ?_
  refine⟨(sG,tp),rfl,RX,?_⟩
  simp only[XD]
  obtain⟨r1,s1,o1,r2,s2,o2,r3,s3,o3,h⟩:=UG
  simp only[h]
  rfl
 ·cases hh
noncomputable def RQ(κ:Kp):EB:=(XQ κ).pure (YQ κ)
structure Ui where
 ds:List AV
 rs:List AV
 i:Nat
 n:Nat
 k:Nat
abbrev Sh(x:Ui):S:=sp 91 [(1, .ad 73 []),(2, .ptr 0 0 [] 0),(5, .int x.i),(6, .int x.n),(7, .int x.k)] [.box 25 (gS x.ds x.rs)]
theorem xLk(κ:Kp)(x:Ui)(I:Nat->S->Prop)(n:Nat)(K:Exit->S->Prop):(vc (RQ κ).E 12 11 none 0 (ah (Pr κ).toProgram 11 8) (Sh x) (bL (RQ κ).E 11 8 0 I n K))=(
 letI z1:=ai (ae (nth x.rs (Int.toNat (↑(x.i):Int))) 1)
 letI z2:=AV.agg [AV.ad 61 x.ds,AV.ad 66 x.rs]
 letI z3:=true&&decide ((↑(x.i):Int)<(↑(x.rs.length):Int))
 letI z4:=IntKind.wrap IntKind.i64 ((↑(x.k):Int)+(1:Int))
 letI z5:=(↑(x.k):Int)<(↑(List.length z1):Int)
 ba z3 (aC (decide z5) (ba z3 (ba (true&&decide z5) (aC (toInt (ae (nth z1 (Int.toNat (↑(x.k):Int))) 0)==(1:Int)) (∃(e0:Nat),e0<n/\I e0 (sp 91
 [(1,AV.ad 73 []),(2,AV.ptr 0 0 [] 0),(5,AV.int (↑(x.i):Int)),(6,AV.int (IntKind.wrap IntKind.i64 ((↑(x.n):Int)+(1:Int)))),(7,AV.int z4)]
 [Obj.box 25 z2])) (∃(e0:Nat),e0<n/\I e0 (sp 91 [(1,AV.ad 73 []),(2,AV.ptr 0 0 [] 0),(5,AV.int (↑(x.i):Int)),(6,AV.int (↑(x.n):Int)),(7,
 AV.int z4)] [Obj.box 25 z2]))))) (K (Exit.exit 2) (sp 91 [(1,AV.ad 73 []),(2,AV.ptr 0 0 [] 0),(5,AV.int (↑(x.i):Int)),(6,AV.int (↑(x.n):Int))]
 [Obj.box 25 z2])))):=by kernel_rfl
def yj(l:List AV):Nat:=(l.filter fun x=>toInt (ae x 0)==1).length
def MG(x:Ui):Prop:=x.i<x.rs.length/\x.k<=(ai (ae (nth x.rs x.i) 1)).length/\(ai (ae (nth x.rs x.i) 1)).length<=100000/\x.n<=x.k
def Ll(x:Ui):Out (Exit×S):= .one (.exit 2,sp 91 [(1, .ad 73 []),(2, .ptr 0 0 [] 0),(5, .int x.i),(6, .int (x.n+yj ((ai (ae (nth x.rs x.i) 1)).drop x.k):Nat))] [.box 25 (gS x.ds x.rs)])
theorem lLk(κ:Kp):bk (RQ κ).E 12 11 8 (aP 0 Sh MG Ll):=by
 refine aL (fun x=>(ai (ae (nth x.rs x.i) 1)).length - x.k) ?_
 rintro⟨ds,rs,i,n,k⟩ K ⟨h1,h2,h3,h4⟩ ho
 simp only at h1 h2 h3 h4
 rw[show(RQ κ).E.P=Pr κ from rfl]
 refine Eq.mpr (xLk κ ⟨ds,rs,i,n,k⟩ _ _ K) ?_
 simp only[Int.toNat_natCast]
 refine an.2 ⟨by simp;omega,?_⟩
 rw[af,aa2,aa4]
 simp only[Ll,Out.run] at ho
 refine⟨fun h=>an.2 ⟨by simp;omega,an.2 ⟨by simp;omega,?_⟩⟩,fun h=>?_⟩
 ·have hk:k<(ai (ae (nth rs i) 1)).length:=by omega
  rw[aW (n:=(k:Int)+1) (by omega) (by omega),aW (n:=(n:Int)+1) (by omega) (by omega)]
  have hd:yj ((ai (ae (nth rs i) 1)).drop k)=(bif toInt (ae (nth (ai (ae (nth rs i) 1)) k) 0)==1 then 1 else 0)+yj ((ai (ae (nth rs i) 1)).drop (k+1)):=by
   rw[ab3 hk,←aZ _ k hk]
   unfold yj
   rw[List.filter_cons]
   cases toInt (ae (nth (ai (ae (nth rs i) 1)) k) 0)==1 with
   |true=>simp;omega
   |false=>simp
  rw[hd] at ho
  rw[af]
  refine⟨fun e=>?_,fun e=>?_⟩
  ·rw[e,aa9] at ho
   refine⟨_,?_,⟨ds,rs,i,n+1,k+1⟩,rfl,⟨h1,hk,h3,by simp only;omega⟩,rfl,?_⟩
   ·simp only;omega
   ·simp only[Ll,Out.run]
    rw[Nat.add_assoc];exact ho
  ·rw[e,aa7,Nat.zero_add] at ho
   refine⟨_,?_,⟨ds,rs,i,n,k+1⟩,rfl,⟨h1,hk,h3,by simp only;omega⟩,rfl,ho⟩
   simp only;omega
 ·rw[ab0 (by omega)] at ho
  exact ho
noncomputable def QH(κ:Kp):EB:=(RQ κ).loop (lLk κ)
abbrev Uz(ds rs:List AV)(i:Nat):S:=sp 91 [(1, .ad 73 []),(2, .ptr 0 0 [] 0),(5, .int i)] [.box 25 (gS ds rs)]
theorem xLr(κ:Kp)(ds rs:List AV)(i:Nat)(I:Nat->S->Prop)(n:Nat)(K:Exit->S->Prop):(vc (QH κ).E 12 11 none 0 (ah (Pr κ).toProgram 11 4) (Uz ds rs i) (bL (QH κ).E 11 4 0 I n K))=(
 letI z1:=Pg.toProgram (Env.P (EB.E (RQ κ)))
 aC (decide ((↑i:Int)<(↑(rs.length):Int))) (ah z1 11 8=ah z1 11 8/\∃(e1:Ui),sp 91 [(1,AV.ad 73 []),(2,AV.ptr 0 0 [] 0),(5,AV.int (↑i:Int)),
 (6,AV.int 0),(7,AV.int 0)] [Obj.box 25 (AV.agg [AV.ad 61 ds,AV.ad 66 rs])]=Sh e1/\MG e1/\aC (decide ((↑(e1.n+yj (List.drop e1.k (ai (ae (nth e1.rs
 e1.i) 1)))):Int)>(3:Int))) (K Exit.ret (sp 91 [(4,AV.int 0)] [])) (∃(e0:Nat),e0<n/\I e0 (sp 91 [(1,AV.ad 73 []),(2,AV.ptr 0 0 [] 0),(5,AV.int
 (IntKind.wrap IntKind.i64 ((↑(e1.i):Int)+(1:Int))))] [Obj.box 25 (AV.agg [AV.ad 61 e1.ds,AV.ad 66 e1.rs])]))) (K (Exit.exit 0) (sp 91 [(1,AV.ad 73 [])]
 []))):=by kernel_rfl
def VU(r:AV):Bool:=decide (yj (ai (ae r 1))<=3)
structure Wf where
 ds:List AV
 rs:List AV
 i:Nat
abbrev Qy(x:Wf):S:=Uz x.ds x.rs x.i
def KF(x:Wf):Prop:=x.i<=x.rs.length/\x.rs.length<=100000/\∀r,r∈x.rs->(ai (ae r 1)).length<=100000
def MA(x:Wf):Out (Exit×S):= .aC ((x.rs.drop x.i).all VU) (.one (.exit 0,sp 91 [(1, .ad 73 [])] [])) (.one (.ret,sp 91 [(4, .int 0)] []))
theorem lLr(κ:Kp):bk (QH κ).E 12 11 4 (aP 0 Qy KF MA):=by
 refine aL (fun x=>x.rs.length - x.i) ?_
 rintro⟨ds,rs,i⟩ K ⟨h1,h2,h3⟩ ho
 simp only at h1 h2 h3
 rw[show(QH κ).E.P=Pr κ from rfl]
 refine Eq.mpr (xLr κ ds rs i _ _ K) ?_
 simp only[MA,Out.run,af] at ho
 rw[af,aa2,aa4]
 refine⟨fun h=>?_,fun h=>?_⟩
 ·have hk:i<rs.length:=by omega
  have hx:nth rs i∈rs:=by rw[aZ _ _ hk];exact List.getElem_mem _
  rw[ab3 hk,←aZ _ i hk,List.all_cons] at ho
  refine⟨rfl,⟨ds,rs,i,0,0⟩,rfl,⟨hk,Nat.zero_le _,h3 _ hx,Nat.le_refl _⟩,?_⟩
  simp only[ab2,Nat.zero_add]
  rw[aW (n:=(i:Int)+1) (by omega) (by omega),af,aa2,aa4]
  refine⟨fun e=>ho.2 ?_,fun e=>⟨_,?_,⟨ds,rs,i+1⟩,rfl,⟨hk,h2,h3⟩,rfl,?_⟩⟩
  ·rw[show VU (nth rs i)=false from aa6 (by omega),Bool.false_and]
  ·simp only;omega
  ·simp only[MA,Out.run,af]
   rw[show VU (nth rs i)=true from aa8 (by omega),ac1] at ho
   exact ho
 ·rw[ab0 (by omega)] at ho
  exact ho.1 rfl
noncomputable def QY(κ:Kp):EB:=(QH κ).loop (lLr κ)
theorem xLw(κ:Kp)(I:Nat->S->Prop)(n:Nat)(K:Exit->S->Prop):(vc (QY κ).E 12 11 none 0 (ah (Pr κ).toProgram 11 16) (sp 91 [(1, .ad 73 []),(8, .int 0),(9, .int 0)] []) (bL (QY κ).E 11 16 0 I n K))=(
 K (Exit.exit 4) (sp 91 [] [])):=by kernel_rfl
abbrev UY(_:Unit):S:=sp 91 [(1, .ad 73 []),(8, .int 0),(9, .int 0)] []
def VF(_:Unit):Out (Exit×S):= .one (.exit 4,sp 91 [] [])
theorem lLw(κ:Kp):bk (QY κ).E 12 11 16 (aP 0 UY (fun _=>True) VF):=by
 refine aL (fun _=>0) ?_
 rintro⟨⟩ K _ ho
 rw[show(QY κ).E.P=Pr κ from rfl]
 exact Eq.mpr (xLw κ _ _ K) ho
noncomputable def W8(κ:Kp):EB:=(QY κ).loop (lLw κ)
theorem yLw(κ:Kp)(ds rs:List AV)(K:AV->List Dn.Obj->Prop):(bf (W8 κ).E 12 11 [gS ds rs, .ad 73 []] [] K)=(
 letI z1:=Pg.toProgram (Env.P (EB.E (QH κ)))
 letI z2:=Pg.toProgram (Env.P (EB.E (QY κ)))
 ba (decide (ds.length<=9223372036854775807)&&List.all ds fun(e0:AV)=>decide (List.length (ai (ae e0 1))<=9223372036854775807)) (aC ((bif jV ds rs then
 (1:Int) else(0:Int))==(0:Int)) (K (AV.int 0) []) (aC (decide ((↑(rs.length):Int)>(8:Int))) (K (AV.int 0) []) (ah z1 11 4=ah z1 11 4/\∃(e1:
 Wf),sp 91 [(1,AV.ad 73 []),(2,AV.ptr 0 0 [] 0),(5,AV.int 0)] [Obj.box 25 (AV.agg [AV.ad 61 ds,AV.ad 66 rs])]=Qy e1/\KF e1/\aC (List.all (List.drop
 e1.i e1.rs) VU) (ah z2 11 16=ah z2 11 16/\∃(e0:Unit),sp 91 [(1,AV.ad 73 []),(8,AV.int 0),(9,AV.int 0)] []=UY e0/\True/\K (AV.int 1) []) (K
 (AV.int 0) []))))):=by kernel_rfl
def sl(ds rs:List AV):Bool:=jV ds rs&&(decide (rs.length<=8)&&rs.all VU)
def ZT:List AV->Option (Bool×AV)
 |[.agg [.ad 61 ds, .ad 66 rs], .ad 73 []]=>some (decide (ds.length<=aM)&&ds.all (fun d=>decide ((ai (ae d 1)).length<=aM)), .int (bif sl ds rs then 1 else 0))
 |_=>none
theorem pLw(κ:Kp):cy (W8 κ).E 12 11 ZT:=by
 intro args x hh
 unfold ZT at hh
 split at hh
 ·rename_i ds rs
  simp only[aa5,ab1] at hh
  obtain⟨h1,rfl⟩:=hh
  refine⟨_,rfl,rfl,?_⟩
  refine Eq.mpr (yLw κ ds rs _) ?_
  refine an.2 ⟨h1,?_⟩
  unfold sl
  cases hs:jV ds rs with
  |false=>exact rfl
  | true=>
   rw[ac1]
   refine af.2 ⟨fun e=>absurd e (by decide),fun _=>?_⟩
   rw[af,aa2,aa4]
   refine⟨fun e=>?_,fun e=>⟨rfl,⟨ds,rs,0⟩,rfl,⟨Nat.zero_le _,by show rs.length<=100000;omega,fun r hr=>(tc hs).2.2 r hr|>.2⟩,?_⟩⟩
   ·rw[aa6 (show ¬ rs.length<=8 by omega)];rfl
   ·rw[aa8 (show rs.length<=8 by omega),ac1,ab2]
    rw[af]
    refine⟨fun e2=>⟨rfl,(),rfl,trivial,?_⟩,fun e2=>?_⟩
    ·rw[e2];rfl
    ·rw[e2];rfl
 ·cases hh
noncomputable def BLi(κ:Kp):EB:=(W8 κ).pure (pLw κ)
structure ALg where
 ds:List AV
 rs:List AV
 i:Nat
theorem mP(ds rs:List AV):(hJ ds rs).length=(jO ds rs).length:=by simp[hJ]
theorem zr(ds rs:List AV)(i:Nat)(h:i<(jO ds rs).length):nth (hJ ds rs) i=Ex ds rs (jO ds rs)[i]:=by
 rw[aZ _ _ (by rw[mP];exact h)]
 simp[hJ]
theorem Fo(l:List AV):iw l l=true:=aa8 rfl
theorem Il{ds rs:List AV}(h1:ds.length<=aM)(h2: ∀d,d∈ds->(ai (ae d 1)).length<=aM){p q:Prop}(hp:p)(hq:jV ds rs=true->rs.length<=8->q):
  ba (decide (ds.length<=aM)&&ds.all fun d=>decide ((ai (ae d 1)).length<=aM)) (aC ((bif sl ds rs then(1:Int) else 0)==0) p q):=by
 refine an.2 ⟨?_,?_⟩
 ·rw[aa3,aa2,List.all_eq_true]
  exact⟨h1,fun d hd=>aa8 (h2 d hd)⟩
 ·cases hs:sl ds rs with
  |false=>exact hp
  |true=>
   simp only[sl,aa3,aa2] at hs
   exact hq hs.1 hs.2.1
end Go.Proofs.YthaiinlfnommnaaGreatDoor
