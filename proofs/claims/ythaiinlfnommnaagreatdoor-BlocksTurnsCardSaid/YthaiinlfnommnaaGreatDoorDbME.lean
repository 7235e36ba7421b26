import Derived.Test.YthaiinlfnommnaaGreatDoorDbMD
import Derived.Test.YthaiinlfnommnaaGreatDoorDbM1
namespace Go.Proofs.YthaiinlfnommnaaGreatDoor
open Go Go.Dn Go.Rl Go.Proofs
attribute [local irreducible] ba vc
set_option maxRecDepth 20000
def I1(ds:List AV)(r:AV):QD:=dS ds (eo r)
def MS(ds rs:List AV)(r:AV):Bool:=yL fB ds.length (iR ds rs) (nv ds rs) ds r
def wT(ds rs:List AV)(g:List Int)(l:List AV):List QD:=Ho (I1 ds) (AF ds) (MS ds rs) g l
def xa(ds rs:List AV)(g:List Int)(l:List AV):List QD:=I2 (I1 ds) (AF ds) (MS ds rs) g l
theorem F3(mk:AV->QD)(hd:AV->Int)(ag:AV->Bool)(g:List Int): ∀l m:List AV,Ho mk hd ag g (l++m)=Ho mk hd ag g l++Ho mk hd ag g m
 |[],_=>rfl
 |r::l,m=>by
  rw[List.cons_append,Ho,Ho,F3 mk hd ag g l m]
  cases(g.contains (hd r)&& !ag r)<;>rfl
theorem GW(mk:AV->QD)(hd:AV->Int)(ag:AV->Bool)(g:List Int): ∀l m:List AV,I2 mk hd ag g (l++m)=I2 mk hd ag g l++I2 mk hd ag g m
 |[],_=>rfl
 |r::l,m=>by
  rw[List.cons_append,I2,I2,GW mk hd ag g l m,List.append_assoc]
theorem zG(mk:AV->QD)(hd:AV->Int)(ag:AV->Bool)(g:List Int): ∀l:List AV,(Ho mk hd ag g l).length<=l.length
 |[]=>Nat.le_refl _
 |r::l=>by
  have:=zG mk hd ag g l
  rw[Ho]
  cases(g.contains (hd r)&& !ag r)
  ·rw[aa6];simp only[List.length_cons];omega
  ·rw[aa8];simp only[List.length_cons];omega
theorem yE(mk:AV->QD)(hd:AV->Int)(ag:AV->Bool)(g:List Int)(n:Nat): ∀l:List AV,(∀r,r∈l->(mk r).steps.length<=n)->(I2 mk hd ag g l).length<=l.length*n
 |[],_=>Nat.zero_le _
 |r::l,h=>by
  have h1:=yE mk hd ag g n l fun r hr=>h r (List.mem_cons_of_mem _ hr)
  have h2:=h r List.mem_cons_self
  have h3:=y0 (mk r) g (mk r).steps 0
  rw[I2,ab9,List.length_cons,Nat.succ_mul]
  cases(g.contains (hd r)&&ag r)
  ·rw[aa6];simp only[List.length_nil];omega
  ·rw[aa8];omega
theorem BF{l:List AV}{i:Nat}(h:i<l.length):l.take (i+1)=l.take i++[nth l i]:=by
 rw[List.take_add_one,ab7 h,bf _ _ h];rfl
theorem N6(ds rs:List AV)(g:List Int){l:List AV}{i:Nat}(h:i<l.length):wT ds rs g (l.take (i+1))=wT ds rs g (l.take i)++bif g.contains (AF ds (nth l i))&& !MS ds rs (nth l i) then[I1 ds (nth l i)] else[]:=by
 rw[wT,BF h,F3];rfl
theorem NO(ds rs:List AV)(g:List Int){l:List AV}{i:Nat}(h:i<l.length):xa ds rs g (l.take (i+1))=xa ds rs g (l.take i)++bif g.contains (AF ds (nth l i))&&MS ds rs (nth l i) then tp (I1 ds (nth l i)) g (I1 ds (nth l i)).steps 0 else[]:=by
 rw[xa,BF h,GW]
 exact congrArg _ (List.append_nil _)
structure V4 where
 ds:List AV
 rs:List AV
 g:List Int
 i:Nat
noncomputable abbrev QZ(x:V4):S:=NL x.ds x.rs (iA x.g) ((wT x.ds x.rs x.g (x.rs.take x.i)).map qA) ((xa x.ds x.rs x.g (x.rs.take x.i)).map qA) x.i
def En(x:V4):Prop:=(fw x.ds x.rs/\(fD x.ds x.rs).2=0/\x.g.length<=60)/\x.i<=x.rs.length
noncomputable def Px(x:V4):Out (Exit×S):= .one (.exit 0,sp 65 [(4, .ptr 0 0 [] 0),(5, .ptr 1 0 [] 0)] [.box 41 (.agg [.nil, .nil, .nil]), .box 41 (.agg [.ad 3 (iA x.g), .aq 2 0 ((wT x.ds x.rs x.g x.rs).map qA).length, .aq 3 0 ((xa x.ds x.rs x.g x.rs).map qA).length]), .row 45 ((wT x.ds x.rs x.g x.rs).map qA), .row 45 ((xa x.ds x.rs x.g x.rs).map qA)])
theorem X7{p:Prop}(h:p):(p/\p)/\p:=⟨⟨h,h⟩,h⟩
theorem yS{ds rs:List AV}(hs:fw ds rs)(hc:(fD ds rs).2=0){r:AV}(hr:r∈rs):(I1 ds r).steps.length<=100000:=by
 have h:=yw hs hc hr
 have h1:=oK h.f
 have h2:=h.s.2
 show(jw ds (eo r) (b8 (aF (eo r))).length).length<=100000
 rw[tM,h1];exact h2
theorem UI{ds rs:List AV}(hc:(fD ds rs).2=0){i:Nat}(h:i<rs.length):R0 ds rs i=MS ds rs (nth rs i):=by
 unfold R0
 rw[J4 hc ⟨by omega,by omega⟩ ⟨by omega,by omega⟩]
 rfl
theorem lBk(κ:Kp):bj (QE κ).E 12 28 3 (aO 0 QZ En Px):=by
 refine aK (fun x=>x.rs.length - x.i) ?_
 rintro⟨ds,rs,g,i⟩ K ⟨⟨hs,hc,hg⟩,hi⟩ ho
 simp only at hs hc hg hi
 rw[show(QE κ).E.P=Pr κ from rfl]
 refine Eq.mpr (xBk κ ds rs g ((wT ds rs g (rs.take i)).map qA) ((xa ds rs g (rs.take i)).map qA) i _ _ K) ?_
 have hr:=(jF hc).hr
 rw[ah,aa1,aa3]
 refine⟨fun h=>?_,fun h=>?_⟩
 ·have hk:i<rs.length:=by omega
  have hx:nth rs i∈rs:=by rw[bf _ _ hk];exact List.getElem_mem _
  have hot:=N6 ds rs g hk
  have hlt:=NO ds rs g hk
  have hol:=zG (I1 ds) (AF ds) (MS ds rs) g (rs.take i)
  have hll:=yE (I1 ds) (AF ds) (MS ds rs) g 100000 (rs.take i) fun r h=>yS hs hc (List.mem_of_mem_take h)
  rw[List.length_take] at hol hll
  have hck:wR ds rs i i rs.length=0:=J4 hc ⟨by omega,by omega⟩ ⟨by omega,by omega⟩
  have next: ∀os ls,os=(wT ds rs g (rs.take (i+1))).map qA->ls=(xa ds rs g (rs.take (i+1))).map qA->∃m,m<rs.length - i/\fm QZ En Px (fun x=>x.rs.length - x.i) K m (NL ds rs (iA g) os ls (IntKind.wrap IntKind.i64 ((i:Int)+1))):=by
   rintro _ _ rfl rfl
   rw[aV (n:=(i:Int)+1) (by omega) (by omega)]
   exact⟨_,by simp only;omega,⟨ds,rs,g,i+1⟩,rfl,⟨⟨hs,hc,hg⟩,hk⟩,rfl,ho⟩
  refine an.2 ⟨by simp;omega,(ds,toStr (ae (ae (nth rs i) 0) 0)),rfl,hs.1,an.2 ⟨by rw[aa1,gf];omega,?_⟩⟩
  rw[Dw,ah]
  refine⟨fun e=>?_,fun e=>⟨⟨ds,rs,i⟩,rfl,⟨hs,hck⟩,⟨ds,rs,i⟩,rfl,hs,?_⟩⟩
  ·have e:g.contains (AF ds (nth rs i))=false:=by rw[←Bool.not_eq_true'];exact e
   rw[e,Bool.false_and,aa6,List.append_nil] at hot hlt
   refine next _ _ (by rw[hot]) (by rw[hlt])
  ·have e:g.contains (AF ds (nth rs i))=true:=by rw[←ab3];exact e
   rw[show R0 ds rs ((i:Nat):Int)=MS ds rs (nth rs i) from UI hc hk,ah]
   rw[e,ac0] at hot hlt
   refine⟨fun e2=>X7 ⟨⟨ds,rs,g,(wT ds rs g (rs.take i)).map qA,(xa ds rs g (rs.take i)).map qA,eo (nth rs i),I1 ds (nth rs i)⟩,rfl,⟨yS hs hc hx,hg,?_⟩,?_⟩,fun e2=>?_⟩
   ·simp only[List.length_map]
    have:(xa ds rs g (rs.take i)).length<=min i rs.length*100000:=hll
    omega
   ·rw[e2,Bool.not_true,aa6,List.append_nil] at hot
    rw[e2,aa8] at hlt
    rw[ah]
    refine⟨fun e3=>next _ _ (by rw[hot]) ?_,fun e3=>next _ _ (by rw[hot]) ?_⟩
    ·have e4:tp (I1 ds (nth rs i)) g (I1 ds (nth rs i)).steps 0=[]:=List.isEmpty_iff.1 e3
     rw[hlt,e4,List.append_nil]
    ·rw[hlt,List.map_append];rfl
   ·rw[e2,Bool.not_false,aa8] at hot
    rw[e2,aa6,List.append_nil] at hlt
    refine an.2 ⟨?_,?_⟩
    ·rw[aa1,List.length_map]
     have:(wT ds rs g (rs.take i)).length<=min i rs.length:=hol
     omega
    ·have n1:=next _ _ rfl rfl
     rw[hot,hlt,List.map_append] at n1
     unfold NL at n1
     rw[ab9] at n1
     rw[List.take_length]
     exact n1
 ·obtain rfl:i=rs.length:=by omega
  have ho:K (.exit 0) _:=ho
  simp only[List.take_length]
  exact ho
noncomputable def Xg(κ:Kp):EB:=(QE κ).loop (lBk κ)
theorem yBk(κ:Kp)(ds rs:List AV)(g:List Int)(K:AV->List Dn.Obj->Prop):(ba (Xg κ).E 12 28 [gN ds rs, .ad 3 (iA g)] [] K)=(
 letI z1:=Pg.toProgram (Env.P (EB.E (QE κ)))
 af z1 28 3=af z1 28 3/\∃(e0:V4),sp 65 [(1,AV.ad 3 (iA g)),(2,AV.ptr 0 0 [] 0),(4,AV.ptr 1 0 [] 0),(5,AV.ptr 2 0 [] 0),(17,AV.ad 66 rs),(18,
 AV.int (↑(rs.length):Int)),(19,AV.int 0)] [Obj.box 25 (AV.agg [AV.ad 61 ds,AV.ad 66 rs]),Obj.box 41 (AV.agg [AV.nil,AV.nil,AV.nil]),Obj.box 41 (AV.agg
 [AV.ad 3 (iA g),AV.aq 3 0 0,AV.aq 4 0 0]),Obj.row 45 [],Obj.row 45 []]=QZ e0/\En e0/\K (AV.agg [AV.ad 3 (iA e0.g),AV.ad 45 (List.take (List.length
 (List.map qA (wT e0.ds e0.rs e0.g e0.rs))) (List.drop 0 (List.map qA (wT e0.ds e0.rs e0.g e0.rs)))),AV.ad 45 (List.take (List.length (List.map qA (xa e0.ds
 e0.rs e0.g e0.rs))) (List.drop 0 (List.map qA (xa e0.ds e0.rs e0.g e0.rs))))]) []):=by kernel_rfl
noncomputable def DQ(ds rs:List AV)(g:List Int):AV:= .agg [.ad 3 (iA g), .ad 45 ((wT ds rs g rs).map qA), .ad 45 ((xa ds rs g rs).map qA)]
structure V3 where
 ds:List AV
 rs:List AV
 g:List Int
def S6(x:V3):List AV×List Dn.Obj:=([gN x.ds x.rs, .ad 3 (iA x.g)],[])
def L8(x:V3):Prop:=fw x.ds x.rs/\(fD x.ds x.rs).2=0/\x.g.length<=60
noncomputable def Ul(x:V3):Out (AV×List Dn.Obj):= .one (.agg [.ad 3 (iA x.g), .ad 45 ((wT x.ds x.rs x.g x.rs).map qA), .ad 45 ((xa x.ds x.rs x.g x.rs).map qA)],[])
theorem cBb(κ:Kp):bu (Xg κ).E 12 28 (aL S6 L8 Ul):=by
 refine aX ?_
 rintro⟨ds,rs,g⟩ K hs ho
 refine Eq.mpr (yBk κ ds rs g K) ?_
 refine⟨rfl,⟨ds,rs,g,0⟩,rfl,⟨hs,Nat.zero_le _⟩,?_⟩
 simp only[ab1,List.take_length]
 exact ho
noncomputable def NB(κ:Kp):EB:=((Xg κ).call (cBb κ)).calm [28]
abbrev Qf(ds rs os gs:List AV)(i:Int):S:=sp 33 [(1, .ptr 0 0 [] 0),(7, .aq 1 0 os.length),(19, .aq 2 0 gs.length),(20, .int gs.length),(21, .int i)] [.box 25 (gN ds rs), .row 41 os, .row 38 gs]
theorem xZo(κ:Kp)(ds rs os gs:List AV)(i:Int)(I:Nat->S->Prop)(n:Nat)(K:Exit->S->Prop):(vc (NB κ).E 12 12 none 0 (af (Pr κ).toProgram 12 6) (Qf ds rs os gs i) (bJ (NB κ).E 12 6 0 I n K))=(
 aD (decide (i<(↑(gs.length):Int))) (a7 (decide ((0:Int)<=i)&&decide (i<(↑(gs.length):Int))) (∃(a:V3),([AV.agg [AV.ad 61 ds,AV.ad 66 rs],
 AV.ad 3 (ai (nth gs (0+i.toNat)))],[])=S6 a/\L8 a/\a7 (decide ((os.length+1+1)*73<=70368744177664)) (∃(m:Nat),m<n/\I m (sp 33
 [(1,AV.ptr 0 0 [] 0),(7,AV.aq 1 0 (os.length+1)),(19,AV.aq 2 0 gs.length),(20,AV.int (↑(gs.length):Int)),(21,AV.int (IntKind.wrap IntKind.i64 (i
 +(1:Int))))] [Obj.box 25 (AV.agg [AV.ad 61 ds,AV.ad 66 rs]),Obj.row 41 (List.take os.length os++[AV.agg [AV.ad 3 (iA a.g),AV.ad 45 (List.map qA
 (wT a.ds a.rs a.g a.rs)),AV.ad 45 (List.map qA (xa a.ds a.rs a.g a.rs))]]),Obj.row 38 gs])))) (K (Exit.exit 0) (sp 33 [(7,AV.aq 0 0 os.length)] [Obj.row
 41 os]))):=by kernel_rfl
theorem Bf{n m:Nat}{L:Gr}: ∀(f:Nat) (done:List Int),(sf n m L f done).length<=f
 |0,_=>Nat.le_refl _
 | f+1,done=>by
  rw[sf]
  cases decide (fU n m L done<0) with
  |true=>exact Nat.zero_le _
  |false=>
   have:=Bf (n:=n) (m:=m) (L:=L) f (uk done (gO n m L (fU n m L done)))
   rw[aa6,List.length_cons];omega
theorem CO{n m:Nat}{L:Gr}{g:List Int}: ∀(f:Nat) (done:List Int),g∈sf n m L f done->g.length<=n
 |0,_,h=>by cases h
 | f+1,done,h=>by
  rw[sf] at h
  cases e:decide (fU n m L done<0) with
  |true=>rw[e] at h;cases h
  |false=>
   rw[e,aa6] at h
   rcases List.mem_cons.1 h with rfl|h
   ·exact xK _ _ _ _
   ·exact CO f _ h
theorem FB(ds rs:List AV):(ko ds rs).length<=ds.length+1:=by
 have h1:=Bf (n:=ds.length) (m:=iR ds rs) (L:=nv ds rs) (zD ds.length []+1) []
 have h2:=E4 ds.length []
 exact Nat.le_trans h1 (by omega)
theorem GY{ds rs:List AV}{g:List Int}(h:g∈ko ds rs):g.length<=ds.length:=CO _ _ h
theorem G8{ds rs:List AV}(h:(sF ds rs).2=0):(fD ds rs).2=0:=by
 unfold sF at h
 by_cases e:(fD ds rs).2=0
 ·exact e
 ·rw[aa5 e] at h;exact h
structure Vs where
 ds:List AV
 rs:List AV
 i:Nat
noncomputable abbrev Oc(x:Vs):S:=Qf x.ds x.rs (((ko x.ds x.rs).take x.i).map (DQ x.ds x.rs)) (lK (ko x.ds x.rs)) x.i
def Ff(x:Vs):Prop:=(fw x.ds x.rs/\(fD x.ds x.rs).2=0)/\x.i<=(ko x.ds x.rs).length
noncomputable def TP(x:Vs):Out (Exit×S):= .one (.exit 0,sp 33 [(7, .aq 0 0 ((ko x.ds x.rs).map (DQ x.ds x.rs)).length)] [.row 41 ((ko x.ds x.rs).map (DQ x.ds x.rs))])
theorem lZo(κ:Kp):bj (NB κ).E 12 12 6 (aO 0 Oc Ff TP):=by
 refine aK (fun x=>(ko x.ds x.rs).length - x.i) ?_
 rintro⟨ds,rs,i⟩ K ⟨⟨hs,hc⟩,hi⟩ ho
 simp only at hs hc hi
 rw[show(NB κ).E.P=Pr κ from rfl]
 refine Eq.mpr (xZo κ ds rs (((ko ds rs).take i).map (DQ ds rs)) (lK (ko ds rs)) i _ _ K) ?_
 have hd:=(jF hc).hd
 have hl:=FB ds rs
 rw[tz,ah,aa1,aa3]
 refine⟨fun h=>?_,fun h=>?_⟩
 ·have hk:i<(ko ds rs).length:=by omega
  have hx:(ko ds rs)[i]∈ko ds rs:=List.getElem_mem _
  have hn:nth (lK (ko ds rs)) (0+((i:Nat):Int).toNat)= .ad 3 (iA (ko ds rs)[i]):=by
   rw[Int.toNat_natCast,Nat.zero_add,bf _ _ (by rw[tz];exact hk)]
   simp[lK]
  rw[hn]
  refine an.2 ⟨by simp;omega,⟨ds,rs,(ko ds rs)[i]⟩,rfl,⟨hs,hc,Nat.le_trans (GY hx) hd⟩,an.2 ⟨?_,?_⟩⟩
  ·rw[aa1,List.length_map,List.length_take];omega
  ·have e:((ko ds rs).take (i+1)).map (DQ ds rs)=((ko ds rs).take i).map (DQ ds rs)++[DQ ds rs (ko ds rs)[i]]:=by
    rw[List.take_add_one,ab7 hk,List.map_append];rfl
   refine⟨_,?_,⟨ds,rs,i+1⟩,?_,⟨⟨hs,hc⟩,hk⟩,rfl,ho⟩
   ·simp only;omega
   ·rw[aV (n:=(i:Int)+1) (by omega) (by omega),List.take_length]
    simp only[Oc]
    unfold Qf
    rw[e,ab9,tz]
    rfl
 ·obtain rfl:i=(ko ds rs).length:=by omega
  have ho:K (.exit 0) _:=ho
  simp only[List.take_length]
  exact ho
noncomputable def WL(κ:Kp):EB:=(NB κ).loop (lZo κ)
theorem yZo(κ:Kp)(ds rs:List AV)(K:AV->List Dn.Obj->Prop):(ba (WL κ).E 12 12 [gN ds rs] [] K)=(
 letI z1:=Pg.toProgram (Env.P (EB.E (NB κ)))
 letI z2:=AV.agg [AV.ad 61 ds,AV.ad 66 rs]
 ∃(e1:rr),([AV.agg [AV.ad 61 ds,AV.ad 66 rs]],[])=RO e1/\ET e1/\aD (decide (Prod.snd (sF e1.1 e1.2)=(0:Int))) (af z1 12 6=af z1 12 6/\∃(e0:
 Vs),sp 33 [(1,AV.ptr 0 0 [] 0),(7,AV.aq 1 0 0),(19,AV.aq 2 0 (List.length (lK (ko e1.1 e1.2)))),(20,AV.int (↑(List.length (lK (ko e1.1 e1.2))):Int)),
 (21,AV.int 0)] [Obj.box 25 z2,Obj.row 41 [],Obj.row 38 (lK (ko e1.1 e1.2))]=Oc e0/\Ff e0/\K (AV.bh [AV.aq 0 0 (List.length (List.map (DQ e0.ds e0.rs) (ko
 e0.ds e0.rs))),AV.int 0]) [Obj.row 41 (List.map (DQ e0.ds e0.rs) (ko e0.ds e0.rs))]) (aD (Prod.snd (sF e1.1 e1.2) != (0:Int)) (K (AV.bh [AV.nil,AV.int
 (Prod.snd (sF e1.1 e1.2))]) []) (af z1 12 6=af z1 12 6/\∃(e0:Vs),sp 33 [(1,AV.ptr 0 0 [] 0),(7,AV.aq 1 0 0),(19,AV.nil),(20,AV.int 0),(21,AV.int
 0)] [Obj.box 25 z2,Obj.row 41 []]=Oc e0/\Ff e0/\K (AV.bh [AV.aq 0 0 (List.length (List.map (DQ e0.ds e0.rs) (ko e0.ds e0.rs))),AV.int 0]) [Obj.row 41
 (List.map (DQ e0.ds e0.rs) (ko e0.ds e0.rs))]))):=by kernel_rfl
noncomputable def je(ds rs:List AV):List AV:=(ko ds rs).map (DQ ds rs)
def Qb(x:rr):List AV×List Dn.Obj:=([gN x.1 x.2],[])
def DL(x:rr):Prop:=fw x.1 x.2
noncomputable def Pl(x:rr):Out (AV×List Dn.Obj):= .aD (decide ((sF x.1 x.2).2=0))
 (.one (.bh [.aq 0 0 (je x.1 x.2).length, .int 0],[.row 41 (je x.1 x.2)]))
 (.one (.bh [.nil, .int (sF x.1 x.2).2],[]))
theorem cZo(κ:Kp):bu (WL κ).E 12 12 (aL Qb DL Pl):=by
 refine aX ?_
 rintro⟨ds,rs⟩ K hs ho
 refine Eq.mpr (yZo κ ds rs K) ?_
 have hs:fw ds rs:=hs
 simp only[Pl,Out.run,ah,aa1,aa3] at ho
 refine⟨(ds,rs),rfl,hs,?_⟩
 rw[ah,aa1,aa3]
 refine⟨fun e=>⟨rfl,⟨ds,rs,0⟩,rfl,⟨⟨hs,G8 e⟩,Nat.zero_le _⟩,ho.1 e⟩,fun e=>?_⟩
 rw[ah]
 exact⟨fun _=>ho.2 e,fun e2=>absurd (by simpa using e2) e⟩
noncomputable def V8(κ:Kp):EB:=(WL κ).call (cZo κ)
theorem Xb(κ:Kp)(K:AV->List Dn.Obj->Prop):(ba (V8 κ).E 12 25 [] [] K)=(
 K (AV.agg [AV.ad 61 [AV.agg [AV.str {data:= #[OfNat.ofNat 101]},AV.ad 9 [AV.str {data:= #[OfNat.ofNat 97]},AV.str {data:= #[OfNat.ofNat 98]}],AV.ad 3 [AV.int 1,AV.int 1],AV.bool false,AV.bool false,AV.int 0],AV.agg [AV.str {data:= #[OfNat.ofNat 112]},AV.ad 9 [AV.str {data:= #[OfNat.ofNat 97]},AV.str {data:= #[OfNat.ofNat 98]}],AV.ad 3 [AV.int 1,AV.int 1],AV.bool false,AV.bool false,AV.int 0]],AV.ad 66 [AV.agg [AV.agg [AV.str {data:= #[OfNat.ofNat 112]},AV.ad 56 [AV.agg [AV.int 1,AV.str {data:= #[OfNat.ofNat 120]},AV.int 0,AV.ad 56 []],AV.agg [AV.int 1,AV.str {data:= #[OfNat.ofNat 121]},AV.int 0,AV.ad 56 []]]],AV.ad 72 [AV.agg [AV.int 1,AV.agg [AV.str {data:= #[OfNat.ofNat 101]},AV.ad 56 [AV.agg [AV.int 1,AV.str {data:= #[OfNat.ofNat 120]},AV.int 0,AV.ad 56 []],AV.agg [AV.int 1,AV.str {data:= #[OfNat.ofNat 121]},AV.int 0,AV.ad 56 []]]],AV.agg [AV.int 0,AV.str {data:= #[]},AV.int 0,AV.nil],AV.agg [AV.int 0,AV.str {data:= #[]},AV.int 0,AV.nil]]],AV.int 0],AV.agg [AV.agg [AV.str {data:= #[OfNat.ofNat 112]},AV.ad 56 [AV.agg [AV.int 1,AV.str {data:= #[OfNat.ofNat 120]},AV.int 0,AV.ad 56 []],AV.agg [AV.int 1,AV.str {data:= #[OfNat.ofNat 122]},AV.int 0,AV.ad 56 []]]],AV.ad 72 [AV.agg [AV.int 1,AV.agg [AV.str {data:= #[OfNat.ofNat 112]},AV.ad 56 [AV.agg [AV.int 1,AV.str {data:= #[OfNat.ofNat 120]},AV.int 0,AV.ad 56 []],AV.agg [AV.int 1,AV.str {data:= #[OfNat.ofNat 121]},AV.int 0,AV.ad 56 []]]],AV.agg [AV.int 0,AV.str {data:= #[]},AV.int 0,AV.nil],AV.agg [AV.int 0,AV.str {data:= #[]},AV.int 0,AV.nil]],AV.agg [AV.int 1,AV.agg [AV.str {data:= #[OfNat.ofNat 112]},AV.ad 56 [AV.agg [AV.int 1,AV.str {data:= #[OfNat.ofNat 121]},AV.int 0,AV.ad 56 []],AV.agg [AV.int 1,AV.str {data:= #[OfNat.ofNat 122]},AV.int 0,AV.ad 56 []]]],AV.agg [AV.int 0,AV.str {data:= #[]},AV.int 0,AV.nil],AV.agg [AV.int 0,AV.str {data:= #[]},AV.int 0,AV.nil]]],AV.int 0]]]) []):=by kernel_rfl
def bE:ByteArray:=⟨#[101]⟩
def bA:ByteArray:=⟨#[97]⟩
def bB:ByteArray:=⟨#[98]⟩
def bP:ByteArray:=⟨#[112]⟩
def bX:ByteArray:=⟨#[120]⟩
def bY:ByteArray:=⟨#[121]⟩
def bZ:ByteArray:=⟨#[122]⟩
abbrev QI(s:ByteArray):AV:= .agg [.int 1, .lit (.string s), .int 0, .ad 56 []]
abbrev V9:AV:= .agg [.int 0, .lit (.string s0), .int 0, .nil]
def PO(s:ByteArray):AV:= .agg [.lit (.string s), .ad 9 [.lit (.string bA), .lit (.string bB)], .ad 3 [.int 1, .int 1], .bool false, .bool false, .int 0]
abbrev Wo(r s t:ByteArray):AV:= .agg [.int 1, .agg [.lit (.string r), .ad 56 [QI s,QI t]],V9,V9]
def rS:List AV:=[PO bE,PO bP]
def T7:cm:=⟨[],[],bP,[QI bX,QI bY],[Wo bE bX bY],0,0⟩
def Sn:cm:=⟨[],[],bP,[QI bX,QI bZ],[Wo bP bX bY,Wo bP bY bZ],0,0⟩
def sO:List AV:=[ar T7,ar Sn]
def Vj:List AV->Option (Bool×AV)
 |[]=>some (true, .agg [.ad 61 rS, .ad 66 sO])
 |_=>none
theorem Yf(κ:Kp):qP (V8 κ).E 12 25 Vj:=by
 intro args x hh
 unfold Vj at hh
 split at hh
 ·simp only[aa4,ab0,true_and] at hh
  subst hh
  exact⟨rfl,Eq.mpr (Xb κ _) rfl⟩
 ·cases hh
noncomputable def XE(κ:Kp):EB:=(V8 κ).fresh (Yf κ)
theorem Xl(κ:Kp)(K:AV->List Dn.Obj->Prop):(ba (XE κ).E 12 10 [] [] K)=(
 letI z1:=K (AV.bool false) []
 ∃(e0:rr),([AV.agg [AV.ad 61 [AV.agg [AV.str bE,AV.ad 9 [AV.str bA,AV.str bB],AV.ad 3 [AV.int 1,AV.int 1],AV.bool false,AV.bool false,AV.int 0],
 AV.agg [AV.str bP,AV.ad 9 [AV.str bA,AV.str bB],AV.ad 3 [AV.int 1,AV.int 1],AV.bool false,AV.bool false,AV.int 0]],AV.ad 66 [AV.agg [AV.agg [AV.str
 T7.rel,AV.ad 56 [AV.agg [AV.int 1,AV.str bX,AV.int 0,AV.ad 56 []],AV.agg [AV.int 1,AV.str bY,AV.int 0,AV.ad 56 []]]],AV.ad 72 [AV.agg [AV.int 1,AV.agg
 [AV.str bE,AV.ad 56 [AV.agg [AV.int 1,AV.str bX,AV.int 0,AV.ad 56 []],AV.agg [AV.int 1,AV.str bY,AV.int 0,AV.ad 56 []]]],AV.agg [AV.int 0,AV.str s0,
 AV.int 0,AV.nil],AV.agg [AV.int 0,AV.str s0,AV.int 0,AV.nil]]],AV.int 0],AV.agg [AV.agg [AV.str Sn.rel,AV.ad 56 [AV.agg [AV.int 1,AV.str bX,AV.int 0,
 AV.ad 56 []],AV.agg [AV.int 1,AV.str bZ,AV.int 0,AV.ad 56 []]]],AV.ad 72 [AV.agg [AV.int 1,AV.agg [AV.str bP,AV.ad 56 [AV.agg [AV.int 1,AV.str bX,
 AV.int 0,AV.ad 56 []],AV.agg [AV.int 1,AV.str bY,AV.int 0,AV.ad 56 []]]],AV.agg [AV.int 0,AV.str s0,AV.int 0,AV.nil],AV.agg [AV.int 0,AV.str s0,
 AV.int 0,AV.nil]],AV.agg [AV.int 1,AV.agg [AV.str bP,AV.ad 56 [AV.agg [AV.int 1,AV.str bY,AV.int 0,AV.ad 56 []],AV.agg [AV.int 1,AV.str bZ,AV.int 0,
 AV.ad 56 []]]],AV.agg [AV.int 0,AV.str s0,AV.int 0,AV.nil],AV.agg [AV.int 0,AV.str s0,AV.int 0,AV.nil]]],AV.int 0]]]],[])=Qb e0/\DL e0/\aD (decide
 (Prod.snd (sF e0.1 e0.2)=(0:Int))) (aD ((↑(List.length (je e0.1 e0.2)):Int) != (2:Int)) z1 (a7 (true&&decide ((1:Int)<(↑(List.length (je e0.1
 e0.2)):Int))) (aD ((↑(List.length (ai (ae (nth (je e0.1 e0.2) 1) 1))):Int) != (1:Int)) z1 (a7 (true&&decide ((1:Int)<(↑(List.length (je e0.1 e0.2))
 :Int))) (aD ((↑(List.length (ai (ae (nth (je e0.1 e0.2) 1) 2))):Int) != (2:Int)) z1 (a7 (true&&decide ((1:Int)<(↑(List.length (je e0.1 e0.2)):
 Int))) (a7 (true&&decide ((0:Int)<(↑(List.length (ai (ae (nth (je e0.1 e0.2) 1) 1))):Int))) (aD (toInt (ae (nth (ai (ae (nth (je e0.1 e0.2) 1) 1)) 0) 3)
 ==(-1:Int)) (a7 (true&&decide ((1:Int)<(↑(List.length (je e0.1 e0.2)):Int))) (a7 (true&&decide ((0:Int)<(↑(List.length (ai (ae (nth (je e0.1
 e0.2) 1) 2))):Int))) (aD (toInt (ae (nth (ai (ae (nth (je e0.1 e0.2) 1) 2)) 0) 3)==(0:Int)) (a7 (true&&decide ((1:Int)<(↑(List.length (je e0.1
 e0.2)):Int))) (a7 (true&&decide ((1:Int)<(↑(List.length (ai (ae (nth (je e0.1 e0.2) 1) 2))):Int))) (K (AV.bool (toInt (ae (nth (ai (ae (nth (je e0.1
 e0.2) 1) 2)) 1) 3)==(1:Int))) []))) z1))) z1)))))))) (aD (Prod.snd (sF e0.1 e0.2) != (0:Int)) z1 z1)):=by kernel_rfl
def Ip:Rl:=⟨⟨bP,[tv bX,tv bY]⟩,[⟨1,⟨bE,[tv bX,tv bY]⟩,t0,t0⟩]⟩
def HS:Rl:=⟨⟨bP,[tv bX,tv bZ]⟩,[⟨1,⟨bP,[tv bX,tv bY]⟩,t0,t0⟩,⟨1,⟨bP,[tv bY,tv bZ]⟩,t0,t0⟩]⟩
theorem Ls(s:ByteArray):cR (QI s)=tv s:=by rw[nr];rfl
theorem JL:cR V9=t0:=by rw[dh];rfl
theorem Fb:aF T7=Ip:=by
 simp only[aF,T7,Ip,aa,dg,ac1,ac2,Ls,cE,D3,ae,nth,JL,ai,toInt,toStr]
theorem DA:aF Sn=HS:=by
 simp only[aF,Sn,HS,aa,dg,ac1,ac2,Ls,cE,D3,ae,nth,JL,ai,toInt,toStr]
theorem QT:isName bE=true:=ib _ (by decide+kernel) (by decide+kernel) (by decide+kernel)
theorem Xz:isName bA=true:=ib _ (by decide+kernel) (by decide+kernel) (by decide+kernel)
theorem XD:isName bB=true:=ib _ (by decide+kernel) (by decide+kernel) (by decide+kernel)
theorem Hn:isName bP=true:=ib _ (by decide+kernel) (by decide+kernel) (by decide+kernel)
theorem Nj:isName bX=true:=ib _ (by decide+kernel) (by decide+kernel) (by decide+kernel)
theorem M9:isName bY=true:=ib _ (by decide+kernel) (by decide+kernel) (by decide+kernel)
theorem UH:isName bZ=true:=ib _ (by decide+kernel) (by decide+kernel) (by decide+kernel)
theorem wK(r s t:ByteArray)(hr:isName r=true)(hs:isName s=true)(ht:isName t=true):bm ⟨r,[tv s,tv t]⟩=true:=by
 simp[bm,hr,uU 19 s hs,uU 19 t ht]
theorem vX(r s t:ByteArray)(hr:isName r=true)(hs:isName s=true)(ht:isName t=true):iw ⟨1,⟨r,[tv s,tv t]⟩,t0,t0⟩=true:=by
 simp[iw,wK r s t hr hs ht,Lc]
theorem ui:aM Ip=true:=by
 simp[aM,Ip,wK bP bX bY Hn Nj M9,vX bE bX bY QT Nj M9,wN]
theorem uT:aM HS=true:=by
 simp[aM,HS,wK bP bX bZ Hn Nj UH,vX bP bX bY Hn Nj M9,vX bP bY bZ Hn M9 UH,wN]
theorem Ob(s:ByteArray)(h:isName s=true):uS (PO s)=true:=by
 have:Aj [.lit (.string bA), .lit (.string bB)] [.int 1, .int 1]=true:=by
  simp only[Aj,toStr,Xz,XD];rfl
 unfold uS BR
 simp only[PO,ae,nth,toStr,ai,h,this]
 rfl
theorem G5:eU rS sO=true:=by
 have e1:uS (PO bE)=true:=Ob _ QT
 have e2:uS (PO bP)=true:=Ob _ Hn
 have e3:lH (ar T7)=true:=(congrArg aM Fb).trans ui
 have e4:lH (ar Sn)=true:=(congrArg aM DA).trans uT
 simp only[eU,rS,sO,List.all_cons,List.all_nil,e1,e2,e3,e4];rfl
theorem LL:(pO (cI rS) Ip).1=0:=by
 have:cW Ip=[bX,bY]:=by unfold cW;rw[ui,aa8];decide+kernel
 unfold pO
 rw[this]
 decide+kernel
theorem LV:(pO (cI rS) HS).1=0:=by
 have:cW HS=[bX,bZ,bY]:=by unfold cW;rw[uT,aa8];decide+kernel
 unfold pO
 rw[this]
 decide+kernel
theorem of_B{x:cm}{r:Rl}(hr:aF x=r)(h:aM r=true)(h2:jb r=true)(h3:ar (eo (ar x))=ar x)(h4:aF (eo (ar x))=aF x)(h5:(pO (cI rS) r).1=0):jD rS (ar x)=0/\jg (ar x)=0:=by
 constructor
 ·have hR:eU rS [ar x]=true:=by
   have e1:uS (PO bE)=true:=Ob _ QT
   have e2:uS (PO bP)=true:=Ob _ Hn
   have e3:lH (ar x)=true:=(congrArg aM hr).trans h
   simp only[eU,rS,List.all_cons,List.all_nil,e1,e2,e3];rfl
  unfold jD rT
  rw[h3,hR,aa8]
  simp only[h4,hr]
  exact h5
 ·unfold jg wx
  rw[h4,hr,h,h2];rfl
theorem Td:(fD rS sO).2=0:=by
 have h1:=of_B Fb ui (by decide+kernel) rfl rfl LL
 have h2:=of_B DA uT (by decide+kernel) rfl rfl LV
 refine yF.2 ⟨G5,by decide+kernel,fun y hy=>?_,fun y hy=>?_⟩
 ·rcases List.mem_cons.1 hy with rfl|hy
  ·exact h1.1
  ·obtain rfl:=List.mem_singleton.1 hy
   exact h2.1
 ·rcases List.mem_cons.1 hy with rfl|hy
  ·exact h1.2
  ·obtain rfl:=List.mem_singleton.1 hy
   exact h2.2
theorem FG{x:cm}{r:Rl}(hr:aF x=r)(h5:(eo (ar x)).hl=x.hl/\(eo (ar x)).bl=x.bl)(hc:po r<=100000)(hl:x.bl.length<=100000):de (eo (ar x)):=by
 refine⟨?_,by rw[h5.2];exact hl⟩
 rw[h5.1,h5.2]
 have:=mh 56 x.rel x.hl x.bl
 rw[show(⟨⟨x.rel,aa x.hl⟩,dg x.bl⟩:Rl)=aF x from rfl,hr] at this
 rw[this];exact hc
theorem RX:fw rS sO:=by
 refine⟨by decide,by decide,fun y hy=>?_⟩
 rcases List.mem_cons.1 hy with rfl|hy
 ·exact FG Fb ⟨rfl,rfl⟩ (by decide) (by decide)
 ·obtain rfl:=List.mem_singleton.1 hy
  exact FG DA ⟨rfl,rfl⟩ (by decide) (by decide)
theorem RU:(wT rS sO [1] sO).map QD.delta=[-1]:=by decide+kernel
theorem QL:(xa rS sO [1] sO).map QD.delta=[0,1]:=by decide+kernel
theorem UN:ko rS sO=[[0],[1]]:=by decide+kernel
theorem X5:(tw rS.length (iR rS sO) (nv rS sO) rS sO).2=0:=by decide+kernel
theorem WE:(sF rS sO).2=0:=LH.2 ⟨Td,X5⟩
theorem Sw: ∃r1 s1 o1 r2 s2 o2 r3 s3 o3,je rS sO=[DQ rS sO [0], .agg [.ad 3 (iA [1]), .ad 45 [qA ⟨r1,s1,o1, -1⟩], .ad 45 [qA ⟨r2,s2,o2,0⟩,qA ⟨r3,s3,o3,1⟩]]]:=by
 have h1:=RU
 have h2:=QL
 rw[je,UN,ac1,ac1,ac2]
 rw[show DQ rS sO [1]= .agg [.ad 3 (iA [1]), .ad 45 ((wT rS sO [1] sO).map qA), .ad 45 ((xa rS sO [1] sO).map qA)] from rfl]
 generalize wT rS sO [1] sO=l at h1
 generalize xa rS sO [1] sO=m at h2
 match l,m,h1,h2 with
 |[⟨r1,s1,o1,d1⟩],[⟨r2,s2,o2,d2⟩,⟨r3,s3,o3,d3⟩],h1,h2=>
  simp only[ac1,ac2,List.cons.injEq,and_true] at h1 h2
  obtain rfl:=h1
  obtain⟨rfl,rfl⟩:=h2
  exact⟨r1,s1,o1,r2,s2,o2,r3,s3,o3,rfl⟩
def U3:List AV->Option (Bool×AV)
 |[]=>some (true, .bool true)
 |_=>none
theorem Wy(κ:Kp):cQ (XE κ).E 12 10 U3:=by
 intro args x hh
 unfold U3 at hh
 split at hh
 ·simp only[aa4,ab0,true_and] at hh
  subst hh
  refine⟨_,rfl,rfl,?_⟩
  refine Eq.mpr (Xl κ _) ?_
  refine⟨(rS,sO),rfl,RX,?_⟩
  simp only[WE]
  obtain⟨r1,s1,o1,r2,s2,o2,r3,s3,o3,h⟩:=Sw
  simp only[h]
  rfl
 ·cases hh
noncomputable def Qa(κ:Kp):EB:=(XE κ).pure (Wy κ)
structure VD where
 ds:List AV
 rs:List AV
 i:Nat
 n:Nat
 k:Nat
abbrev Q7(x:VD):S:=sp 91 [(1, .ad 73 []),(2, .ptr 0 0 [] 0),(5, .int x.i),(6, .int x.n),(7, .int x.k)] [.box 25 (gN x.ds x.rs)]
theorem xLk(κ:Kp)(x:VD)(I:Nat->S->Prop)(n:Nat)(K:Exit->S->Prop):(vc (Qa κ).E 12 11 none 0 (af (Pr κ).toProgram 11 8) (Q7 x) (bJ (Qa κ).E 11 8 0 I n K))=(
 letI z1:=ai (ae (nth x.rs (Int.toNat (↑(x.i):Int))) 1)
 letI z2:=AV.agg [AV.ad 61 x.ds,AV.ad 66 x.rs]
 letI z3:=true&&decide ((↑(x.i):Int)<(↑(x.rs.length):Int))
 letI z4:=IntKind.wrap IntKind.i64 ((↑(x.k):Int)+(1:Int))
 letI z5:=(↑(x.k):Int)<(↑(List.length z1):Int)
 a7 z3 (aD (decide z5) (a7 z3 (a7 (true&&decide z5) (aD (toInt (ae (nth z1 (Int.toNat (↑(x.k):Int))) 0)==(1:Int)) (∃(e0:Nat),e0<n/\I e0 (sp 91
 [(1,AV.ad 73 []),(2,AV.ptr 0 0 [] 0),(5,AV.int (↑(x.i):Int)),(6,AV.int (IntKind.wrap IntKind.i64 ((↑(x.n):Int)+(1:Int)))),(7,AV.int z4)]
 [Obj.box 25 z2])) (∃(e0:Nat),e0<n/\I e0 (sp 91 [(1,AV.ad 73 []),(2,AV.ptr 0 0 [] 0),(5,AV.int (↑(x.i):Int)),(6,AV.int (↑(x.n):Int)),(7,
 AV.int z4)] [Obj.box 25 z2]))))) (K (Exit.exit 2) (sp 91 [(1,AV.ad 73 []),(2,AV.ptr 0 0 [] 0),(5,AV.int (↑(x.i):Int)),(6,AV.int (↑(x.n):Int))]
 [Obj.box 25 z2])))):=by kernel_rfl
def yc(l:List AV):Nat:=(l.filter fun x=>toInt (ae x 0)==1).length
def Kk(x:VD):Prop:=x.i<x.rs.length/\x.k<=(ai (ae (nth x.rs x.i) 1)).length/\(ai (ae (nth x.rs x.i) 1)).length<=100000/\x.n<=x.k
def JT(x:VD):Out (Exit×S):= .one (.exit 2,sp 91 [(1, .ad 73 []),(2, .ptr 0 0 [] 0),(5, .int x.i),(6, .int (x.n+yc ((ai (ae (nth x.rs x.i) 1)).drop x.k):Nat))] [.box 25 (gN x.ds x.rs)])
theorem lLk(κ:Kp):bj (Qa κ).E 12 11 8 (aO 0 Q7 Kk JT):=by
 refine aK (fun x=>(ai (ae (nth x.rs x.i) 1)).length - x.k) ?_
 rintro⟨ds,rs,i,n,k⟩ K ⟨h1,h2,h3,h4⟩ ho
 simp only at h1 h2 h3 h4
 rw[show(Qa κ).E.P=Pr κ from rfl]
 refine Eq.mpr (xLk κ ⟨ds,rs,i,n,k⟩ _ _ K) ?_
 simp only[Int.toNat_natCast]
 refine an.2 ⟨by simp;omega,?_⟩
 rw[ah,aa1,aa3]
 simp only[JT,Out.run] at ho
 refine⟨fun h=>an.2 ⟨by simp;omega,an.2 ⟨by simp;omega,?_⟩⟩,fun h=>?_⟩
 ·have hk:k<(ai (ae (nth rs i) 1)).length:=by omega
  rw[aV (n:=(k:Int)+1) (by omega) (by omega),aV (n:=(n:Int)+1) (by omega) (by omega)]
  have hd:yc ((ai (ae (nth rs i) 1)).drop k)=(bif toInt (ae (nth (ai (ae (nth rs i) 1)) k) 0)==1 then 1 else 0)+yc ((ai (ae (nth rs i) 1)).drop (k+1)):=by
   rw[ab2 hk,←bf _ k hk]
   unfold yc
   rw[List.filter_cons]
   cases toInt (ae (nth (ai (ae (nth rs i) 1)) k) 0)==1 with
   |true=>simp;omega
   |false=>simp
  rw[hd] at ho
  rw[ah]
  refine⟨fun e=>?_,fun e=>?_⟩
  ·rw[e,aa8] at ho
   refine⟨_,?_,⟨ds,rs,i,n+1,k+1⟩,rfl,⟨h1,hk,h3,by simp only;omega⟩,rfl,?_⟩
   ·simp only;omega
   ·simp only[JT,Out.run]
    rw[Nat.add_assoc];exact ho
  ·rw[e,aa6,Nat.zero_add] at ho
   refine⟨_,?_,⟨ds,rs,i,n,k+1⟩,rfl,⟨h1,hk,h3,by simp only;omega⟩,rfl,ho⟩
   simp only;omega
 ·rw[aa9 (by omega)] at ho
  exact ho
noncomputable def RG(κ:Kp):EB:=(Qa κ).loop (lLk κ)
abbrev UC(ds rs:List AV)(i:Nat):S:=sp 91 [(1, .ad 73 []),(2, .ptr 0 0 [] 0),(5, .int i)] [.box 25 (gN ds rs)]
theorem xLr(κ:Kp)(ds rs:List AV)(i:Nat)(I:Nat->S->Prop)(n:Nat)(K:Exit->S->Prop):(vc (RG κ).E 12 11 none 0 (af (Pr κ).toProgram 11 4) (UC ds rs i) (bJ (RG κ).E 11 4 0 I n K))=(
 letI z1:=Pg.toProgram (Env.P (EB.E (Qa κ)))
 aD (decide ((↑i:Int)<(↑(rs.length):Int))) (af z1 11 8=af z1 11 8/\∃(e1:VD),sp 91 [(1,AV.ad 73 []),(2,AV.ptr 0 0 [] 0),(5,AV.int (↑i:Int)),
 (6,AV.int 0),(7,AV.int 0)] [Obj.box 25 (AV.agg [AV.ad 61 ds,AV.ad 66 rs])]=Q7 e1/\Kk e1/\aD (decide ((↑(e1.n+yc (List.drop e1.k (ai (ae (nth e1.rs
 e1.i) 1)))):Int)>(3:Int))) (K Exit.ret (sp 91 [(4,AV.int 0)] [])) (∃(e0:Nat),e0<n/\I e0 (sp 91 [(1,AV.ad 73 []),(2,AV.ptr 0 0 [] 0),(5,AV.int
 (IntKind.wrap IntKind.i64 ((↑(e1.i):Int)+(1:Int))))] [Obj.box 25 (AV.agg [AV.ad 61 e1.ds,AV.ad 66 e1.rs])]))) (K (Exit.exit 0) (sp 91 [(1,AV.ad 73 [])]
 []))):=by kernel_rfl
def TF(r:AV):Bool:=decide (yc (ai (ae r 1))<=3)
structure VK where
 ds:List AV
 rs:List AV
 i:Nat
abbrev PG(x:VK):S:=UC x.ds x.rs x.i
def Kr(x:VK):Prop:=x.i<=x.rs.length/\x.rs.length<=100000/\∀r,r∈x.rs->(ai (ae r 1)).length<=100000
def Lx(x:VK):Out (Exit×S):= .aD ((x.rs.drop x.i).all TF) (.one (.exit 0,sp 91 [(1, .ad 73 [])] [])) (.one (.ret,sp 91 [(4, .int 0)] []))
theorem lLr(κ:Kp):bj (RG κ).E 12 11 4 (aO 0 PG Kr Lx):=by
 refine aK (fun x=>x.rs.length - x.i) ?_
 rintro⟨ds,rs,i⟩ K ⟨h1,h2,h3⟩ ho
 simp only at h1 h2 h3
 rw[show(RG κ).E.P=Pr κ from rfl]
 refine Eq.mpr (xLr κ ds rs i _ _ K) ?_
 simp only[Lx,Out.run,ah] at ho
 rw[ah,aa1,aa3]
 refine⟨fun h=>?_,fun h=>?_⟩
 ·have hk:i<rs.length:=by omega
  have hx:nth rs i∈rs:=by rw[bf _ _ hk];exact List.getElem_mem _
  rw[ab2 hk,←bf _ i hk,List.all_cons] at ho
  refine⟨rfl,⟨ds,rs,i,0,0⟩,rfl,⟨hk,Nat.zero_le _,h3 _ hx,Nat.le_refl _⟩,?_⟩
  simp only[ab1,Nat.zero_add]
  rw[aV (n:=(i:Int)+1) (by omega) (by omega),ah,aa1,aa3]
  refine⟨fun e=>ho.2 ?_,fun e=>⟨_,?_,⟨ds,rs,i+1⟩,rfl,⟨hk,h2,h3⟩,rfl,?_⟩⟩
  ·rw[show TF (nth rs i)=false from aa5 (by omega),Bool.false_and]
  ·simp only;omega
  ·simp only[Lx,Out.run,ah]
   rw[show TF (nth rs i)=true from aa7 (by omega),ac0] at ho
   exact ho
 ·rw[aa9 (by omega)] at ho
  exact ho.1 rfl
noncomputable def Rk(κ:Kp):EB:=(RG κ).loop (lLr κ)
theorem xLw(κ:Kp)(I:Nat->S->Prop)(n:Nat)(K:Exit->S->Prop):(vc (Rk κ).E 12 11 none 0 (af (Pr κ).toProgram 11 16) (sp 91 [(1, .ad 73 []),(8, .int 0),(9, .int 0)] []) (bJ (Rk κ).E 11 16 0 I n K))=(
 K (Exit.exit 4) (sp 91 [] [])):=by kernel_rfl
abbrev Ta(_:Unit):S:=sp 91 [(1, .ad 73 []),(8, .int 0),(9, .int 0)] []
def Tw(_:Unit):Out (Exit×S):= .one (.exit 4,sp 91 [] [])
theorem lLw(κ:Kp):bj (Rk κ).E 12 11 16 (aO 0 Ta (fun _=>True) Tw):=by
 refine aK (fun _=>0) ?_
 rintro⟨⟩ K _ ho
 rw[show(Rk κ).E.P=Pr κ from rfl]
 exact Eq.mpr (xLw κ _ _ K) ho
noncomputable def X6(κ:Kp):EB:=(Rk κ).loop (lLw κ)
theorem yLw(κ:Kp)(ds rs:List AV)(K:AV->List Dn.Obj->Prop):(ba (X6 κ).E 12 11 [gN ds rs, .ad 73 []] [] K)=(
 letI z1:=Pg.toProgram (Env.P (EB.E (RG κ)))
 letI z2:=Pg.toProgram (Env.P (EB.E (Rk κ)))
 a7 (decide (ds.length<=9223372036854775807)&&List.all ds fun(e0:AV)=>decide (List.length (ai (ae e0 1))<=9223372036854775807)) (aD ((bif jM ds rs then
 (1:Int) else(0:Int))==(0:Int)) (K (AV.int 0) []) (aD (decide ((↑(rs.length):Int)>(8:Int))) (K (AV.int 0) []) (af z1 11 4=af z1 11 4/\∃(e1:
 VK),sp 91 [(1,AV.ad 73 []),(2,AV.ptr 0 0 [] 0),(5,AV.int 0)] [Obj.box 25 (AV.agg [AV.ad 61 ds,AV.ad 66 rs])]=PG e1/\Kr e1/\aD (List.all (List.drop
 e1.i e1.rs) TF) (af z2 11 16=af z2 11 16/\∃(e0:Unit),sp 91 [(1,AV.ad 73 []),(8,AV.int 0),(9,AV.int 0)] []=Ta e0/\True/\K (AV.int 1) []) (K
 (AV.int 0) []))))):=by kernel_rfl
def ru(ds rs:List AV):Bool:=jM ds rs&&(decide (rs.length<=8)&&rs.all TF)
def Yz:List AV->Option (Bool×AV)
 |[.agg [.ad 61 ds, .ad 66 rs], .ad 73 []]=>some (decide (ds.length<=aR)&&ds.all (fun d=>decide ((ai (ae d 1)).length<=aR)), .int (bif ru ds rs then 1 else 0))
 |_=>none
theorem pLw(κ:Kp):cQ (X6 κ).E 12 11 Yz:=by
 intro args x hh
 unfold Yz at hh
 split at hh
 ·rename_i ds rs
  simp only[aa4,ab0] at hh
  obtain⟨h1,rfl⟩:=hh
  refine⟨_,rfl,rfl,?_⟩
  refine Eq.mpr (yLw κ ds rs _) ?_
  refine an.2 ⟨h1,?_⟩
  unfold ru
  cases hs:jM ds rs with
  |false=>exact rfl
  | true=>
   rw[ac0]
   refine ah.2 ⟨fun e=>absurd e (by decide),fun _=>?_⟩
   rw[ah,aa1,aa3]
   refine⟨fun e=>?_,fun e=>⟨rfl,⟨ds,rs,0⟩,rfl,⟨Nat.zero_le _,by show rs.length<=100000;omega,fun r hr=>(sQ hs).2.2 r hr|>.2⟩,?_⟩⟩
   ·rw[aa5 (show ¬ rs.length<=8 by omega)];rfl
   ·rw[aa7 (show rs.length<=8 by omega),ac0,ab1]
    rw[ah]
    refine⟨fun e2=>⟨rfl,(),rfl,trivial,?_⟩,fun e2=>?_⟩
    ·rw[e2];rfl
    ·rw[e2];rfl
 ·cases hh
noncomputable def BLi(κ:Kp):EB:=(X6 κ).pure (pLw κ)
structure ALg where
 ds:List AV
 rs:List AV
 i:Nat
theorem qf(ds rs:List AV):(je ds rs).length=(ko ds rs).length:=by simp[je]
theorem Ay(ds rs:List AV)(i:Nat)(h:i<(ko ds rs).length):nth (je ds rs) i=DQ ds rs (ko ds rs)[i]:=by
 rw[bf _ _ (by rw[qf];exact h)]
 simp[je]
theorem HH{ds rs:List AV}(h1:ds.length<=aR)(h2: ∀d,d∈ds->(ai (ae d 1)).length<=aR){p q:Prop}(hp:p)(hq:jM ds rs=true->rs.length<=8->q):
  a7 (decide (ds.length<=aR)&&ds.all fun d=>decide ((ai (ae d 1)).length<=aR)) (aD ((bif ru ds rs then(1:Int) else 0)==0) p q):=by
 refine an.2 ⟨?_,?_⟩
 ·rw[aa2,aa1,List.all_eq_true]
  exact⟨h1,fun d hd=>aa7 (h2 d hd)⟩
 ·cases hs:ru ds rs with
  |false=>exact hp
  |true=>
   simp only[ru,aa2,aa1] at hs
   exact hq hs.1 hs.2.1
end Go.Proofs.YthaiinlfnommnaaGreatDoor
