import Derived.Test.YthaiinlfnommnaaGreatDoorDbMD
import Derived.Test.YthaiinlfnommnaaGreatDoorDbM1
namespace Go.Proofs.YthaiinlfnommnaaGreatDoor
open Go Go.Dn Go.Rl Go.Proofs
attribute [local irreducible] a8 vc
set_option maxRecDepth 20000
def Jb(ds:List AV)(r:AV):QD:=dU ds (ez r)
def PT(ds rs:List AV)(r:AV):Bool:=GJ fZ ds.length (jK ds rs) (ph ds rs) ds r
def rI(ds rs:List AV)(g:List Int)(l:List AV):List QD:=IS (Jb ds) (yy ds) (PT ds rs) g l
def rP(ds rs:List AV)(g:List Int)(l:List AV):List QD:=Jj (Jb ds) (yy ds) (PT ds rs) g l
theorem Gk(mk:AV->QD)(hd:AV->Int)(ag:AV->Bool)(g:List Int): ∀l m:List AV,IS mk hd ag g (l++m)=IS mk hd ag g l++IS mk hd ag g m
 |[],_=>rfl
 |r::l,m=>by
  rw[List.cons_append,IS,IS,Gk mk hd ag g l m]
  cases(g.contains (hd r)&& !ag r)<;>rfl
theorem Gm(mk:AV->QD)(hd:AV->Int)(ag:AV->Bool)(g:List Int): ∀l m:List AV,Jj mk hd ag g (l++m)=Jj mk hd ag g l++Jj mk hd ag g m
 |[],_=>rfl
 |r::l,m=>by
  rw[List.cons_append,Jj,Jj,Gm mk hd ag g l m,List.append_assoc]
theorem uj(mk:AV->QD)(hd:AV->Int)(ag:AV->Bool)(g:List Int): ∀l:List AV,(IS mk hd ag g l).length<=l.length
 |[]=>Nat.le_refl _
 |r::l=>by
  have:=uj mk hd ag g l
  rw[IS]
  cases(g.contains (hd r)&& !ag r)
  ·rw[aa6];simp only[List.length_cons];omega
  ·rw[aa8];simp only[List.length_cons];omega
theorem tR(mk:AV->QD)(hd:AV->Int)(ag:AV->Bool)(g:List Int)(n:Nat): ∀l:List AV,(∀r,r∈l->(mk r).steps.length<=n)->(Jj mk hd ag g l).length<=l.length*n
 |[],_=>Nat.zero_le _
 |r::l,h=>by
  have h1:=tR mk hd ag g n l fun r hr=>h r (List.mem_cons_of_mem _ hr)
  have h2:=h r List.mem_cons_self
  have h3:=AH (mk r) g (mk r).steps 0
  rw[Jj,ab9,List.length_cons,Nat.succ_mul]
  cases(g.contains (hd r)&&ag r)
  ·rw[aa6];simp only[List.length_nil];omega
  ·rw[aa8];omega
theorem Df{l:List AV}{i:Nat}(h:i<l.length):l.take (i+1)=l.take i++[nth l i]:=by
 rw[List.take_add_one,ab7 h,bf _ _ h];rfl
theorem NA(ds rs:List AV)(g:List Int){l:List AV}{i:Nat}(h:i<l.length):rI ds rs g (l.take (i+1))=rI ds rs g (l.take i)++bif g.contains (yy ds (nth l i))&& !PT ds rs (nth l i) then[Jb ds (nth l i)] else[]:=by
 rw[rI,Df h,Gk];rfl
theorem OL(ds rs:List AV)(g:List Int){l:List AV}{i:Nat}(h:i<l.length):rP ds rs g (l.take (i+1))=rP ds rs g (l.take i)++bif g.contains (yy ds (nth l i))&&PT ds rs (nth l i) then xx (Jb ds (nth l i)) g (Jb ds (nth l i)).steps 0 else[]:=by
 rw[rP,Df h,Gm]
 exact congrArg _ (List.append_nil _)
structure VQ where
 ds:List AV
 rs:List AV
 g:List Int
 i:Nat
noncomputable abbrev QH(x:VQ):S:=OT x.ds x.rs (iA x.g) ((rI x.ds x.rs x.g (x.rs.take x.i)).map qA) ((rP x.ds x.rs x.g (x.rs.take x.i)).map qA) x.i
def EN(x:VQ):Prop:=(fE x.ds x.rs/\(fH x.ds x.rs).2=0/\x.g.length<=60)/\x.i<=x.rs.length
noncomputable def P5(x:VQ):Out (Exit×S):= .one (.exit 0,sp 65 [(4, .ptr 0 0 [] 0),(5, .ptr 1 0 [] 0)] [.box 41 (.agg [.nil, .nil, .nil]), .box 41 (.agg [.ad 3 (iA x.g), .an 2 0 ((rI x.ds x.rs x.g x.rs).map qA).length, .an 3 0 ((rP x.ds x.rs x.g x.rs).map qA).length]), .row 45 ((rI x.ds x.rs x.g x.rs).map qA), .row 45 ((rP x.ds x.rs x.g x.rs).map qA)])
theorem Xm{p:Prop}(h:p):(p/\p)/\p:=⟨⟨h,h⟩,h⟩
theorem sd{ds rs:List AV}(hs:fE ds rs)(hc:(fH ds rs).2=0){r:AV}(hr:r∈rs):(Jb ds r).steps.length<=100000:=by
 have h:=GK hs hc hr
 have h1:=oZ h.f
 have h2:=h.s.2
 show(jq ds (ez r) (b8 (aF (ez r))).length).length<=100000
 rw[uQ,h1];exact h2
theorem VO{ds rs:List AV}(hc:(fH ds rs).2=0){i:Nat}(h:i<rs.length):Sn ds rs i=PT ds rs (nth rs i):=by
 unfold Sn
 rw[Ku hc ⟨by omega,by omega⟩ ⟨by omega,by omega⟩]
 rfl
theorem lBk(κ:Kp):bj (RU κ).E 12 28 3 (aO 0 QH EN P5):=by
 refine aK (fun x=>x.rs.length - x.i) ?_
 rintro⟨ds,rs,g,i⟩ K ⟨⟨hs,hc,hg⟩,hi⟩ ho
 simp only at hs hc hg hi
 rw[show(RU κ).E.P=Pr κ from rfl]
 refine Eq.mpr (xBk κ ds rs g ((rI ds rs g (rs.take i)).map qA) ((rP ds rs g (rs.take i)).map qA) i _ _ K) ?_
 have hr:=(il hc).hr
 rw[ah,aa1,aa3]
 refine⟨fun h=>?_,fun h=>?_⟩
 ·have hk:i<rs.length:=by omega
  have hx:nth rs i∈rs:=by rw[bf _ _ hk];exact List.getElem_mem _
  have hot:=NA ds rs g hk
  have hlt:=OL ds rs g hk
  have hol:=uj (Jb ds) (yy ds) (PT ds rs) g (rs.take i)
  have hll:=tR (Jb ds) (yy ds) (PT ds rs) g 100000 (rs.take i) fun r h=>sd hs hc (List.mem_of_mem_take h)
  rw[List.length_take] at hol hll
  have hck:xl ds rs i i rs.length=0:=Ku hc ⟨by omega,by omega⟩ ⟨by omega,by omega⟩
  have next: ∀os ls,os=(rI ds rs g (rs.take (i+1))).map qA->ls=(rP ds rs g (rs.take (i+1))).map qA->∃m,m<rs.length - i/\fq QH EN P5 (fun x=>x.rs.length - x.i) K m (OT ds rs (iA g) os ls (IntKind.wrap IntKind.i64 ((i:Int)+1))):=by
   rintro _ _ rfl rfl
   rw[aW (n:=(i:Int)+1) (by omega) (by omega)]
   exact⟨_,by simp only;omega,⟨ds,rs,g,i+1⟩,rfl,⟨⟨hs,hc,hg⟩,hk⟩,rfl,ho⟩
  refine aq.2 ⟨by simp;omega,(ds,toStr (ae (ae (nth rs i) 0) 0)),rfl,hs.1,aq.2 ⟨by rw[aa1,fo];omega,?_⟩⟩
  rw[Ey,ah]
  refine⟨fun e=>?_,fun e=>⟨⟨ds,rs,i⟩,rfl,⟨hs,hck⟩,⟨ds,rs,i⟩,rfl,hs,?_⟩⟩
  ·have e:g.contains (yy ds (nth rs i))=false:=by rw[←Bool.not_eq_true'];exact e
   rw[e,Bool.false_and,aa6,List.append_nil] at hot hlt
   refine next _ _ (by rw[hot]) (by rw[hlt])
  ·have e:g.contains (yy ds (nth rs i))=true:=by rw[←ab3];exact e
   rw[show Sn ds rs ((i:Nat):Int)=PT ds rs (nth rs i) from VO hc hk,ah]
   rw[e,ac0] at hot hlt
   refine⟨fun e2=>Xm ⟨⟨ds,rs,g,(rI ds rs g (rs.take i)).map qA,(rP ds rs g (rs.take i)).map qA,ez (nth rs i),Jb ds (nth rs i)⟩,rfl,⟨sd hs hc hx,hg,?_⟩,?_⟩,fun e2=>?_⟩
   ·simp only[List.length_map]
    have:(rP ds rs g (rs.take i)).length<=min i rs.length*100000:=hll
    omega
   ·rw[e2,Bool.not_true,aa6,List.append_nil] at hot
    rw[e2,aa8] at hlt
    rw[ah]
    refine⟨fun e3=>next _ _ (by rw[hot]) ?_,fun e3=>next _ _ (by rw[hot]) ?_⟩
    ·have e4:xx (Jb ds (nth rs i)) g (Jb ds (nth rs i)).steps 0=[]:=List.isEmpty_iff.1 e3
     rw[hlt,e4,List.append_nil]
    ·rw[hlt,List.map_append];rfl
   ·rw[e2,Bool.not_false,aa8] at hot
    rw[e2,aa6,List.append_nil] at hlt
    refine aq.2 ⟨?_,?_⟩
    ·rw[aa1,List.length_map]
     have:(rI ds rs g (rs.take i)).length<=min i rs.length:=hol
     omega
    ·have n1:=next _ _ rfl rfl
     rw[hot,hlt,List.map_append] at n1
     unfold OT at n1
     rw[ab9] at n1
     rw[List.take_length]
     exact n1
 ·obtain rfl:i=rs.length:=by omega
  have ho:K (.exit 0) _:=ho
  simp only[List.take_length]
  exact ho
noncomputable def Ye(κ:Kp):EB:=(RU κ).loop (lBk κ)
theorem yBk(κ:Kp)(ds rs:List AV)(g:List Int)(K:AV->List Dn.Obj->Prop):(a8 (Ye κ).E 12 28 [gJ ds rs, .ad 3 (iA g)] [] K)=(
 letI z1:=Pg.toProgram (Env.P (EB.E (RU κ)))
 af z1 28 3=af z1 28 3/\∃(e0:VQ),sp 65 [(1,AV.ad 3 (iA g)),(2,AV.ptr 0 0 [] 0),(4,AV.ptr 1 0 [] 0),(5,AV.ptr 2 0 [] 0),(17,AV.ad 66 rs),(18,
 AV.int (↑(rs.length):Int)),(19,AV.int 0)] [Obj.box 25 (AV.agg [AV.ad 61 ds,AV.ad 66 rs]),Obj.box 41 (AV.agg [AV.nil,AV.nil,AV.nil]),Obj.box 41 (AV.agg
 [AV.ad 3 (iA g),AV.an 3 0 0,AV.an 4 0 0]),Obj.row 45 [],Obj.row 45 []]=QH e0/\EN e0/\K (AV.agg [AV.ad 3 (iA e0.g),AV.ad 45 (List.take (List.length
 (List.map qA (rI e0.ds e0.rs e0.g e0.rs))) (List.drop 0 (List.map qA (rI e0.ds e0.rs e0.g e0.rs)))),AV.ad 45 (List.take (List.length (List.map qA (rP e0.ds
 e0.rs e0.g e0.rs))) (List.drop 0 (List.map qA (rP e0.ds e0.rs e0.g e0.rs))))]) []):=by kernel_rfl
noncomputable def Ba(ds rs:List AV)(g:List Int):AV:= .agg [.ad 3 (iA g), .ad 45 ((rI ds rs g rs).map qA), .ad 45 ((rP ds rs g rs).map qA)]
structure VX where
 ds:List AV
 rs:List AV
 g:List Int
def SI(x:VX):List AV×List Dn.Obj:=([gJ x.ds x.rs, .ad 3 (iA x.g)],[])
def LP(x:VX):Prop:=fE x.ds x.rs/\(fH x.ds x.rs).2=0/\x.g.length<=60
noncomputable def TH(x:VX):Out (AV×List Dn.Obj):= .one (.agg [.ad 3 (iA x.g), .ad 45 ((rI x.ds x.rs x.g x.rs).map qA), .ad 45 ((rP x.ds x.rs x.g x.rs).map qA)],[])
theorem cBb(κ:Kp):bt (Ye κ).E 12 28 (aL SI LP TH):=by
 refine aZ ?_
 rintro⟨ds,rs,g⟩ K hs ho
 refine Eq.mpr (yBk κ ds rs g K) ?_
 refine⟨rfl,⟨ds,rs,g,0⟩,rfl,⟨hs,Nat.zero_le _⟩,?_⟩
 simp only[ab1,List.take_length]
 exact ho
noncomputable def Nk(κ:Kp):EB:=((Ye κ).call (cBb κ)).calm [28]
abbrev RO(ds rs os gs:List AV)(i:Int):S:=sp 33 [(1, .ptr 0 0 [] 0),(7, .an 1 0 os.length),(19, .an 2 0 gs.length),(20, .int gs.length),(21, .int i)] [.box 25 (gJ ds rs), .row 41 os, .row 38 gs]
theorem xZo(κ:Kp)(ds rs os gs:List AV)(i:Int)(I:Nat->S->Prop)(n:Nat)(K:Exit->S->Prop):(vc (Nk κ).E 12 12 none 0 (af (Pr κ).toProgram 12 6) (RO ds rs os gs i) (bK (Nk κ).E 12 6 0 I n K))=(
 aD (decide (i<(↑(gs.length):Int))) (aX (decide ((0:Int)<=i)&&decide (i<(↑(gs.length):Int))) (∃(a:VX),([AV.agg [AV.ad 61 ds,AV.ad 66 rs],
 AV.ad 3 (ai (nth gs (0+i.toNat)))],[])=SI a/\LP a/\aX (decide ((os.length+1+1)*73<=70368744177664)) (∃(m:Nat),m<n/\I m (sp 33
 [(1,AV.ptr 0 0 [] 0),(7,AV.an 1 0 (os.length+1)),(19,AV.an 2 0 gs.length),(20,AV.int (↑(gs.length):Int)),(21,AV.int (IntKind.wrap IntKind.i64 (i
 +(1:Int))))] [Obj.box 25 (AV.agg [AV.ad 61 ds,AV.ad 66 rs]),Obj.row 41 (List.take os.length os++[AV.agg [AV.ad 3 (iA a.g),AV.ad 45 (List.map qA
 (rI a.ds a.rs a.g a.rs)),AV.ad 45 (List.map qA (rP a.ds a.rs a.g a.rs))]]),Obj.row 38 gs])))) (K (Exit.exit 0) (sp 33 [(7,AV.an 0 0 os.length)] [Obj.row
 41 os]))):=by kernel_rfl
theorem Cq{n m:Nat}{L:Gr}: ∀(f:Nat) (done:List Int),(vX n m L f done).length<=f
 |0,_=>Nat.le_refl _
 | f+1,done=>by
  rw[vX]
  cases decide (dw n m L done<0) with
  |true=>exact Nat.zero_le _
  |false=>
   have:=Cq (n:=n) (m:=m) (L:=L) f (rC done (dO n m L (dw n m L done)))
   rw[aa6,List.length_cons];omega
theorem BE{n m:Nat}{L:Gr}{g:List Int}: ∀(f:Nat) (done:List Int),g∈vX n m L f done->g.length<=n
 |0,_,h=>by cases h
 | f+1,done,h=>by
  rw[vX] at h
  cases e:decide (dw n m L done<0) with
  |true=>rw[e] at h;cases h
  |false=>
   rw[e,aa6] at h
   rcases List.mem_cons.1 h with rfl|h
   ·exact xF _ _ _ _
   ·exact BE f _ h
theorem F6(ds rs:List AV):(fu ds rs).length<=ds.length+1:=by
 have h1:=Cq (n:=ds.length) (m:=jK ds rs) (L:=ph ds rs) (v8 ds.length []+1) []
 have h2:=Ez ds.length []
 exact Nat.le_trans h1 (by omega)
theorem Ap{ds rs:List AV}{g:List Int}(h:g∈fu ds rs):g.length<=ds.length:=BE _ _ h
theorem ua{ds rs:List AV}(h:(sR ds rs).2=0):(fH ds rs).2=0:=by
 unfold sR at h
 by_cases e:(fH ds rs).2=0
 ·exact e
 ·rw[aa5 e] at h;exact h
structure Vi where
 ds:List AV
 rs:List AV
 i:Nat
noncomputable abbrev Nj(x:Vi):S:=RO x.ds x.rs (((fu x.ds x.rs).take x.i).map (Ba x.ds x.rs)) (lP (fu x.ds x.rs)) x.i
def Es(x:Vi):Prop:=(fE x.ds x.rs/\(fH x.ds x.rs).2=0)/\x.i<=(fu x.ds x.rs).length
noncomputable def S6(x:Vi):Out (Exit×S):= .one (.exit 0,sp 33 [(7, .an 0 0 ((fu x.ds x.rs).map (Ba x.ds x.rs)).length)] [.row 41 ((fu x.ds x.rs).map (Ba x.ds x.rs))])
theorem lZo(κ:Kp):bj (Nk κ).E 12 12 6 (aO 0 Nj Es S6):=by
 refine aK (fun x=>(fu x.ds x.rs).length - x.i) ?_
 rintro⟨ds,rs,i⟩ K ⟨⟨hs,hc⟩,hi⟩ ho
 simp only at hs hc hi
 rw[show(Nk κ).E.P=Pr κ from rfl]
 refine Eq.mpr (xZo κ ds rs (((fu ds rs).take i).map (Ba ds rs)) (lP (fu ds rs)) i _ _ K) ?_
 have hd:=(il hc).hd
 have hl:=F6 ds rs
 rw[ug,ah,aa1,aa3]
 refine⟨fun h=>?_,fun h=>?_⟩
 ·have hk:i<(fu ds rs).length:=by omega
  have hx:(fu ds rs)[i]∈fu ds rs:=List.getElem_mem _
  have hn:nth (lP (fu ds rs)) (0+((i:Nat):Int).toNat)= .ad 3 (iA (fu ds rs)[i]):=by
   rw[Int.toNat_natCast,Nat.zero_add,bf _ _ (by rw[ug];exact hk)]
   simp[lP]
  rw[hn]
  refine aq.2 ⟨by simp;omega,⟨ds,rs,(fu ds rs)[i]⟩,rfl,⟨hs,hc,Nat.le_trans (Ap hx) hd⟩,aq.2 ⟨?_,?_⟩⟩
  ·rw[aa1,List.length_map,List.length_take];omega
  ·have e:((fu ds rs).take (i+1)).map (Ba ds rs)=((fu ds rs).take i).map (Ba ds rs)++[Ba ds rs (fu ds rs)[i]]:=by
    rw[List.take_add_one,ab7 hk,List.map_append];rfl
   refine⟨_,?_,⟨ds,rs,i+1⟩,?_,⟨⟨hs,hc⟩,hk⟩,rfl,ho⟩
   ·simp only;omega
   ·rw[aW (n:=(i:Int)+1) (by omega) (by omega),List.take_length]
    simp only[Nj]
    unfold RO
    rw[e,ab9,ug]
    rfl
 ·obtain rfl:i=(fu ds rs).length:=by omega
  have ho:K (.exit 0) _:=ho
  simp only[List.take_length]
  exact ho
noncomputable def Yn(κ:Kp):EB:=(Nk κ).loop (lZo κ)
theorem yZo(κ:Kp)(ds rs:List AV)(K:AV->List Dn.Obj->Prop):(a8 (Yn κ).E 12 12 [gJ ds rs] [] K)=(
 letI z1:=Pg.toProgram (Env.P (EB.E (Nk κ)))
 letI z2:=AV.agg [AV.ad 61 ds,AV.ad 66 rs]
 ∃(e1:rT),([AV.agg [AV.ad 61 ds,AV.ad 66 rs]],[])=R9 e1/\Fs e1/\aD (decide (Prod.snd (sR e1.1 e1.2)=(0:Int))) (af z1 12 6=af z1 12 6/\∃(e0:
 Vi),sp 33 [(1,AV.ptr 0 0 [] 0),(7,AV.an 1 0 0),(19,AV.an 2 0 (List.length (lP (fu e1.1 e1.2)))),(20,AV.int (↑(List.length (lP (fu e1.1 e1.2))):Int)),
 (21,AV.int 0)] [Obj.box 25 z2,Obj.row 41 [],Obj.row 38 (lP (fu e1.1 e1.2))]=Nj e0/\Es e0/\K (AV.bh [AV.an 0 0 (List.length (List.map (Ba e0.ds e0.rs) (fu
 e0.ds e0.rs))),AV.int 0]) [Obj.row 41 (List.map (Ba e0.ds e0.rs) (fu e0.ds e0.rs))]) (aD (Prod.snd (sR e1.1 e1.2) != (0:Int)) (K (AV.bh [AV.nil,AV.int
 (Prod.snd (sR e1.1 e1.2))]) []) (af z1 12 6=af z1 12 6/\∃(e0:Vi),sp 33 [(1,AV.ptr 0 0 [] 0),(7,AV.an 1 0 0),(19,AV.nil),(20,AV.int 0),(21,AV.int
 0)] [Obj.box 25 z2,Obj.row 41 []]=Nj e0/\Es e0/\K (AV.bh [AV.an 0 0 (List.length (List.map (Ba e0.ds e0.rs) (fu e0.ds e0.rs))),AV.int 0]) [Obj.row 41
 (List.map (Ba e0.ds e0.rs) (fu e0.ds e0.rs))]))):=by kernel_rfl
noncomputable def iU(ds rs:List AV):List AV:=(fu ds rs).map (Ba ds rs)
def QF(x:rT):List AV×List Dn.Obj:=([gJ x.1 x.2],[])
def EP(x:rT):Prop:=fE x.1 x.2
noncomputable def PG(x:rT):Out (AV×List Dn.Obj):= .aD (decide ((sR x.1 x.2).2=0))
 (.one (.bh [.an 0 0 (iU x.1 x.2).length, .int 0],[.row 41 (iU x.1 x.2)]))
 (.one (.bh [.nil, .int (sR x.1 x.2).2],[]))
theorem cZo(κ:Kp):bt (Yn κ).E 12 12 (aL QF EP PG):=by
 refine aZ ?_
 rintro⟨ds,rs⟩ K hs ho
 refine Eq.mpr (yZo κ ds rs K) ?_
 have hs:fE ds rs:=hs
 simp only[PG,Out.run,ah,aa1,aa3] at ho
 refine⟨(ds,rs),rfl,hs,?_⟩
 rw[ah,aa1,aa3]
 refine⟨fun e=>⟨rfl,⟨ds,rs,0⟩,rfl,⟨⟨hs,ua e⟩,Nat.zero_le _⟩,ho.1 e⟩,fun e=>?_⟩
 rw[ah]
 exact⟨fun _=>ho.2 e,fun e2=>absurd (by simpa using e2) e⟩
noncomputable def Ws(κ:Kp):EB:=(Yn κ).call (cZo κ)
theorem Wn(κ:Kp)(K:AV->List Dn.Obj->Prop):(a8 (Ws κ).E 12 25 [] [] K)=(
 K (AV.agg [AV.ad 61 [AV.agg [AV.str {data:= #[OfNat.ofNat 101]},AV.ad 9 [AV.str {data:= #[OfNat.ofNat 97]},AV.str {data:= #[OfNat.ofNat 98]}],AV.ad 3 [AV.int 1,AV.int 1],AV.bool false,AV.bool false,AV.int 0],AV.agg [AV.str {data:= #[OfNat.ofNat 112]},AV.ad 9 [AV.str {data:= #[OfNat.ofNat 97]},AV.str {data:= #[OfNat.ofNat 98]}],AV.ad 3 [AV.int 1,AV.int 1],AV.bool false,AV.bool false,AV.int 0]],AV.ad 66 [AV.agg [AV.agg [AV.str {data:= #[OfNat.ofNat 112]},AV.ad 56 [AV.agg [AV.int 1,AV.str {data:= #[OfNat.ofNat 120]},AV.int 0,AV.ad 56 []],AV.agg [AV.int 1,AV.str {data:= #[OfNat.ofNat 121]},AV.int 0,AV.ad 56 []]]],AV.ad 72 [AV.agg [AV.int 1,AV.agg [AV.str {data:= #[OfNat.ofNat 101]},AV.ad 56 [AV.agg [AV.int 1,AV.str {data:= #[OfNat.ofNat 120]},AV.int 0,AV.ad 56 []],AV.agg [AV.int 1,AV.str {data:= #[OfNat.ofNat 121]},AV.int 0,AV.ad 56 []]]],AV.agg [AV.int 0,AV.str {data:= #[]},AV.int 0,AV.nil],AV.agg [AV.int 0,AV.str {data:= #[]},AV.int 0,AV.nil]]],AV.int 0],AV.agg [AV.agg [AV.str {data:= #[OfNat.ofNat 112]},AV.ad 56 [AV.agg [AV.int 1,AV.str {data:= #[OfNat.ofNat 120]},AV.int 0,AV.ad 56 []],AV.agg [AV.int 1,AV.str {data:= #[OfNat.ofNat 122]},AV.int 0,AV.ad 56 []]]],AV.ad 72 [AV.agg [AV.int 1,AV.agg [AV.str {data:= #[OfNat.ofNat 112]},AV.ad 56 [AV.agg [AV.int 1,AV.str {data:= #[OfNat.ofNat 120]},AV.int 0,AV.ad 56 []],AV.agg [AV.int 1,AV.str {data:= #[OfNat.ofNat 121]},AV.int 0,AV.ad 56 []]]],AV.agg [AV.int 0,AV.str {data:= #[]},AV.int 0,AV.nil],AV.agg [AV.int 0,AV.str {data:= #[]},AV.int 0,AV.nil]],AV.agg [AV.int 1,AV.agg [AV.str {data:= #[OfNat.ofNat 112]},AV.ad 56 [AV.agg [AV.int 1,AV.str {data:= #[OfNat.ofNat 121]},AV.int 0,AV.ad 56 []],AV.agg [AV.int 1,AV.str {data:= #[OfNat.ofNat 122]},AV.int 0,AV.ad 56 []]]],AV.agg [AV.int 0,AV.str {data:= #[]},AV.int 0,AV.nil],AV.agg [AV.int 0,AV.str {data:= #[]},AV.int 0,AV.nil]]],AV.int 0]]]) []):=by kernel_rfl
def bE:ByteArray:=⟨#[101]⟩
def bA:ByteArray:=⟨#[97]⟩
def bB:ByteArray:=⟨#[98]⟩
def bP:ByteArray:=⟨#[112]⟩
def bX:ByteArray:=⟨#[120]⟩
def bY:ByteArray:=⟨#[121]⟩
def bZ:ByteArray:=⟨#[122]⟩
abbrev Se(s:ByteArray):AV:= .agg [.int 1, .lit (.string s), .int 0, .ad 56 []]
abbrev Yc:AV:= .agg [.int 0, .lit (.string s0), .int 0, .nil]
def PB(s:ByteArray):AV:= .agg [.lit (.string s), .ad 9 [.lit (.string bA), .lit (.string bB)], .ad 3 [.int 1, .int 1], .bool false, .bool false, .int 0]
abbrev W1(r s t:ByteArray):AV:= .agg [.int 1, .agg [.lit (.string r), .ad 56 [Se s,Se t]],Yc,Yc]
def r7:List AV:=[PB bE,PB bP]
def S3:cm:=⟨[],[],bP,[Se bX,Se bY],[W1 bE bX bY],0,0⟩
def Vy:cm:=⟨[],[],bP,[Se bX,Se bZ],[W1 bP bX bY,W1 bP bY bZ],0,0⟩
def tc:List AV:=[ar S3,ar Vy]
def VI:List AV->Option (Bool×AV)
 |[]=>some (true, .agg [.ad 61 r7, .ad 66 tc])
 |_=>none
theorem Wt(κ:Kp):re (Ws κ).E 12 25 VI:=by
 intro args x hh
 unfold VI at hh
 split at hh
 ·simp only[aa4,ab0,true_and] at hh
  subst hh
  exact⟨rfl,Eq.mpr (Wn κ _) rfl⟩
 ·cases hh
noncomputable def XD(κ:Kp):EB:=(Ws κ).fresh (Wt κ)
theorem WL(κ:Kp)(K:AV->List Dn.Obj->Prop):(a8 (XD κ).E 12 10 [] [] K)=(
 letI z1:=K (AV.bool false) []
 ∃(e0:rT),([AV.agg [AV.ad 61 [AV.agg [AV.str bE,AV.ad 9 [AV.str bA,AV.str bB],AV.ad 3 [AV.int 1,AV.int 1],AV.bool false,AV.bool false,AV.int 0],
 AV.agg [AV.str bP,AV.ad 9 [AV.str bA,AV.str bB],AV.ad 3 [AV.int 1,AV.int 1],AV.bool false,AV.bool false,AV.int 0]],AV.ad 66 [AV.agg [AV.agg [AV.str
 S3.rel,AV.ad 56 [AV.agg [AV.int 1,AV.str bX,AV.int 0,AV.ad 56 []],AV.agg [AV.int 1,AV.str bY,AV.int 0,AV.ad 56 []]]],AV.ad 72 [AV.agg [AV.int 1,AV.agg
 [AV.str bE,AV.ad 56 [AV.agg [AV.int 1,AV.str bX,AV.int 0,AV.ad 56 []],AV.agg [AV.int 1,AV.str bY,AV.int 0,AV.ad 56 []]]],AV.agg [AV.int 0,AV.str s0,
 AV.int 0,AV.nil],AV.agg [AV.int 0,AV.str s0,AV.int 0,AV.nil]]],AV.int 0],AV.agg [AV.agg [AV.str Vy.rel,AV.ad 56 [AV.agg [AV.int 1,AV.str bX,AV.int 0,
 AV.ad 56 []],AV.agg [AV.int 1,AV.str bZ,AV.int 0,AV.ad 56 []]]],AV.ad 72 [AV.agg [AV.int 1,AV.agg [AV.str bP,AV.ad 56 [AV.agg [AV.int 1,AV.str bX,
 AV.int 0,AV.ad 56 []],AV.agg [AV.int 1,AV.str bY,AV.int 0,AV.ad 56 []]]],AV.agg [AV.int 0,AV.str s0,AV.int 0,AV.nil],AV.agg [AV.int 0,AV.str s0,
 AV.int 0,AV.nil]],AV.agg [AV.int 1,AV.agg [AV.str bP,AV.ad 56 [AV.agg [AV.int 1,AV.str bY,AV.int 0,AV.ad 56 []],AV.agg [AV.int 1,AV.str bZ,AV.int 0,
 AV.ad 56 []]]],AV.agg [AV.int 0,AV.str s0,AV.int 0,AV.nil],AV.agg [AV.int 0,AV.str s0,AV.int 0,AV.nil]]],AV.int 0]]]],[])=QF e0/\EP e0/\aD (decide
 (Prod.snd (sR e0.1 e0.2)=(0:Int))) (aD ((↑(List.length (iU e0.1 e0.2)):Int) != (2:Int)) z1 (aX (true&&decide ((1:Int)<(↑(List.length (iU e0.1
 e0.2)):Int))) (aD ((↑(List.length (ai (ae (nth (iU e0.1 e0.2) 1) 1))):Int) != (1:Int)) z1 (aX (true&&decide ((1:Int)<(↑(List.length (iU e0.1 e0.2))
 :Int))) (aD ((↑(List.length (ai (ae (nth (iU e0.1 e0.2) 1) 2))):Int) != (2:Int)) z1 (aX (true&&decide ((1:Int)<(↑(List.length (iU e0.1 e0.2)):
 Int))) (aX (true&&decide ((0:Int)<(↑(List.length (ai (ae (nth (iU e0.1 e0.2) 1) 1))):Int))) (aD (toInt (ae (nth (ai (ae (nth (iU e0.1 e0.2) 1) 1)) 0) 3)
 ==(-1:Int)) (aX (true&&decide ((1:Int)<(↑(List.length (iU e0.1 e0.2)):Int))) (aX (true&&decide ((0:Int)<(↑(List.length (ai (ae (nth (iU e0.1
 e0.2) 1) 2))):Int))) (aD (toInt (ae (nth (ai (ae (nth (iU e0.1 e0.2) 1) 2)) 0) 3)==(0:Int)) (aX (true&&decide ((1:Int)<(↑(List.length (iU e0.1
 e0.2)):Int))) (aX (true&&decide ((1:Int)<(↑(List.length (ai (ae (nth (iU e0.1 e0.2) 1) 2))):Int))) (K (AV.bool (toInt (ae (nth (ai (ae (nth (iU e0.1
 e0.2) 1) 2)) 1) 3)==(1:Int))) []))) z1))) z1)))))))) (aD (Prod.snd (sR e0.1 e0.2) != (0:Int)) z1 z1)):=by kernel_rfl
def HZ:Rl:=⟨⟨bP,[tv bX,tv bY]⟩,[⟨1,⟨bE,[tv bX,tv bY]⟩,t0,t0⟩]⟩
def IH:Rl:=⟨⟨bP,[tv bX,tv bZ]⟩,[⟨1,⟨bP,[tv bX,tv bY]⟩,t0,t0⟩,⟨1,⟨bP,[tv bY,tv bZ]⟩,t0,t0⟩]⟩
theorem J9(s:ByteArray):cR (Se s)=tv s:=by rw[oH];rfl
theorem JB:cR Yc=t0:=by rw[dh];rfl
theorem DX:aF S3=HZ:=by
 simp only[aF,S3,HZ,aa,dg,ac1,ac2,J9,cK,Eu,ae,nth,JB,ai,toInt,toStr]
theorem ET:aF Vy=IH:=by
 simp only[aF,Vy,IH,aa,dg,ac1,ac2,J9,cK,Eu,ae,nth,JB,ai,toInt,toStr]
theorem Rk:isName bE=true:=iu _ (by decide+kernel) (by decide+kernel) (by decide+kernel)
theorem XC:isName bA=true:=iu _ (by decide+kernel) (by decide+kernel) (by decide+kernel)
theorem WV:isName bB=true:=iu _ (by decide+kernel) (by decide+kernel) (by decide+kernel)
theorem IJ:isName bP=true:=iu _ (by decide+kernel) (by decide+kernel) (by decide+kernel)
theorem M4:isName bX=true:=iu _ (by decide+kernel) (by decide+kernel) (by decide+kernel)
theorem N5:isName bY=true:=iu _ (by decide+kernel) (by decide+kernel) (by decide+kernel)
theorem SZ:isName bZ=true:=iu _ (by decide+kernel) (by decide+kernel) (by decide+kernel)
theorem w5(r s t:ByteArray)(hr:isName r=true)(hs:isName s=true)(ht:isName t=true):bk ⟨r,[tv s,tv t]⟩=true:=by
 simp[bk,hr,vj 19 s hs,vj 19 t ht]
theorem uA(r s t:ByteArray)(hr:isName r=true)(hs:isName s=true)(ht:isName t=true):iR ⟨1,⟨r,[tv s,tv t]⟩,t0,t0⟩=true:=by
 simp[iR,w5 r s t hr hs ht,Ms]
theorem wD:aM HZ=true:=by
 simp[aM,HZ,w5 bP bX bY IJ M4 N5,uA bE bX bY Rk M4 N5,u5]
theorem vO:aM IH=true:=by
 simp[aM,IH,w5 bP bX bZ IJ M4 SZ,uA bP bX bY IJ M4 N5,uA bP bY bZ IJ N5 SZ,u5]
theorem Nl(s:ByteArray)(h:isName s=true):uJ (PB s)=true:=by
 have:z6 [.lit (.string bA), .lit (.string bB)] [.int 1, .int 1]=true:=by
  simp only[z6,toStr,XC,WV];rfl
 unfold uJ Cc
 simp only[PB,ae,nth,toStr,ai,h,this]
 rfl
theorem F3:eW r7 tc=true:=by
 have e1:uJ (PB bE)=true:=Nl _ Rk
 have e2:uJ (PB bP)=true:=Nl _ IJ
 have e3:lK (ar S3)=true:=(congrArg aM DX).trans wD
 have e4:lK (ar Vy)=true:=(congrArg aM ET).trans vO
 simp only[eW,r7,tc,List.all_cons,List.all_nil,e1,e2,e3,e4];rfl
theorem Mk:(pV (cH r7) HZ).1=0:=by
 have:cZ HZ=[bX,bY]:=by unfold cZ;rw[wD,aa8];decide+kernel
 unfold pV
 rw[this]
 decide+kernel
theorem MM:(pV (cH r7) IH).1=0:=by
 have:cZ IH=[bX,bZ,bY]:=by unfold cZ;rw[vO,aa8];decide+kernel
 unfold pV
 rw[this]
 decide+kernel
theorem of_B{x:cm}{r:Rl}(hr:aF x=r)(h:aM r=true)(h2:iO r=true)(h3:ar (ez (ar x))=ar x)(h4:aF (ez (ar x))=aF x)(h5:(pV (cH r7) r).1=0):jJ r7 (ar x)=0/\jk (ar x)=0:=by
 constructor
 ·have hR:eW r7 [ar x]=true:=by
   have e1:uJ (PB bE)=true:=Nl _ Rk
   have e2:uJ (PB bP)=true:=Nl _ IJ
   have e3:lK (ar x)=true:=(congrArg aM hr).trans h
   simp only[eW,r7,List.all_cons,List.all_nil,e1,e2,e3];rfl
  unfold jJ sI
  rw[h3,hR,aa8]
  simp only[h4,hr]
  exact h5
 ·unfold jk wh
  rw[h4,hr,h,h2];rfl
theorem TD:(fH r7 tc).2=0:=by
 have h1:=of_B DX wD (by decide+kernel) rfl rfl Mk
 have h2:=of_B ET vO (by decide+kernel) rfl rfl MM
 refine zH.2 ⟨F3,by decide+kernel,fun y hy=>?_,fun y hy=>?_⟩
 ·rcases List.mem_cons.1 hy with rfl|hy
  ·exact h1.1
  ·obtain rfl:=List.mem_singleton.1 hy
   exact h2.1
 ·rcases List.mem_cons.1 hy with rfl|hy
  ·exact h1.2
  ·obtain rfl:=List.mem_singleton.1 hy
   exact h2.2
theorem G8{x:cm}{r:Rl}(hr:aF x=r)(h5:(ez (ar x)).hl=x.hl/\(ez (ar x)).bl=x.bl)(hc:pG r<=100000)(hl:x.bl.length<=100000):dd (ez (ar x)):=by
 refine⟨?_,by rw[h5.2];exact hl⟩
 rw[h5.1,h5.2]
 have:=mv 56 x.rel x.hl x.bl
 rw[show(⟨⟨x.rel,aa x.hl⟩,dg x.bl⟩:Rl)=aF x from rfl,hr] at this
 rw[this];exact hc
theorem Qq:fE r7 tc:=by
 refine⟨by decide,by decide,fun y hy=>?_⟩
 rcases List.mem_cons.1 hy with rfl|hy
 ·exact G8 DX ⟨rfl,rfl⟩ (by decide) (by decide)
 ·obtain rfl:=List.mem_singleton.1 hy
  exact G8 ET ⟨rfl,rfl⟩ (by decide) (by decide)
theorem QU:(rI r7 tc [1] tc).map QD.delta=[-1]:=by decide+kernel
theorem Ql:(rP r7 tc [1] tc).map QD.delta=[0,1]:=by decide+kernel
theorem Vl:fu r7 tc=[[0],[1]]:=by decide+kernel
theorem WE:(xC r7.length (jK r7 tc) (ph r7 tc) r7 tc).2=0:=by decide+kernel
theorem XI:(sR r7 tc).2=0:=Sf.2 ⟨TD,WE⟩
theorem S2: ∃r1 s1 o1 r2 s2 o2 r3 s3 o3,iU r7 tc=[Ba r7 tc [0], .agg [.ad 3 (iA [1]), .ad 45 [qA ⟨r1,s1,o1, -1⟩], .ad 45 [qA ⟨r2,s2,o2,0⟩,qA ⟨r3,s3,o3,1⟩]]]:=by
 have h1:=QU
 have h2:=Ql
 rw[iU,Vl,ac1,ac1,ac2]
 rw[show Ba r7 tc [1]= .agg [.ad 3 (iA [1]), .ad 45 ((rI r7 tc [1] tc).map qA), .ad 45 ((rP r7 tc [1] tc).map qA)] from rfl]
 generalize rI r7 tc [1] tc=l at h1
 generalize rP r7 tc [1] tc=m at h2
 match l,m,h1,h2 with
 |[⟨r1,s1,o1,d1⟩],[⟨r2,s2,o2,d2⟩,⟨r3,s3,o3,d3⟩],h1,h2=>
  simp only[ac1,ac2,List.cons.injEq,and_true] at h1 h2
  obtain rfl:=h1
  obtain⟨rfl,rfl⟩:=h2
  exact⟨r1,s1,o1,r2,s2,o2,r3,s3,o3,rfl⟩
def TS:List AV->Option (Bool×AV)
 |[]=>some (true, .bool true)
 |_=>none
theorem Wo(κ:Kp):cU (XD κ).E 12 10 TS:=by
 intro args x hh
 unfold TS at hh
 split at hh
 ·simp only[aa4,ab0,true_and] at hh
  subst hh
  refine⟨_,rfl,rfl,?_⟩
  refine Eq.mpr (WL κ _) ?_
  refine⟨(r7,tc),rfl,Qq,?_⟩
  simp only[XI]
  obtain⟨r1,s1,o1,r2,s2,o2,r3,s3,o3,h⟩:=S2
  simp only[h]
  rfl
 ·cases hh
noncomputable def QM(κ:Kp):EB:=(XD κ).pure (Wo κ)
structure UY where
 ds:List AV
 rs:List AV
 i:Nat
 n:Nat
 k:Nat
abbrev RN(x:UY):S:=sp 91 [(1, .ad 73 []),(2, .ptr 0 0 [] 0),(5, .int x.i),(6, .int x.n),(7, .int x.k)] [.box 25 (gJ x.ds x.rs)]
theorem xLk(κ:Kp)(x:UY)(I:Nat->S->Prop)(n:Nat)(K:Exit->S->Prop):(vc (QM κ).E 12 11 none 0 (af (Pr κ).toProgram 11 8) (RN x) (bK (QM κ).E 11 8 0 I n K))=(
 letI z1:=ai (ae (nth x.rs (Int.toNat (↑(x.i):Int))) 1)
 letI z2:=AV.agg [AV.ad 61 x.ds,AV.ad 66 x.rs]
 letI z3:=true&&decide ((↑(x.i):Int)<(↑(x.rs.length):Int))
 letI z4:=IntKind.wrap IntKind.i64 ((↑(x.k):Int)+(1:Int))
 letI z5:=(↑(x.k):Int)<(↑(List.length z1):Int)
 aX z3 (aD (decide z5) (aX z3 (aX (true&&decide z5) (aD (toInt (ae (nth z1 (Int.toNat (↑(x.k):Int))) 0)==(1:Int)) (∃(e0:Nat),e0<n/\I e0 (sp 91
 [(1,AV.ad 73 []),(2,AV.ptr 0 0 [] 0),(5,AV.int (↑(x.i):Int)),(6,AV.int (IntKind.wrap IntKind.i64 ((↑(x.n):Int)+(1:Int)))),(7,AV.int z4)]
 [Obj.box 25 z2])) (∃(e0:Nat),e0<n/\I e0 (sp 91 [(1,AV.ad 73 []),(2,AV.ptr 0 0 [] 0),(5,AV.int (↑(x.i):Int)),(6,AV.int (↑(x.n):Int)),(7,
 AV.int z4)] [Obj.box 25 z2]))))) (K (Exit.exit 2) (sp 91 [(1,AV.ad 73 []),(2,AV.ptr 0 0 [] 0),(5,AV.int (↑(x.i):Int)),(6,AV.int (↑(x.n):Int))]
 [Obj.box 25 z2])))):=by kernel_rfl
def x3(l:List AV):Nat:=(l.filter fun x=>toInt (ae x 0)==1).length
def MI(x:UY):Prop:=x.i<x.rs.length/\x.k<=(ai (ae (nth x.rs x.i) 1)).length/\(ai (ae (nth x.rs x.i) 1)).length<=100000/\x.n<=x.k
def JF(x:UY):Out (Exit×S):= .one (.exit 2,sp 91 [(1, .ad 73 []),(2, .ptr 0 0 [] 0),(5, .int x.i),(6, .int (x.n+x3 ((ai (ae (nth x.rs x.i) 1)).drop x.k):Nat))] [.box 25 (gJ x.ds x.rs)])
theorem lLk(κ:Kp):bj (QM κ).E 12 11 8 (aO 0 RN MI JF):=by
 refine aK (fun x=>(ai (ae (nth x.rs x.i) 1)).length - x.k) ?_
 rintro⟨ds,rs,i,n,k⟩ K ⟨h1,h2,h3,h4⟩ ho
 simp only at h1 h2 h3 h4
 rw[show(QM κ).E.P=Pr κ from rfl]
 refine Eq.mpr (xLk κ ⟨ds,rs,i,n,k⟩ _ _ K) ?_
 simp only[Int.toNat_natCast]
 refine aq.2 ⟨by simp;omega,?_⟩
 rw[ah,aa1,aa3]
 simp only[JF,Out.run] at ho
 refine⟨fun h=>aq.2 ⟨by simp;omega,aq.2 ⟨by simp;omega,?_⟩⟩,fun h=>?_⟩
 ·have hk:k<(ai (ae (nth rs i) 1)).length:=by omega
  rw[aW (n:=(k:Int)+1) (by omega) (by omega),aW (n:=(n:Int)+1) (by omega) (by omega)]
  have hd:x3 ((ai (ae (nth rs i) 1)).drop k)=(bif toInt (ae (nth (ai (ae (nth rs i) 1)) k) 0)==1 then 1 else 0)+x3 ((ai (ae (nth rs i) 1)).drop (k+1)):=by
   rw[ab2 hk,←bf _ k hk]
   unfold x3
   rw[List.filter_cons]
   cases toInt (ae (nth (ai (ae (nth rs i) 1)) k) 0)==1 with
   |true=>simp;omega
   |false=>simp
  rw[hd] at ho
  rw[ah]
  refine⟨fun e=>?_,fun e=>?_⟩
  ·rw[e,aa8] at ho
   refine⟨_,?_,⟨ds,rs,i,n+1,k+1⟩,rfl,⟨h1,hk,h3,by simp only;omega⟩,rfl,?_⟩
   ·simp only;omega
   ·simp only[JF,Out.run]
    rw[Nat.add_assoc];exact ho
  ·rw[e,aa6,Nat.zero_add] at ho
   refine⟨_,?_,⟨ds,rs,i,n,k+1⟩,rfl,⟨h1,hk,h3,by simp only;omega⟩,rfl,ho⟩
   simp only;omega
 ·rw[aa9 (by omega)] at ho
  exact ho
noncomputable def Q8(κ:Kp):EB:=(QM κ).loop (lLk κ)
abbrev SY(ds rs:List AV)(i:Nat):S:=sp 91 [(1, .ad 73 []),(2, .ptr 0 0 [] 0),(5, .int i)] [.box 25 (gJ ds rs)]
theorem xLr(κ:Kp)(ds rs:List AV)(i:Nat)(I:Nat->S->Prop)(n:Nat)(K:Exit->S->Prop):(vc (Q8 κ).E 12 11 none 0 (af (Pr κ).toProgram 11 4) (SY ds rs i) (bK (Q8 κ).E 11 4 0 I n K))=(
 letI z1:=Pg.toProgram (Env.P (EB.E (QM κ)))
 aD (decide ((↑i:Int)<(↑(rs.length):Int))) (af z1 11 8=af z1 11 8/\∃(e1:UY),sp 91 [(1,AV.ad 73 []),(2,AV.ptr 0 0 [] 0),(5,AV.int (↑i:Int)),
 (6,AV.int 0),(7,AV.int 0)] [Obj.box 25 (AV.agg [AV.ad 61 ds,AV.ad 66 rs])]=RN e1/\MI e1/\aD (decide ((↑(e1.n+x3 (List.drop e1.k (ai (ae (nth e1.rs
 e1.i) 1)))):Int)>(3:Int))) (K Exit.ret (sp 91 [(4,AV.int 0)] [])) (∃(e0:Nat),e0<n/\I e0 (sp 91 [(1,AV.ad 73 []),(2,AV.ptr 0 0 [] 0),(5,AV.int
 (IntKind.wrap IntKind.i64 ((↑(e1.i):Int)+(1:Int))))] [Obj.box 25 (AV.agg [AV.ad 61 e1.ds,AV.ad 66 e1.rs])]))) (K (Exit.exit 0) (sp 91 [(1,AV.ad 73 [])]
 []))):=by kernel_rfl
def TV(r:AV):Bool:=decide (x3 (ai (ae r 1))<=3)
structure V1 where
 ds:List AV
 rs:List AV
 i:Nat
abbrev P4(x:V1):S:=SY x.ds x.rs x.i
def MH(x:V1):Prop:=x.i<=x.rs.length/\x.rs.length<=100000/\∀r,r∈x.rs->(ai (ae r 1)).length<=100000
def LK(x:V1):Out (Exit×S):= .aD ((x.rs.drop x.i).all TV) (.one (.exit 0,sp 91 [(1, .ad 73 [])] [])) (.one (.ret,sp 91 [(4, .int 0)] []))
theorem lLr(κ:Kp):bj (Q8 κ).E 12 11 4 (aO 0 P4 MH LK):=by
 refine aK (fun x=>x.rs.length - x.i) ?_
 rintro⟨ds,rs,i⟩ K ⟨h1,h2,h3⟩ ho
 simp only at h1 h2 h3
 rw[show(Q8 κ).E.P=Pr κ from rfl]
 refine Eq.mpr (xLr κ ds rs i _ _ K) ?_
 simp only[LK,Out.run,ah] at ho
 rw[ah,aa1,aa3]
 refine⟨fun h=>?_,fun h=>?_⟩
 ·have hk:i<rs.length:=by omega
  have hx:nth rs i∈rs:=by rw[bf _ _ hk];exact List.getElem_mem _
  rw[ab2 hk,←bf _ i hk,List.all_cons] at ho
  refine⟨rfl,⟨ds,rs,i,0,0⟩,rfl,⟨hk,Nat.zero_le _,h3 _ hx,Nat.le_refl _⟩,?_⟩
  simp only[ab1,Nat.zero_add]
  rw[aW (n:=(i:Int)+1) (by omega) (by omega),ah,aa1,aa3]
  refine⟨fun e=>ho.2 ?_,fun e=>⟨_,?_,⟨ds,rs,i+1⟩,rfl,⟨hk,h2,h3⟩,rfl,?_⟩⟩
  ·rw[show TV (nth rs i)=false from aa5 (by omega),Bool.false_and]
  ·simp only;omega
  ·simp only[LK,Out.run,ah]
   rw[show TV (nth rs i)=true from aa7 (by omega),ac0] at ho
   exact ho
 ·rw[aa9 (by omega)] at ho
  exact ho.1 rfl
noncomputable def Qy(κ:Kp):EB:=(Q8 κ).loop (lLr κ)
theorem xLw(κ:Kp)(I:Nat->S->Prop)(n:Nat)(K:Exit->S->Prop):(vc (Qy κ).E 12 11 none 0 (af (Pr κ).toProgram 11 16) (sp 91 [(1, .ad 73 []),(8, .int 0),(9, .int 0)] []) (bK (Qy κ).E 11 16 0 I n K))=(
 K (Exit.exit 4) (sp 91 [] [])):=by kernel_rfl
abbrev Ux(_:Unit):S:=sp 91 [(1, .ad 73 []),(8, .int 0),(9, .int 0)] []
def Vk(_:Unit):Out (Exit×S):= .one (.exit 4,sp 91 [] [])
theorem lLw(κ:Kp):bj (Qy κ).E 12 11 16 (aO 0 Ux (fun _=>True) Vk):=by
 refine aK (fun _=>0) ?_
 rintro⟨⟩ K _ ho
 rw[show(Qy κ).E.P=Pr κ from rfl]
 exact Eq.mpr (xLw κ _ _ K) ho
noncomputable def Xy(κ:Kp):EB:=(Qy κ).loop (lLw κ)
theorem yLw(κ:Kp)(ds rs:List AV)(K:AV->List Dn.Obj->Prop):(a8 (Xy κ).E 12 11 [gJ ds rs, .ad 73 []] [] K)=(
 letI z1:=Pg.toProgram (Env.P (EB.E (Q8 κ)))
 letI z2:=Pg.toProgram (Env.P (EB.E (Qy κ)))
 aX (decide (ds.length<=9223372036854775807)&&List.all ds fun(e0:AV)=>decide (List.length (ai (ae e0 1))<=9223372036854775807)) (aD ((bif jN ds rs then
 (1:Int) else(0:Int))==(0:Int)) (K (AV.int 0) []) (aD (decide ((↑(rs.length):Int)>(8:Int))) (K (AV.int 0) []) (af z1 11 4=af z1 11 4/\∃(e1:
 V1),sp 91 [(1,AV.ad 73 []),(2,AV.ptr 0 0 [] 0),(5,AV.int 0)] [Obj.box 25 (AV.agg [AV.ad 61 ds,AV.ad 66 rs])]=P4 e1/\MH e1/\aD (List.all (List.drop
 e1.i e1.rs) TV) (af z2 11 16=af z2 11 16/\∃(e0:Unit),sp 91 [(1,AV.ad 73 []),(8,AV.int 0),(9,AV.int 0)] []=Ux e0/\True/\K (AV.int 1) []) (K
 (AV.int 0) []))))):=by kernel_rfl
def rZ(ds rs:List AV):Bool:=jN ds rs&&(decide (rs.length<=8)&&rs.all TV)
def Y2:List AV->Option (Bool×AV)
 |[.agg [.ad 61 ds, .ad 66 rs], .ad 73 []]=>some (decide (ds.length<=aR)&&ds.all (fun d=>decide ((ai (ae d 1)).length<=aR)), .int (bif rZ ds rs then 1 else 0))
 |_=>none
theorem pLw(κ:Kp):cU (Xy κ).E 12 11 Y2:=by
 intro args x hh
 unfold Y2 at hh
 split at hh
 ·rename_i ds rs
  simp only[aa4,ab0] at hh
  obtain⟨h1,rfl⟩:=hh
  refine⟨_,rfl,rfl,?_⟩
  refine Eq.mpr (yLw κ ds rs _) ?_
  refine aq.2 ⟨h1,?_⟩
  unfold rZ
  cases hs:jN ds rs with
  |false=>exact rfl
  | true=>
   rw[ac0]
   refine ah.2 ⟨fun e=>absurd e (by decide),fun _=>?_⟩
   rw[ah,aa1,aa3]
   refine⟨fun e=>?_,fun e=>⟨rfl,⟨ds,rs,0⟩,rfl,⟨Nat.zero_le _,by show rs.length<=100000;omega,fun r hr=>(sO hs).2.2 r hr|>.2⟩,?_⟩⟩
   ·rw[aa5 (show ¬ rs.length<=8 by omega)];rfl
   ·rw[aa7 (show rs.length<=8 by omega),ac0,ab1]
    rw[ah]
    refine⟨fun e2=>⟨rfl,(),rfl,trivial,?_⟩,fun e2=>?_⟩
    ·rw[e2];rfl
    ·rw[e2];rfl
 ·cases hh
noncomputable def BLi(κ:Kp):EB:=(Xy κ).pure (pLw κ)
structure ALg where
 ds:List AV
 rs:List AV
 i:Nat
theorem tV(ds rs:List AV):(iU ds rs).length=(fu ds rs).length:=by simp[iU]
theorem G6(ds rs:List AV)(i:Nat)(h:i<(fu ds rs).length):nth (iU ds rs) i=Ba ds rs (fu ds rs)[i]:=by
 rw[bf _ _ (by rw[tV];exact h)]
 simp[iU]
theorem IT{ds rs:List AV}(h1:ds.length<=aR)(h2: ∀d,d∈ds->(ai (ae d 1)).length<=aR){p q:Prop}(hp:p)(hq:jN ds rs=true->rs.length<=8->q):
  aX (decide (ds.length<=aR)&&ds.all fun d=>decide ((ai (ae d 1)).length<=aR)) (aD ((bif rZ ds rs then(1:Int) else 0)==0) p q):=by
 refine aq.2 ⟨?_,?_⟩
 ·rw[aa2,aa1,List.all_eq_true]
  exact⟨h1,fun d hd=>aa7 (h2 d hd)⟩
 ·cases hs:rZ ds rs with
  |false=>exact hp
  |true=>
   simp only[rZ,aa2,aa1] at hs
   exact hq hs.1 hs.2.1
end Go.Proofs.YthaiinlfnommnaaGreatDoor
