import Derived.Test.YthaiinlfnommnaaGreatDoorDbMF
namespace Go.Proofs.YthaiinlfnommnaaGreatDoor
open Go Go.Dn Go.Rl Go.Proofs
attribute [local irreducible] bf vc
set_option maxRecDepth 20000
theorem Oq{ds rs:List AV}(hs:eX ds rs)(hc:(ft ds rs).2=0){k:Nat}(hk:k<rs.length): ∃j,JA (hJ ds rs) (A5 ds (nth rs k)) (Gn ds rs (nth rs k)) j:=by
 have hx:nth rs k∈rs:=by rw[aZ _ _ hk];exact List.getElem_mem _
 have hG:=ry hs hc _ hx
 have h1:=(Bk (iR hc)).all _ hG.hd.1 hG.hd.2 (by simp)
 obtain⟨g,hg,hm⟩:=List.mem_flatten.1 h1
 obtain⟨j,hj,rfl⟩:=List.getElem_of_mem hg
 exact⟨j,Nz hs hc hk hj hm fun ha=>Ki hs hc hk (List.getElem_mem hj) hm ha⟩
theorem Vd(κ:Kp)(ds rs:List AV)(k:Int)(h1:ds.length<=aM)(h2: ∀d,d∈ds->(ai (ae d 1)).length<=aM):dq (Pr κ) 5 [gS ds rs, .int k] [] (fun r _=>r= .bool true):=by
 refine iK (XE κ).ok (XE κ).mono (N:=12) ?_
 refine Eq.mpr (yBh κ ds rs k _) (Il h1 h2 rfl fun hs _=>?_)
 have hp:=tc hs
 refine⟨(ds,rs),rfl,hp,?_⟩
 rw[af,aa2,aa4]
 refine⟨fun e=>⟨⟨ds,rs,k⟩,rfl,hp,?_⟩,fun e=>⟨⟨ds,rs,k⟩,rfl,hp,?_⟩⟩
 ·rw[af,aa2,aa4]
  refine⟨fun e2=>⟨⟨ds,rs,k⟩,rfl,hp,rfl,?_⟩,fun e2=>af.2 ⟨fun _=>rfl,fun e3=>absurd (by simpa using e3) e2⟩⟩
  obtain⟨hc,ha,_⟩:=F6 e2
  have ha:0<=k/\k<(rs.length:Int):=ha
  have hk:k.toNat<rs.length:=by omega
  obtain⟨j,hg⟩:=Oq hp hc hk
  have hag:Jk ds rs k=Gn ds rs (nth rs k.toNat):=by unfold Jk;rw[aa8 e2];rfl
  refine⟨⟨hJ ds rs,A5 ds (nth rs k.toNat),Gn ds rs (nth rs k.toNat),0,j,0⟩,?_,⟨hg,Nat.zero_le _⟩,rfl⟩
  simp only
  rw[hag,e2]
  rfl
 ·rw[af]
  have e3:(((s8 ds rs).2 != (0:Int))=true):=by simpa using e
  refine⟨fun _=>af.2 ⟨fun _=>rfl,fun e4=>absurd (e3.symm.trans e4) (by decide)⟩,fun _=>af.2 ⟨fun _=>rfl,fun e4=>absurd (e3.symm.trans e4) (by decide)⟩⟩
end Go.Proofs.YthaiinlfnommnaaGreatDoor
