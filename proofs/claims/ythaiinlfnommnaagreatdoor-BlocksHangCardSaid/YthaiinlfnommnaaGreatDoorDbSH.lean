/-
  What is proved: whatever program is handed in, the law BlocksHang answers true, and its arguments read as before; the program's five listed variables hold what the text lays.
-/
import Derived.Test.YthaiinlfnommnaaGreatDoorDbPE
import Derived.Test.YthaiinlfnommnaaGreatDoorTie
import Derived.Test.YthaiinlfnommnaaGreatDoorCards
namespace Go.Proofs.YthaiinlfnommnaaGreatDoor
open Go Go.Dn Go.Rl Go.Proofs Go.ChangeShapes Go.WideShapes Go.ChangeAt Go.RowKit
theorem wT{a:AV}{T E:TypeId}(hu:Tryz.prog.underlying T=some (.slice E))(h:gY Tryz.prog a T): ∃l,a= .ad E l/\l.length<=maxLen/\nU Tryz.prog l E:=by
 cases a<;>simp only[gY,hu] at h
 ·obtain⟨h1,h2,h3⟩:=h
  cases h1
  exact⟨_,rfl,h2,h3⟩
 ·obtain⟨fs,⟨h1,_⟩,_⟩:=h
  cases h1
theorem CC{E:TypeId}: ∀{l:List AV},nU Tryz.prog l E->∀a,a∈l->gY Tryz.prog a E
 |[],_,_,h=>nomatch h
 |b::l,h,a,ha=>by
  simp only[nU] at h
  rcases List.mem_cons.1 ha with rfl|ha
  ·exact h.1
  ·exact CC h.2 a ha
theorem HU{a:AV}(h:gY Tryz.prog a 61):(ai (ae a 1)).length<=maxLen:=by
 cases a<;>simp only[gY,Tryz.underlying61] at h
 ·obtain⟨h1,_⟩:=h
  cases h1
 ·rename_i l
  obtain⟨fs,⟨h1,_⟩,h2⟩:=h
  cases h1
  match l,h2 with
  |[_,y,_,_,_,_],h2=>
   simp only[n9] at h2
   obtain⟨ns,rfl,h3,_⟩:=wT Tryz.underlying54 h2.2.1
   exact h3
theorem HO{a:AV}(h:gY Tryz.prog a 25): ∃ds rs,a=gJ ds rs/\ds.length<=maxLen/\∀d,d∈ds->(ai (ae d 1)).length<=maxLen:=by
 cases a<;>simp only[gY,Tryz.underlying25] at h
 ·obtain⟨h1,_⟩:=h
  cases h1
 ·rename_i l
  obtain⟨fs,⟨h1,_⟩,h2⟩:=h
  cases h1
  match l,h2 with
  |[x,y],h2=>
   simp only[n9] at h2
   obtain⟨ds,rfl,h3,h4⟩:=wT Tryz.underlying22 h2.1
   obtain⟨rs,rfl,_⟩:=wT Tryz.underlying23 h2.2.1
   exact⟨ds,rs,rfl,h3,fun d hd=>HU (CC h4 d hd)⟩
theorem xI:maxLen<=aR:=by decide
theorem Us(κ:Kp)(al:List AV)(h:nV Tryz.prog Tryz.f8.params.toList al):cM (Pr κ) 8 al [] fun r _=>r= .bool true:=by
 have h':nV Tryz.prog [25] al:=h
 match al,h' with
 |[a],h'=>
  simp only[nV] at h'
  obtain⟨ds,rs,rfl,h1,h2⟩:=HO h'.1
  exact Ui κ ds rs (Nat.le_trans h1 xI) fun d hd=>Nat.le_trans (h2 d hd) xI
def O7:List TypeId:=[9,3,2,4,56,43,63,72,64,66,23,54,38,61,22,25]
theorem Mo:OP Tryz.prog O7=true:=by kernel_rfl
set_option maxRecDepth 100000 in
theorem Ob(os:Os)(started:os.Started)(H:Type)(enc:TypeId×Value->H)(F:Stop.Interp):
  ReturnsInHanded {} Tryz.checked os 8 .any ((OpenSpec.ofChange Rows.blocksHangSpec).preRow enc Tryz.prog Tryz.f8 Rows.blocksHangRow.domain false Rows.blocksHangRow.laid) (((OpenSpec.ofChange Rows.blocksHangSpec).at F).post enc Tryz.prog Tryz.f8 false true false false):=by
 refine returnsInHanded_of_row (C:=Tryz.checked) (s:=OpenSpec.ofChange Rows.blocksHangSpec) own started (by kernel_rfl) Tryz.func8
  (witness_row_at (enc:=enc) (C:=Tryz.checked) false (yt os) #[.agg #[.slice none 0 0, .slice none 0 0]] rfl (by kernel_rfl) (by kernel_rfl) (by kernel_rfl)
   (OpenSpec.preRow_of_cond 8 (x:=([.agg [.nil, .nil]],[],[])) (by kernel_rfl) (by kernel_rfl) (fun k hk=>by cases hk) (by kernel_rfl) (LJ os _))) ?_
 intro W base args ds gs before hval hW _ _ _ hL _ _
 obtain⟨κ,hκ⟩:=Ar hL
 exact Au yM.lay Ks Mo rfl (by kernel_rfl) (by kernel_rfl) rfl hval hW (fun d hd=>by match d,hd with|[_],_=>rfl) hκ (fun al h _=>Us κ al h)
theorem wP:Rows.BlocksHangSaid:=
 OpenClaim.holds_of_cond 8 Tryz.f8 rfl rfl rfl rfl rfl rfl rfl ⟨rfl,rfl,rfl,rfl,rfl⟩ rfl rfl rfl rfl rfl (by kernel_rfl) Tryz.func8 (by kernel_rfl)
  (of_decide_eq_true (by kernel_rfl)) (by unfold Func.isWrapper;first|(rw[if_pos (by decide+kernel)];kernel_rfl)|(rw[if_neg (by decide+kernel)];exact⟨rfl,rfl⟩))
  (fun os started H enc _ F=>by rw[OpenClaim.pre_eq_preRow];exact Ob os started H enc F)
theorem blocksHang_holds:Rows.BlocksHangCardSaid:=
 Claim7.holds_tied_plain_at .later [] [.sentinel, .sentinel, .sentinel, .sentinel, .sentinel] true (true, "53923c05d1921d84722514d4284bee93f7747f832f3a5af85cd1a2e70a8ad294") true
  wP (fun _ h=>by cases h) (by kernel_rfl) (fun _ h=>by cases h) blocksHang_row_tie rfl ⟨rfl,rfl⟩ (by kernel_rfl) rfl
  (fun f fn hf hfn=>by
   obtain rfl:f=8:=Option.some.inj ((show Tryz.prog.funcNamed "sorites/soriteslaw13.BlocksHang" =some 8 by kernel_rfl).symm.trans hf)|>.symm
   obtain rfl:fn=Tryz.f8:=(Option.some.inj (Tryz.func8.symm.trans hfn)).symm
   exact⟨by kernel_rfl,fun j t ht=>by
    have hall:((List.range 8).all fun j=>match Tryz.f8.params[j]? with|some t=>!Tryz.prog.wantsStandIn t|none=>true)=true:=by kernel_rfl
    have hsz:Tryz.f8.params.size<=8:=of_decide_eq_true (by kernel_rfl)
    have hj:j<8:=Nat.lt_of_lt_of_le (Array.getElem?_eq_some_iff.1 ht).1 hsz
    have:=List.all_eq_true.1 hall j (List.mem_range.2 hj)
    rw[ht] at this
    have hw:Tryz.prog.wantsStandIn t=false:=by simpa using this
    exact hw⟩)
  (by kernel_rfl)
#print axioms blocksHang_holds
end Go.Proofs.YthaiinlfnommnaaGreatDoor
