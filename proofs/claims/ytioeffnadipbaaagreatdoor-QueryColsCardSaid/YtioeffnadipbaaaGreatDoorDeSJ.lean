/-
  What is proved: whatever program is handed in, the law QueryCols answers true, and its arguments read as before; the program's five listed variables hold what the text lays.
-/
import Derived.Test.YtioeffnadipbaaaGreatDoorDeMC
import Derived.Test.YtioeffnadipbaaaGreatDoorDeMX
import Derived.Test.YtioeffnadipbaaaGreatDoorTie
import Derived.Test.YtioeffnadipbaaaGreatDoorCards
namespace Go.Proofs.YtioeffnadipbaaaGreatDoor
open Go Go.Dn Go.Rl Go.Proofs Go.ChangeShapes Go.WideShapes Go.ChangeAt Go.RowKit
theorem uE{a:AV}{T E:TypeId}(hu:Tryz.prog.underlying T=some (.slice E))(h:gy Tryz.prog a T): ∃l,a= .ad E l/\l.length<=maxLen/\nB Tryz.prog l E:=by
 cases a<;>simp only[gy,hu] at h
 ·obtain⟨h1,h2,h3⟩:=h
  cases h1
  exact⟨_,rfl,h2,h3⟩
 ·obtain⟨fs,⟨h1,_⟩,_⟩:=h
  cases h1
theorem BP{E:TypeId}: ∀{l:List AV},nB Tryz.prog l E->∀a,a∈l->gy Tryz.prog a E
 |[],_,_,h=>nomatch h
 |b::l,h,a,ha=>by
  simp only[nB] at h
  rcases List.mem_cons.1 ha with rfl|ha
  ·exact h.1
  ·exact BP h.2 a ha
theorem Gf{a:AV}(h:gy Tryz.prog a 43):(ah (af a 1)).length<=maxLen:=by
 cases a<;>simp only[gy,Tryz.underlying43] at h
 ·obtain⟨h1,_⟩:=h
  cases h1
 ·rename_i l
  obtain⟨fs,⟨h1,_⟩,h2⟩:=h
  cases h1
  match l,h2 with
  |[_,y,_,_,_,_],h2=>
   simp only[nH] at h2
   obtain⟨ns,rfl,h3,_⟩:=uE Tryz.underlying36 h2.2.1
   exact h3
theorem HR{a:AV}(h:gy Tryz.prog a 25): ∃ds rs,a=mO ds rs/\ds.length<=maxLen/\∀d,d∈ds->(ah (af d 1)).length<=maxLen:=by
 cases a<;>simp only[gy,Tryz.underlying25] at h
 ·obtain⟨h1,_⟩:=h
  cases h1
 ·rename_i l
  obtain⟨fs,⟨h1,_⟩,h2⟩:=h
  cases h1
  match l,h2 with
  |[x,y],h2=>
   simp only[nH] at h2
   obtain⟨ds,rfl,h3,h4⟩:=uE Tryz.underlying22 h2.1
   obtain⟨rs,rfl,_⟩:=uE Tryz.underlying23 h2.2.1
   exact⟨ds,rs,rfl,h3,fun d hd=>Gf (BP h4 d hd)⟩
theorem w6:maxLen<=aL:=by decide
theorem KJ{a:AV}(h:gy Tryz.prog a 3): ∃n,a= .int n:=by
 cases a<;>simp only[gy,Tryz.underlying3] at h
 ·obtain⟨n,rfl,_⟩:=h
  exact⟨n,rfl⟩
 ·obtain⟨h1,_⟩:=h
  cases h1
 ·obtain⟨fs,⟨h1,_⟩,_⟩:=h
  cases h1
theorem SY(κ:Kp)(al:List AV)(h:mY Tryz.prog Tryz.f3.params.toList al):bD (Pr κ) 3 al [] fun r _=>r= .bool true:=by
 have h':mY Tryz.prog [25,3] al:=h
 match al,h' with
 |[a,k0],h'=>
  simp only[mY] at h'
  obtain⟨ds,rs,rfl,h1,h2⟩:=HR h'.1
  obtain⟨n0,rfl⟩:=KJ h'.2.1
  exact Si κ ds rs n0 (Nat.le_trans h1 w6) fun d hd=>Nat.le_trans (h2 d hd) w6
def Mk:List TypeId:=[9,3,2,4,38,29,45,80,46,48,23,36,35,43,22,25]
theorem JU:Nh Tryz.prog Mk=true:=by kernel_rfl
set_option maxRecDepth 100000 in
theorem LP(os:Os)(started:os.Started)(H:Type)(enc:TypeId×Value->H)(F:Stop.Interp):
  ReturnsInHanded {} Tryz.checked os 3 .any ((OpenSpec.ofChange Rows.queryColsSpec).preRow enc Tryz.prog Tryz.f3 Rows.queryColsRow.domain false Rows.queryColsRow.laid) (((OpenSpec.ofChange Rows.queryColsSpec).at F).post enc Tryz.prog Tryz.f3 false true false false):=by
 refine returnsInHanded_of_row (C:=Tryz.checked) (s:=OpenSpec.ofChange Rows.queryColsSpec) own started (by kernel_rfl) Tryz.func3
  (witness_row_at (enc:=enc) (C:=Tryz.checked) false (w7 os) #[.agg #[.slice none 0 0, .slice none 0 0], .int .i64 0] rfl (by kernel_rfl) (by kernel_rfl) (by kernel_rfl)
   (OpenSpec.preRow_of_cond 8 (x:=([.agg [.nil, .nil], .lit (.int .i64 0)],[],[])) (by kernel_rfl) (by kernel_rfl) (fun k hk=>by cases hk) (by kernel_rfl) (IM os _))) ?_
 intro W base args ds gs before hval hW _ _ _ hL _ _
 obtain⟨κ,hκ⟩:=zp hL
 exact zW xI.lay Lf JU rfl (by kernel_rfl) (by kernel_rfl) rfl hval hW (fun d hd=>by match d,hd with|[_,_],_=>rfl) hκ (fun al h _=>SY κ al h)
theorem wB:Rows.QueryColsSaid:=
 OpenClaim.holds_of_cond 3 Tryz.f3 rfl rfl rfl rfl rfl rfl rfl ⟨rfl,rfl,rfl,rfl,rfl⟩ rfl rfl rfl rfl rfl (by kernel_rfl) Tryz.func3 (by kernel_rfl)
  (of_decide_eq_true (by kernel_rfl)) (by unfold Func.isWrapper;first|(rw[if_pos (by decide+kernel)];kernel_rfl)|(rw[if_neg (by decide+kernel)];exact⟨rfl,rfl⟩))
  (fun os started H enc _ F=>by rw[OpenClaim.pre_eq_preRow];exact LP os started H enc F)
theorem queryCols_holds:Rows.QueryColsCardSaid:=
 Claim7.holds_tied_plain_at .later [] [.sentinel, .sentinel, .sentinel, .sentinel, .sentinel] true (true, "70b998159403ba8378fa9eb9dde34844a1cdfe0836a4d8c218ca1eb549aee9fc") true
  wB (fun _ h=>by cases h) (by kernel_rfl) (fun _ h=>by cases h) queryCols_row_tie rfl ⟨rfl,rfl⟩ (by kernel_rfl) rfl
  (fun f fn hf hfn=>by
   obtain rfl:f=3:=Option.some.inj ((show Tryz.prog.funcNamed "sorites/soriteslaw11.QueryCols" =some 3 by kernel_rfl).symm.trans hf)|>.symm
   obtain rfl:fn=Tryz.f3:=(Option.some.inj (Tryz.func3.symm.trans hfn)).symm
   exact⟨by kernel_rfl,fun j t ht=>by
    have hall:((List.range 8).all fun j=>match Tryz.f3.params[j]? with|some t=>!Tryz.prog.wantsStandIn t|none=>true)=true:=by kernel_rfl
    have hsz:Tryz.f3.params.size<=8:=of_decide_eq_true (by kernel_rfl)
    have hj:j<8:=Nat.lt_of_lt_of_le (Array.getElem?_eq_some_iff.1 ht).1 hsz
    have:=List.all_eq_true.1 hall j (List.mem_range.2 hj)
    rw[ht] at this
    have hw:Tryz.prog.wantsStandIn t=false:=by simpa using this
    exact hw⟩)
  (by kernel_rfl)
#print axioms queryCols_holds
end Go.Proofs.YtioeffnadipbaaaGreatDoor
