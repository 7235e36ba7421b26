/-
  What is proved: whatever program is handed in, the law BlocksAll answers true, and its arguments read as before; the program's five listed variables hold what the text lays.
-/
import Derived.Test.YthaiinlfnommnaaGreatDoorDbNQ
import Derived.Test.YthaiinlfnommnaaGreatDoorDbMX
import Derived.Test.YthaiinlfnommnaaGreatDoorTie
import Derived.Test.YthaiinlfnommnaaGreatDoorCards
namespace Go.Proofs.YthaiinlfnommnaaGreatDoor
open Go Go.Dn Go.Rl Go.Proofs Go.ChangeShapes Go.WideShapes Go.ChangeAt Go.RowKit
theorem wE{a:AV}{T E:TypeId}(hu:Tryz.prog.underlying T=some (.slice E))(h:gG Tryz.prog a T): ∃l,a= .ad E l/\l.length<=maxLen/\nQ Tryz.prog l E:=by
 cases a<;>simp only[gG,hu] at h
 ·obtain⟨h1,h2,h3⟩:=h
  cases h1
  exact⟨_,rfl,h2,h3⟩
 ·obtain⟨fs,⟨h1,_⟩,_⟩:=h
  cases h1
theorem Ck{E:TypeId}: ∀{l:List AV},nQ Tryz.prog l E->∀a,a∈l->gG Tryz.prog a E
 |[],_,_,h=>nomatch h
 |b::l,h,a,ha=>by
  simp only[nQ] at h
  rcases List.mem_cons.1 ha with rfl|ha
  ·exact h.1
  ·exact Ck h.2 a ha
theorem I7{a:AV}(h:gG Tryz.prog a 61):(ai (ae a 1)).length<=maxLen:=by
 cases a<;>simp only[gG,Tryz.underlying61] at h
 ·obtain⟨h1,_⟩:=h
  cases h1
 ·rename_i l
  obtain⟨fs,⟨h1,_⟩,h2⟩:=h
  cases h1
  match l,h2 with
  |[_,y,_,_,_,_],h2=>
   simp only[nw] at h2
   obtain⟨ns,rfl,h3,_⟩:=wE Tryz.underlying54 h2.2.1
   exact h3
theorem H2{a:AV}(h:gG Tryz.prog a 25): ∃ds rs,a=gS ds rs/\ds.length<=maxLen/\∀d,d∈ds->(ai (ae d 1)).length<=maxLen:=by
 cases a<;>simp only[gG,Tryz.underlying25] at h
 ·obtain⟨h1,_⟩:=h
  cases h1
 ·rename_i l
  obtain⟨fs,⟨h1,_⟩,h2⟩:=h
  cases h1
  match l,h2 with
  |[x,y],h2=>
   simp only[nw] at h2
   obtain⟨ds,rfl,h3,h4⟩:=wE Tryz.underlying22 h2.1
   obtain⟨rs,rfl,_⟩:=wE Tryz.underlying23 h2.2.1
   exact⟨ds,rs,rfl,h3,fun d hd=>I7 (Ck h4 d hd)⟩
theorem yO:maxLen<=aM:=by decide
theorem Lh{a:AV}(h:gG Tryz.prog a 3): ∃n,a= .int n:=by
 cases a<;>simp only[gG,Tryz.underlying3] at h
 ·obtain⟨n,rfl,_⟩:=h
  exact⟨n,rfl⟩
 ·obtain⟨h1,_⟩:=h
  cases h1
 ·obtain⟨fs,⟨h1,_⟩,_⟩:=h
  cases h1
theorem Tv(κ:Kp)(al:List AV)(h:ou Tryz.prog Tryz.f5.params.toList al):dq (Pr κ) 5 al [] fun r _=>r= .bool true:=by
 have h':ou Tryz.prog [25,3] al:=h
 match al,h' with
 |[a,k0],h'=>
  simp only[ou] at h'
  obtain⟨ds,rs,rfl,h1,h2⟩:=H2 h'.1
  obtain⟨n0,rfl⟩:=Lh h'.2.1
  exact Vd κ ds rs n0 (Nat.le_trans h1 yO) fun d hd=>Nat.le_trans (h2 d hd) yO
def Nl:List TypeId:=[9,3,2,4,56,43,63,72,64,66,23,54,38,61,22,25]
theorem L5:Nk Tryz.prog Nl=true:=by kernel_rfl
set_option maxRecDepth 100000 in
theorem Nm(os:Os)(started:os.Started)(H:Type)(enc:TypeId×Value->H)(F:Stop.Interp):
  ReturnsInHanded {} Tryz.checked os 5 .any ((OpenSpec.ofChange Rows.blocksAllSpec).preRow enc Tryz.prog Tryz.f5 Rows.blocksAllRow.domain false Rows.blocksAllRow.laid) (((OpenSpec.ofChange Rows.blocksAllSpec).at F).post enc Tryz.prog Tryz.f5 false true false false):=by
 refine returnsInHanded_of_row (C:=Tryz.checked) (s:=OpenSpec.ofChange Rows.blocksAllSpec) own started (by kernel_rfl) Tryz.func5
  (witness_row_at (enc:=enc) (C:=Tryz.checked) false (ye os) #[.agg #[.slice none 0 0, .slice none 0 0], .int .i64 0] rfl (by kernel_rfl) (by kernel_rfl) (by kernel_rfl)
   (OpenSpec.preRow_of_cond 8 (x:=([.agg [.nil, .nil], .lit (.int .i64 0)],[],[])) (by kernel_rfl) (by kernel_rfl) (fun k hk=>by cases hk) (by kernel_rfl) (KB os _))) ?_
 intro W base args ds gs before hval hW _ _ _ hL _ _
 obtain⟨κ,hκ⟩:=zW hL
 exact A1 yI.lay JC L5 rfl (by kernel_rfl) (by kernel_rfl) rfl hval hW (fun d hd=>by match d,hd with|[_,_],_=>rfl) hκ (fun al h _=>Tv κ al h)
theorem xr:Rows.BlocksAllSaid:=
 OpenClaim.holds_of_cond 5 Tryz.f5 rfl rfl rfl rfl rfl rfl rfl ⟨rfl,rfl,rfl,rfl,rfl⟩ rfl rfl rfl rfl rfl (by kernel_rfl) Tryz.func5 (by kernel_rfl)
  (of_decide_eq_true (by kernel_rfl)) (by unfold Func.isWrapper;first|(rw[if_pos (by decide+kernel)];kernel_rfl)|(rw[if_neg (by decide+kernel)];exact⟨rfl,rfl⟩))
  (fun os started H enc _ F=>by rw[OpenClaim.pre_eq_preRow];exact Nm os started H enc F)
theorem blocksAll_holds:Rows.BlocksAllCardSaid:=
 Claim7.holds_tied_plain_at .later [] [.sentinel, .sentinel, .sentinel, .sentinel, .sentinel] true (true, "53923c05d1921d84722514d4284bee93f7747f832f3a5af85cd1a2e70a8ad294") true
  xr (fun _ h=>by cases h) (by kernel_rfl) (fun _ h=>by cases h) blocksAll_row_tie rfl ⟨rfl,rfl⟩ (by kernel_rfl) rfl
  (fun f fn hf hfn=>by
   obtain rfl:f=5:=Option.some.inj ((show Tryz.prog.funcNamed "sorites/soriteslaw13.BlocksAll" =some 5 by kernel_rfl).symm.trans hf)|>.symm
   obtain rfl:fn=Tryz.f5:=(Option.some.inj (Tryz.func5.symm.trans hfn)).symm
   exact⟨by kernel_rfl,fun j t ht=>by
    have hall:((List.range 8).all fun j=>match Tryz.f5.params[j]? with|some t=>!Tryz.prog.wantsStandIn t|none=>true)=true:=by kernel_rfl
    have hsz:Tryz.f5.params.size<=8:=of_decide_eq_true (by kernel_rfl)
    have hj:j<8:=Nat.lt_of_lt_of_le (Array.getElem?_eq_some_iff.1 ht).1 hsz
    have:=List.all_eq_true.1 hall j (List.mem_range.2 hj)
    rw[ht] at this
    have hw:Tryz.prog.wantsStandIn t=false:=by simpa using this
    exact hw⟩)
  (by kernel_rfl)
#print axioms blocksAll_holds
end Go.Proofs.YthaiinlfnommnaaGreatDoor
