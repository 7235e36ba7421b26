/-
  What is proved: whatever program is handed in, the law BlocksTurns answers true, and its arguments read as before; the program's five listed variables hold what the text lays.
-/
import Derived.Test.YthaiinlfnommnaaGreatDoorDbPD
import Derived.Test.YthaiinlfnommnaaGreatDoorTie
import Derived.Test.YthaiinlfnommnaaGreatDoorCards
namespace Go.Proofs.YthaiinlfnommnaaGreatDoor
open Go Go.Dn Go.Rl Go.Proofs Go.ChangeShapes Go.WideShapes Go.ChangeAt Go.RowKit
theorem vn{a:AV}{T E:TypeId}(hu:Tryz.prog.underlying T=some (.slice E))(h:gS Tryz.prog a T): ∃l,a= .ad E l/\l.length<=maxLen/\ot Tryz.prog l E:=by
 cases a<;>simp only[gS,hu] at h
 ·obtain⟨h1,h2,h3⟩:=h
  cases h1
  exact⟨_,rfl,h2,h3⟩
 ·obtain⟨fs,⟨h1,_⟩,_⟩:=h
  cases h1
theorem Ci{E:TypeId}: ∀{l:List AV},ot Tryz.prog l E->∀a,a∈l->gS Tryz.prog a E
 |[],_,_,h=>nomatch h
 |b::l,h,a,ha=>by
  simp only[ot] at h
  rcases List.mem_cons.1 ha with rfl|ha
  ·exact h.1
  ·exact Ci h.2 a ha
theorem Iq{a:AV}(h:gS Tryz.prog a 61):(ai (ae a 1)).length<=maxLen:=by
 cases a<;>simp only[gS,Tryz.underlying61] at h
 ·obtain⟨h1,_⟩:=h
  cases h1
 ·rename_i l
  obtain⟨fs,⟨h1,_⟩,h2⟩:=h
  cases h1
  match l,h2 with
  |[_,y,_,_,_,_],h2=>
   simp only[nh] at h2
   obtain⟨ns,rfl,h3,_⟩:=vn Tryz.underlying54 h2.2.1
   exact h3
theorem HD{a:AV}(h:gS Tryz.prog a 25): ∃ds rs,a=gN ds rs/\ds.length<=maxLen/\∀d,d∈ds->(ai (ae d 1)).length<=maxLen:=by
 cases a<;>simp only[gS,Tryz.underlying25] at h
 ·obtain⟨h1,_⟩:=h
  cases h1
 ·rename_i l
  obtain⟨fs,⟨h1,_⟩,h2⟩:=h
  cases h1
  match l,h2 with
  |[x,y],h2=>
   simp only[nh] at h2
   obtain⟨ds,rfl,h3,h4⟩:=vn Tryz.underlying22 h2.1
   obtain⟨rs,rfl,_⟩:=vn Tryz.underlying23 h2.2.1
   exact⟨ds,rs,rfl,h3,fun d hd=>Iq (Ci h4 d hd)⟩
theorem yk:maxLen<=aR:=by decide
theorem Th(κ:Kp)(al:List AV)(h:ou Tryz.prog Tryz.f9.params.toList al):cM (Pr κ) 9 al [] fun r _=>r= .bool true:=by
 have h':ou Tryz.prog [25] al:=h
 match al,h' with
 |[a],h'=>
  simp only[ou] at h'
  obtain⟨ds,rs,rfl,h1,h2⟩:=HD h'.1
  exact Tg κ ds rs (Nat.le_trans h1 yk) fun d hd=>Nat.le_trans (h2 d hd) yk
def Ol:List TypeId:=[9,3,2,4,56,43,63,72,64,66,23,54,38,61,22,25]
theorem Ml:N9 Tryz.prog Ol=true:=by kernel_rfl
set_option maxRecDepth 100000 in
theorem OR(os:Os)(started:os.Started)(H:Type)(enc:TypeId×Value->H)(F:Stop.Interp):
  ReturnsInHanded {} Tryz.checked os 9 .any ((OpenSpec.ofChange Rows.blocksTurnsSpec).preRow enc Tryz.prog Tryz.f9 Rows.blocksTurnsRow.domain false Rows.blocksTurnsRow.laid) (((OpenSpec.ofChange Rows.blocksTurnsSpec).at F).post enc Tryz.prog Tryz.f9 false true false false):=by
 refine returnsInHanded_of_row (C:=Tryz.checked) (s:=OpenSpec.ofChange Rows.blocksTurnsSpec) own started (by kernel_rfl) Tryz.func9
  (witness_row_at (enc:=enc) (C:=Tryz.checked) false (x7 os) #[.agg #[.slice none 0 0, .slice none 0 0]] rfl (by kernel_rfl) (by kernel_rfl) (by kernel_rfl)
   (OpenSpec.preRow_of_cond 8 (x:=([.agg [.nil, .nil]],[],[])) (by kernel_rfl) (by kernel_rfl) (fun k hk=>by cases hk) (by kernel_rfl) (K8 os _))) ?_
 intro W base args ds gs before hval hW _ _ _ hL _ _
 obtain⟨κ,hκ⟩:=zV hL
 exact y4 yt.lay Ks Ml rfl (by kernel_rfl) (by kernel_rfl) rfl hval hW (fun d hd=>by match d,hd with|[_],_=>rfl) hκ (fun al h _=>Th κ al h)
theorem s9:Rows.BlocksTurnsSaid:=
 OpenClaim.holds_of_cond 9 Tryz.f9 rfl rfl rfl rfl rfl rfl rfl ⟨rfl,rfl,rfl,rfl,rfl⟩ rfl rfl rfl rfl rfl (by kernel_rfl) Tryz.func9 (by kernel_rfl)
  (of_decide_eq_true (by kernel_rfl)) (by unfold Func.isWrapper;first|(rw[if_pos (by decide+kernel)];kernel_rfl)|(rw[if_neg (by decide+kernel)];exact⟨rfl,rfl⟩))
  (fun os started H enc _ F=>by rw[OpenClaim.pre_eq_preRow];exact OR os started H enc F)
theorem blocksTurns_holds:Rows.BlocksTurnsCardSaid:=
 Claim7.holds_tied_plain_at .later [] [.sentinel, .sentinel, .sentinel, .sentinel, .sentinel] true (true, "53923c05d1921d84722514d4284bee93f7747f832f3a5af85cd1a2e70a8ad294") true
  s9 (fun _ h=>by cases h) (by kernel_rfl) (fun _ h=>by cases h) blocksTurns_row_tie rfl ⟨rfl,rfl⟩ (by kernel_rfl) rfl
  (fun f fn hf hfn=>by
   obtain rfl:f=9:=Option.some.inj ((show Tryz.prog.funcNamed "sorites/soriteslaw13.BlocksTurns" =some 9 by kernel_rfl).symm.trans hf)|>.symm
   obtain rfl:fn=Tryz.f9:=(Option.some.inj (Tryz.func9.symm.trans hfn)).symm
   exact⟨by kernel_rfl,fun j t ht=>by
    have hall:((List.range 8).all fun j=>match Tryz.f9.params[j]? with|some t=>!Tryz.prog.wantsStandIn t|none=>true)=true:=by kernel_rfl
    have hsz:Tryz.f9.params.size<=8:=of_decide_eq_true (by kernel_rfl)
    have hj:j<8:=Nat.lt_of_lt_of_le (Array.getElem?_eq_some_iff.1 ht).1 hsz
    have:=List.all_eq_true.1 hall j (List.mem_range.2 hj)
    rw[ht] at this
    have hw:Tryz.prog.wantsStandIn t=false:=by simpa using this
    exact hw⟩)
  (by kernel_rfl)
#print axioms blocksTurns_holds
end Go.Proofs.YthaiinlfnommnaaGreatDoor
