/-
  What is proved: whatever program is handed in, the law DgraphOnce answers true, and its arguments read as before; the program's five listed variables hold what the text lays.
-/
import Derived.Test.YtdpmikfheebicaaGreatDoorDqLD
import Derived.Test.YtdpmikfheebicaaGreatDoorDqMX
import Derived.Test.YtdpmikfheebicaaGreatDoorTie
import Derived.Test.YtdpmikfheebicaaGreatDoorCards
namespace Go.Proofs.YtdpmikfheebicaaGreatDoor
open Go Go.Dn Go.Rl Go.Proofs Go.ChangeShapes Go.WideShapes Go.ChangeAt Go.RowKit
theorem fH{a:AV}{T E:TypeId}(hu:Tryz.prog.underlying T=some (.slice E))(h:cP Tryz.prog a T): ∃l,a= .ae E l/\l.length<=maxLen/\iQ Tryz.prog l E:=by
 cases a<;>simp only[cP,hu] at h
 ·obtain⟨h1,h2,h3⟩:=h
  cases h1
  exact⟨_,rfl,h2,h3⟩
 ·obtain⟨fs,⟨h1,_⟩,_⟩:=h
  cases h1
theorem gZ{E:TypeId}: ∀{l:List AV},iQ Tryz.prog l E->∀a,a∈l->cP Tryz.prog a E
 |[],_,_,h=>nomatch h
 |b::l,h,a,ha=>by
  simp only[iQ] at h
  rcases List.mem_cons.1 ha with rfl|ha
  ·exact h.1
  ·exact gZ h.2 a ha
theorem kU{a:AV}(h:cP Tryz.prog a 62):(ah (ad a 1)).length<=maxLen:=by
 cases a<;>simp only[cP,Tryz.underlying62] at h
 ·obtain⟨h1,_⟩:=h
  cases h1
 ·rename_i l
  obtain⟨fs,⟨h1,_⟩,h2⟩:=h
  cases h1
  match l,h2 with
  |[_,y,_,_,_,_],h2=>
   simp only[jb] at h2
   obtain⟨ns,rfl,h3,_⟩:=fH Tryz.underlying60 h2.2.1
   exact h3
theorem ld{a:AV}(h:cP Tryz.prog a 25): ∃ds rs,a=gz ds rs/\ds.length<=maxLen/\∀d,d∈ds->(ah (ad d 1)).length<=maxLen:=by
 cases a<;>simp only[cP,Tryz.underlying25] at h
 ·obtain⟨h1,_⟩:=h
  cases h1
 ·rename_i l
  obtain⟨fs,⟨h1,_⟩,h2⟩:=h
  cases h1
  match l,h2 with
  |[x,y],h2=>
   simp only[jb] at h2
   obtain⟨ds,rfl,h3,h4⟩:=fH Tryz.underlying22 h2.1
   obtain⟨rs,rfl,_⟩:=fH Tryz.underlying23 h2.2.1
   exact⟨ds,rs,rfl,h3,fun d hd=>kU (gZ h4 d hd)⟩
theorem gO:maxLen<=aP:=by decide
theorem iW{a:AV}(h:cP Tryz.prog a 3): ∃n,a= .int n:=by
 cases a<;>simp only[cP,Tryz.underlying3] at h
 ·obtain⟨n,rfl,_⟩:=h
  exact⟨n,rfl⟩
 ·obtain⟨h1,_⟩:=h
  cases h1
 ·obtain⟨fs,⟨h1,_⟩,_⟩:=h
  cases h1
theorem Ak(κ:Kp)(al:List AV)(h:gS Tryz.prog Tryz.f8.params.toList al):dj (Pr κ) 8 al [] fun r _=>r= .bool true:=by
 have h':gS Tryz.prog [25,3,3] al:=h
 match al,h' with
 |[a,k0,k1],h'=>
  simp only[gS] at h'
  obtain⟨ds,rs,rfl,h1,h2⟩:=ld h'.1
  obtain⟨n0,rfl⟩:=iW h'.2.1
  obtain⟨n1,rfl⟩:=iW h'.2.2.1
  exact PT κ ds rs n0 n1 (Nat.le_trans h1 gO) fun d hd=>Nat.le_trans (h2 d hd) gO
def pO:List TypeId:=[9,3,2,4,52,36,38,55,39,41,23,60,48,62,22,25]
theorem nE:Gk Tryz.prog pO=true:=by kernel_rfl
set_option maxRecDepth 100000 in
theorem qm(os:Os)(started:os.Started)(H:Type)(enc:TypeId×Value->H)(F:Stop.Interp):
  ReturnsInHanded {} Tryz.checked os 8 .any ((OpenSpec.ofChange Rows.dgraphOnceSpec).preRow enc Tryz.prog Tryz.f8 Rows.dgraphOnceRow.domain false Rows.dgraphOnceRow.laid) (((OpenSpec.ofChange Rows.dgraphOnceSpec).at F).post enc Tryz.prog Tryz.f8 false true false false):=by
 refine returnsInHanded_of_row (C:=Tryz.checked) (s:=OpenSpec.ofChange Rows.dgraphOnceSpec) own started (by kernel_rfl) Tryz.func8
  (witness_row_at (enc:=enc) (C:=Tryz.checked) false (nL os) #[.agg #[.slice none 0 0, .slice none 0 0], .int .i64 0, .int .i64 0] rfl (by kernel_rfl) (by kernel_rfl) (by kernel_rfl)
   (OpenSpec.preRow_of_cond 8 (x:=([.agg [.nil, .nil], .lit (.int .i64 0), .lit (.int .i64 0)],[],[])) (by kernel_rfl) (by kernel_rfl) (fun k hk=>by cases hk) (by kernel_rfl) (tU os _))) ?_
 intro W base args ds gs before hval hW _ _ _ hL _ _
 obtain⟨κ,hκ⟩:=lM hL
 exact lL nG.lay uJ nE rfl (by kernel_rfl) (by kernel_rfl) rfl hval hW (fun d hd=>by match d,hd with|[_,_,_],_=>rfl) hκ (fun al h _=>Ak κ al h)
theorem uX:Rows.DgraphOnceSaid:=
 OpenClaim.holds_of_cond 8 Tryz.f8 rfl rfl rfl rfl rfl rfl rfl ⟨rfl,rfl,rfl,rfl,rfl⟩ rfl rfl rfl rfl rfl (by kernel_rfl) Tryz.func8 (by kernel_rfl)
  (of_decide_eq_true (by kernel_rfl)) (by unfold Func.isWrapper;first|(rw[if_pos (by decide+kernel)];kernel_rfl)|(rw[if_neg (by decide+kernel)];exact⟨rfl,rfl⟩))
  (fun os started H enc _ F=>by rw[OpenClaim.pre_eq_preRow];exact qm os started H enc F)
theorem dgraphOnce_holds:Rows.DgraphOnceCardSaid:=
 Claim7.holds_tied_plain_at .later [] [.sentinel, .sentinel, .sentinel, .sentinel, .sentinel] true (true, "c7597f691d6eeb578c5ebf1d2c93fadf273ec73c9a08dec48f5a64364dbd39b2") true
  uX (fun _ h=>by cases h) (by kernel_rfl) (fun _ h=>by cases h) dgraphOnce_row_tie rfl ⟨rfl,rfl⟩ (by kernel_rfl) rfl
  (fun f fn hf hfn=>by
   obtain rfl:f=8:=Option.some.inj ((show Tryz.prog.funcNamed "sorites/soriteslaw07.DgraphOnce" =some 8 by kernel_rfl).symm.trans hf)|>.symm
   obtain rfl:fn=Tryz.f8:=(Option.some.inj (Tryz.func8.symm.trans hfn)).symm
   exact⟨by kernel_rfl,fun j t ht=>by
    have hall:((List.range 8).all fun j=>match Tryz.f8.params[j]? with|some t=>!Tryz.prog.wantsStandIn t|none=>true)=true:=by kernel_rfl
    have hsz:Tryz.f8.params.size<=8:=of_decide_eq_true (by kernel_rfl)
    have hj:j<8:=Nat.lt_of_lt_of_le (Array.getElem?_eq_some_iff.1 ht).1 hsz
    have:=List.all_eq_true.1 hall j (List.mem_range.2 hj)
    rw[ht] at this
    have hw:Tryz.prog.wantsStandIn t=false:=by simpa using this
    exact hw⟩)
  (by kernel_rfl)
#print axioms dgraphOnce_holds
end Go.Proofs.YtdpmikfheebicaaGreatDoor
