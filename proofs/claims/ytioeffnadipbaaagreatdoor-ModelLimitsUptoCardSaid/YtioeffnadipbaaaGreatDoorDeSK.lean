/-
  What is proved: whatever program, rows (of bulk at most 1048576 in all) and limit are handed in, the law ModelLimits answers true, and its arguments read as before; the program's five listed variables hold what the text lays.
-/
import Derived.Test.YtioeffnadipbaaaGreatDoorDePF
import Derived.Test.YtioeffnadipbaaaGreatDoorDePX
import Derived.Test.YtioeffnadipbaaaGreatDoorTie
import Derived.Test.YtioeffnadipbaaaGreatDoorCards
namespace Go.Proofs.YtioeffnadipbaaaGreatDoor
open Go Go.Dn Go.Rl Go.Proofs Go.ChangeShapes Go.WideShapes Go.ChangeAt Go.RowKit
theorem mE{a:AV}{T E:TypeId}(hu:Tryz.prog.underlying T=some (.slice E))(h:fH Tryz.prog a T): ∃l,a= .ah E l/\l.length<=maxLen/\nP Tryz.prog l E:=by
 cases a<;>simp only[fH,hu] at h
 ·obtain⟨h1,h2,h3⟩:=h
  cases h1;exact⟨_,rfl,h2,h3⟩
 ·obtain⟨fs,⟨h1,_⟩,_⟩:=h
  cases h1
theorem pw{E:TypeId}: ∀{l:List AV},nP Tryz.prog l E->∀a,a∈l->fH Tryz.prog a E
 |[],_,_,h=>nomatch h
 |b::l,h,a,ha=>by
  simp only[nP] at h;rcases List.mem_cons.1 ha with rfl|ha
  ·exact h.1
  ·exact pw h.2 a ha
theorem JE{a:AV}(h:fH Tryz.prog a 43):(ag (af a 1)).length<=maxLen:=by
 cases a<;>simp only[fH,Tryz.underlying43] at h
 ·obtain⟨h1,_⟩:=h
  cases h1
 ·rename_i l
  obtain⟨fs,⟨h1,_⟩,h2⟩:=h;cases h1;match l,h2 with
  |[_,y,_,_,_,_],h2=>
   simp only[nY] at h2;obtain⟨ns,rfl,h3,_⟩:=mE Tryz.underlying36 h2.2.1;exact h3
theorem Kd{a:AV}(h:fH Tryz.prog a 25): ∃ds rs,a=fq ds rs/\ds.length<=maxLen/\∀d,d∈ds->(ag (af d 1)).length<=maxLen:=by
 cases a<;>simp only[fH,Tryz.underlying25] at h
 ·obtain⟨h1,_⟩:=h
  cases h1
 ·rename_i l
  obtain⟨fs,⟨h1,_⟩,h2⟩:=h;cases h1;match l,h2 with
  |[x,y],h2=>
   simp only[nY] at h2;obtain⟨ds,rfl,h3,h4⟩:=mE Tryz.underlying22 h2.1;obtain⟨rs,rfl,_⟩:=mE Tryz.underlying23 h2.2.1;exact⟨ds,rs,rfl,h3,fun d hd=>JE (pw h4 d hd)⟩
theorem y9:maxLen<=aU:=by decide
theorem M6{a:AV}(h:fH Tryz.prog a 3): ∃n,a= .int n:=by
 cases a<;>simp only[fH,Tryz.underlying3] at h
 ·obtain⟨n,rfl,_⟩:=h
  exact⟨n,rfl⟩
 ·obtain⟨h1,_⟩:=h
  cases h1
 ·obtain⟨fs,⟨h1,_⟩,_⟩:=h
  cases h1
theorem PA{H:Type}(d:DataW H):1<=Rows.uptoBulk d:=by
 cases d with
 |lit l=>cases l<;>simp[Rows.uptoBulk]
 |nil=>simp[Rows.uptoBulk]
 |ptr d=>simp[Rows.uptoBulk]
 |slice elems spare=>simp[Rows.uptoBulk]
 |agg parts=>simp[Rows.uptoBulk]
 |iface t d=>simp[Rows.uptoBulk]
 |map entries=>simp[Rows.uptoBulk]
 |held h=>simp[Rows.uptoBulk]
theorem Df{H:Type}: ∀(l m:List (DataW H)),Rows.uptoBulkAll (l++m)=Rows.uptoBulkAll l+Rows.uptoBulkAll m
 |[],m=>by simp only[List.nil_append,Rows.uptoBulkAll,Nat.zero_add]
 |x::l,m=>by simp only[List.cons_append,Rows.uptoBulkAll,Df l m,Nat.add_assoc]
theorem M1{H:Type}: ∀{l:List AV} {es:List (DataW H)},F3 l es->l.length<=Rows.uptoBulkAll es/\∀x,x∈l->∃e:DataW H,EN x e/\Rows.uptoBulk e<=Rows.uptoBulkAll es
 |[],es,_=>⟨Nat.zero_le _,fun x hx=>(nomatch hx)⟩
 | a::l,es,h=>by
  simp only[F3] at h;obtain⟨e,r,rfl,h1,h2⟩:=h;obtain⟨k1,k2⟩:=M1 h2;have h3:=PA e;simp only[Rows.uptoBulkAll,List.length_cons];refine⟨by omega,fun x hx=>?_⟩;rcases List.mem_cons.1 hx with rfl|hx
  ·exact⟨e,h1,by omega⟩
  ·obtain⟨e',k3,k4⟩:=k2 x hx
   exact⟨e',k3,by omega⟩
theorem MB{H:Type}{a:AV}{d:DataW H}(h:EN a d):(ag a).length<=Rows.uptoBulk d/\∀x,x∈ag a->∃e:DataW H,EN x e/\Rows.uptoBulk e<=Rows.uptoBulk d:=by
 cases a with
 | ah T l=>
  simp only[EN] at h;rcases h with⟨rfl,_⟩|⟨es,sp,rfl,h⟩
  ·exact⟨Nat.zero_le _,fun x hx=>(nomatch hx)⟩
  ·obtain⟨k1,k2⟩:=M1 h
   show l.length<=_/\∀x,x∈l->_
   simp only[Rows.uptoBulk];refine⟨by omega,fun x hx=>?_⟩;obtain⟨e,k3,k4⟩:=k2 x hx;exact⟨e,k3,by omega⟩
 |_=>exact⟨Nat.zero_le _,fun x hx=>(nomatch hx)⟩
theorem L5{a:AV}(h:fH Tryz.prog a 72):a=eZ (Ey a):=by
 cases a<;>simp only[fH,Tryz.underlying72] at h
 ·obtain⟨h1,_⟩:=h
  cases h1
 ·rename_i l
  obtain⟨fs,⟨h1,_⟩,h2⟩:=h;cases h1;match l,h2 with
  | [x,y,z],h2=>
   simp only[nY] at h2;obtain⟨g1,g2,g3,_⟩:=h2;have e1: ∃b,x= .bool b:=by
    cases x<;>simp only[fH,Tryz.underlying4] at g1
    ·obtain⟨b,rfl⟩:=g1;exact⟨b,rfl⟩
    ·obtain⟨h1,_⟩:=g1;cases h1
    ·obtain⟨fs,⟨h1,_⟩,_⟩:=g1;cases h1
   have e2: ∃b,y= .int b:=by
    cases y<;>simp only[fH,Tryz.underlying2] at g2
    ·obtain⟨n,rfl,_⟩:=g2;exact⟨n,rfl⟩
    ·obtain⟨h1,_⟩:=g2;cases h1
    ·obtain⟨fs,⟨h1,_⟩,_⟩:=g2;cases h1
   have e3: ∃b,z= .lit (.string b):=by
    cases z<;>simp only[fH,Tryz.underlying9] at g3
    ·obtain⟨n,rfl,_⟩:=g3;exact⟨n,rfl⟩
    ·obtain⟨h1,_⟩:=g3;cases h1
    ·obtain⟨fs,⟨h1,_⟩,_⟩:=g3;cases h1
   obtain⟨b,rfl⟩:=e1;obtain⟨n,rfl⟩:=e2;obtain⟨s,rfl⟩:=e3;rfl
theorem K3{H:Type}{a:AV}{d:DataW H}(h:fH Tryz.prog a 50)(hr:EN a d)(hb:Rows.uptoBulk d<=1048576): ∃xs,a= .ah 51 xs/\X2 xs:=by
 obtain⟨xs,rfl,h1,h2⟩:=mE Tryz.underlying50 h;obtain⟨b1,b2⟩:=MB hr;have k1:=pw h2;have sh: ∀x,x∈xs->∃l,x= .ah 70 l/\nP Tryz.prog l 70:=fun x hx=>by
  obtain⟨l,e,_,g⟩:=mE Tryz.underlying51 (k1 x hx);exact⟨l,e,g⟩
 have sr: ∀x,x∈xs->∀r,r∈ag x->∃m,r= .ah 72 m/\nP Tryz.prog m 72:=fun x hx r hr=>by
  obtain⟨l,rfl,g⟩:=sh x hx;obtain⟨m,e,_,g2⟩:=mE Tryz.underlying70 (pw g r hr);exact⟨m,e,g2⟩
 refine⟨xs,rfl,?_,fun x hx r hr=>?_,fun x hx r hr v hv=>?_⟩
 ·have b1:xs.length<=Rows.uptoBulk d:=b1
  simp only[gj,an3,an2,List.all_eq_true,fD];refine⟨by omega,fun x hx=>?_⟩;obtain⟨e,c1,c2⟩:=b2 x hx;obtain⟨d1,d2⟩:=MB c1;refine⟨by omega,fun r hr=>?_⟩;obtain⟨e',c3,c4⟩:=d2 r hr;have:=(MB c3).1
  omega
 ·obtain⟨m,rfl,_⟩:=sr x hx r hr
  rfl
 ·obtain⟨m,rfl,g⟩:=sr x hx r hr
  exact L5 (pw g v hv)
set_option maxRecDepth 100000 in
theorem al7{H:Type}(κ:Kp)(al:List AV)(dl:List (DataW H))(h:oY Tryz.prog Tryz.f6.params.toList al)(hr:F3 al dl)(hb:Rows.uptoBulkAll dl<=1048576):b6 (Pr κ) 6 al [] fun r _=>r= .bool true:=by
 have h':oY Tryz.prog [25,50,3] al:=h;match al,h' with
 | [a,b,k0],h'=>
  simp only[oY] at h';obtain⟨ds,rs,rfl,h1,h2⟩:=Kd h'.1;obtain⟨n0,rfl⟩:=M6 h'.2.2.1;obtain⟨e,c1,c2⟩:=(M1 hr).2 b (by simp);obtain⟨xs,rfl,hs⟩:=K3 h'.2.1 c1 (by omega);have h3:(decide (ds.length<=aU)&&ds.all fun d=>decide ((ag (af d 1)).length<=aU))=true:=by
   rw[an3,an2,List.all_eq_true];exact⟨Nat.le_trans h1 y9,fun d hd=>an8 (Nat.le_trans (h2 d hd) y9)⟩
  have hX:= @Z0 κ ds rs xs n0 h3 hs (fun r _=>r= .bool true);have hX:=hX rfl;exact gW (BLm κ).ok (BLm κ).mono hX
def SB:List TypeId:=[9,3,2,4,38,29,45,80,46,48,23,36,35,43,22,25,72,70,51,50]
set_option maxRecDepth 100000 in
theorem N4:Qc Tryz.prog SB=true:=by kernel_rfl
set_option maxRecDepth 100000 in
theorem Re(os:Os)(started:os.Started)(H:Type)(enc:TypeId×Value->H)(F:Stop.Interp):
  ReturnsInHanded {} Tryz.checked os 6 .any ((Rows.OpenSpec.upto Rows.modelLimitsSpec).preRow enc Tryz.prog Tryz.f6 Rows.modelLimitsUptoRow.domain false Rows.modelLimitsUptoRow.laid) (((Rows.OpenSpec.upto Rows.modelLimitsSpec).at F).post enc Tryz.prog Tryz.f6 false true false false):=by
 refine returnsInHanded_of_row (C:=Tryz.checked) (s:=Rows.OpenSpec.upto Rows.modelLimitsSpec) own started (by kernel_rfl) Tryz.func6
  (witness_row_at (enc:=enc) (C:=Tryz.checked) false (zb os) #[.agg #[.slice none 0 0, .slice none 0 0], .slice none 0 0, .int .i64 0] rfl (by kernel_rfl) (by kernel_rfl) (by kernel_rfl)
   (OpenSpec.preRow_of_cond 8 (x:=([.agg [.nil, .nil], .nil, .lit (.int .i64 0)],[],[])) (by kernel_rfl) (by kernel_rfl) (fun k hk=>by cases hk;kernel_rfl) (by kernel_rfl) (NH os _))) ?_
 intro W base args ds gs before hval hW hcond h2 h3 hL h4 h5;obtain⟨κ,hκ⟩:=BA hL;have hb:Rows.uptoBulkAll ds<=1048576:=by
  have h:Rows.uptoBulkAll (ds++gs)<=1048576:=of_decide_eq_true (h2 _ rfl);rw[Df] at h;omega
 exact Ax zC.lay Nz N4 rfl (by kernel_rfl) (by kernel_rfl) rfl hval hW (fun d hd=>by match d,hd with|[_,_,_],_=>rfl) hκ (fun al h hr=>al7 κ al ds h hr hb)
theorem uQ:Rows.ModelLimitsUptoSaid:=
 OpenClaim.holds_of_cond 6 Tryz.f6 rfl rfl rfl rfl rfl rfl rfl ⟨rfl,rfl,rfl,rfl,rfl⟩ rfl rfl rfl rfl rfl (by kernel_rfl) Tryz.func6 (by kernel_rfl)
  (of_decide_eq_true (by kernel_rfl)) (by unfold Func.isWrapper;first|(rw[if_pos (by decide+kernel)];kernel_rfl)|(rw[if_neg (by decide+kernel)];exact⟨rfl,rfl⟩))
  (fun os started H enc _ F=>by rw[OpenClaim.pre_eq_preRow];exact Re os started H enc F)
theorem modelLimits_holds:Rows.ModelLimitsUptoCardSaid:=
 Claim7.holds_tied_plain_at .later [] [.sentinel, .sentinel, .sentinel, .sentinel, .sentinel] true (true, "70b998159403ba8378fa9eb9dde34844a1cdfe0836a4d8c218ca1eb549aee9fc") true
  uQ (fun _ h=>by cases h) (by kernel_rfl) (fun _ h=>by cases h) modelLimitsUpto_row_tie rfl ⟨rfl,rfl⟩ (by kernel_rfl) rfl
  (fun f fn hf hfn=>by
   obtain rfl:f=6:=Option.some.inj ((show Tryz.prog.funcNamed "sorites/soriteslaw09.ModelLimits" =some 6 by kernel_rfl).symm.trans hf)|>.symm;obtain rfl:fn=Tryz.f6:=(Option.some.inj (Tryz.func6.symm.trans hfn)).symm;exact⟨by kernel_rfl,fun j t ht=>by
    have hall:((List.range 8).all fun j=>match Tryz.f6.params[j]? with|some t=>!Tryz.prog.wantsStandIn t|none=>true)=true:=by kernel_rfl
    have hsz:Tryz.f6.params.size<=8:=of_decide_eq_true (by kernel_rfl);have hj:j<8:=Nat.lt_of_lt_of_le (Array.getElem?_eq_some_iff.1 ht).1 hsz;have:=List.all_eq_true.1 hall j (List.mem_range.2 hj)
    rw[ht] at this;have hw:Tryz.prog.wantsStandIn t=false:=by simpa using this
    exact hw⟩)
  (by kernel_rfl)
#print axioms modelLimits_holds
end Go.Proofs.YtioeffnadipbaaaGreatDoor
