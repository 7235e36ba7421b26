/-
  What is proved: whatever program, rows (of bulk at most 1048576 in all) and numbers are handed in, the law ModelGrows answers true, and its arguments read as before; the program's five listed variables hold what the text lays.
-/
import Derived.Test.YtioeffnadipbaaaGreatDoorDePH
import Derived.Test.YtioeffnadipbaaaGreatDoorDePX
import Derived.Test.YtioeffnadipbaaaGreatDoorTie
import Derived.Test.YtioeffnadipbaaaGreatDoorCards
namespace Go.Proofs.YtioeffnadipbaaaGreatDoor
open Go Go.Dn Go.Rl Go.Proofs Go.ChangeShapes Go.WideShapes Go.ChangeAt Go.RowKit
theorem mv{a:AV}{T E:TypeId}(hu:Tryz.prog.underlying T=some (.slice E))(h:ei Tryz.prog a T): ∃l,a= .ah E l/\l.length<=maxLen/\nF Tryz.prog l E:=by
 cases a<;>simp only[ei,hu] at h
 ·obtain⟨h1,h2,h3⟩:=h
  cases h1;exact⟨_,rfl,h2,h3⟩
 ·obtain⟨fs,⟨h1,_⟩,_⟩:=h
  cases h1
theorem mw{E:TypeId}: ∀{l:List AV},nF Tryz.prog l E->∀a,a∈l->ei Tryz.prog a E
 |[],_,_,h=>nomatch h
 |b::l,h,a,ha=>by
  simp only[nF] at h;rcases List.mem_cons.1 ha with rfl|ha
  ·exact h.1
  ·exact mw h.2 a ha
theorem JW{a:AV}(h:ei Tryz.prog a 43):(af (ag a 1)).length<=maxLen:=by
 cases a<;>simp only[ei,Tryz.underlying43] at h
 ·obtain⟨h1,_⟩:=h
  cases h1
 ·rename_i l
  obtain⟨fs,⟨h1,_⟩,h2⟩:=h;cases h1;match l,h2 with
  |[_,y,_,_,_,_],h2=>
   simp only[lE] at h2;obtain⟨ns,rfl,h3,_⟩:=mv Tryz.underlying36 h2.2.1;exact h3
theorem ze:maxLen<=aW:=by decide
theorem CJ{a:AV}(h:ei Tryz.prog a 3): ∃n,a= .int n:=by
 cases a<;>simp only[ei,Tryz.underlying3] at h
 ·obtain⟨n,rfl,_⟩:=h
  exact⟨n,rfl⟩
 ·obtain⟨h1,_⟩:=h
  cases h1
 ·obtain⟨fs,⟨h1,_⟩,_⟩:=h
  cases h1
theorem MV{a:AV}(h:ei Tryz.prog a 9): ∃s,a= .lit (.string s)/\s.size<=maxLen:=by
 cases a<;>simp only[ei,Tryz.underlying9] at h
 ·exact h.imp fun s hs=>⟨by rw[hs.1],hs.2⟩
 ·obtain⟨h1,_⟩:=h
  cases h1
 ·obtain⟨fs,⟨h1,_⟩,_⟩:=h
  cases h1
theorem Fu{a:AV}(h:ei Tryz.prog a 29): ∃l,a= .ah 38 l/\l.length<=maxLen:=by
 cases a<;>simp only[ei,Tryz.underlying29] at h
 ·obtain⟨h1,h2,_⟩:=h
  cases h1;exact⟨_,rfl,h2⟩
 ·obtain⟨fs,⟨h1,_⟩,_⟩:=h
  cases h1
theorem JX{a:AV}(h:ei Tryz.prog a 46): ∃l,a= .ah 80 l/\l.length<=maxLen:=by
 cases a<;>simp only[ei,Tryz.underlying46] at h
 ·obtain⟨h1,h2,_⟩:=h
  cases h1;exact⟨_,rfl,h2⟩
 ·obtain⟨fs,⟨h1,_⟩,_⟩:=h
  cases h1
theorem JV{a:AV}(h:ei Tryz.prog a 45): ∃r l,a= .agg [.lit (.string r), .ah 38 l]:=by
 cases a<;>simp only[ei,Tryz.underlying45] at h
 ·obtain⟨h1,_⟩:=h
  cases h1
 ·rename_i l
  obtain⟨fs,⟨h1,_⟩,h2⟩:=h;cases h1;match l,h2 with
  |[x,y],h2=>
   simp only[lE] at h2;obtain⟨r,rfl,_⟩:=MV h2.1;obtain⟨l,rfl,_⟩:=Fu h2.2.1;exact⟨r,l,rfl⟩
theorem J0{a:AV}(h:ei Tryz.prog a 48): ∃b:dh,a=au b:=by
 cases a<;>simp only[ei,Tryz.underlying48] at h
 ·obtain⟨h1,_⟩:=h
  cases h1
 ·rename_i l
  obtain⟨fs,⟨h1,_⟩,h2⟩:=h;cases h1;match l,h2 with
  |[x,y,z],h2=>
   simp only[lE] at h2;obtain⟨r,hl,rfl⟩:=JV h2.1;obtain⟨bl,rfl,_⟩:=JX h2.2.1;obtain⟨n,rfl⟩:=CJ h2.2.2.1;exact⟨⟨[],[],r,hl,bl,n,0⟩,rfl⟩
theorem JY{a:AV}(h:ei Tryz.prog a 25): ∃ds rs,a=eH ds rs/\ds.length<=maxLen/\(∀d,d∈ds->(af (ag d 1)).length<=maxLen)/\∀r,r∈rs->au (dr r)=r:=by
 cases a<;>simp only[ei,Tryz.underlying25] at h
 ·obtain⟨h1,_⟩:=h
  cases h1
 ·rename_i l
  obtain⟨fs,⟨h1,_⟩,h2⟩:=h;cases h1;match l,h2 with
  |[x,y],h2=>
   simp only[lE] at h2;obtain⟨ds,rfl,h3,h4⟩:=mv Tryz.underlying22 h2.1;obtain⟨rs,rfl,_,h5⟩:=mv Tryz.underlying23 h2.2.1;exact⟨ds,rs,rfl,h3,fun d hd=>JW (mw h4 d hd),fun r hr=>by obtain⟨b,rfl⟩:=J0 (mw h5 r hr);rfl⟩
theorem Mx{H:Type}(d:DataW H):1<=Rows.uptoBulk d:=by
 cases d with
 |lit l=>cases l<;>simp[Rows.uptoBulk]
 |nil=>simp[Rows.uptoBulk]
 |ptr d=>simp[Rows.uptoBulk]
 |slice elems spare=>simp[Rows.uptoBulk]
 |agg parts=>simp[Rows.uptoBulk]
 |iface t d=>simp[Rows.uptoBulk]
 |map entries=>simp[Rows.uptoBulk]
 |held h=>simp[Rows.uptoBulk]
theorem Cr{H:Type}: ∀(l m:List (DataW H)),Rows.uptoBulkAll (l++m)=Rows.uptoBulkAll l+Rows.uptoBulkAll m
 |[],m=>by simp only[List.nil_append,Rows.uptoBulkAll,Nat.zero_add]
 |x::l,m=>by simp only[List.cons_append,Rows.uptoBulkAll,Cr l m,Nat.add_assoc]
theorem Mw{H:Type}: ∀{l:List AV} {es:List (DataW H)},Gi l es->l.length<=Rows.uptoBulkAll es/\∀x,x∈l->∃e:DataW H,Gh x e/\Rows.uptoBulk e<=Rows.uptoBulkAll es
 |[],es,_=>⟨Nat.zero_le _,fun x hx=>(nomatch hx)⟩
 | a::l,es,h=>by
  simp only[Gi] at h;obtain⟨e,r,rfl,h1,h2⟩:=h;obtain⟨k1,k2⟩:=Mw h2;have h3:=Mx e;simp only[Rows.uptoBulkAll,List.length_cons];refine⟨by omega,fun x hx=>?_⟩;rcases List.mem_cons.1 hx with rfl|hx
  ·exact⟨e,h1,by omega⟩
  ·obtain⟨e',k3,k4⟩:=k2 x hx
   exact⟨e',k3,by omega⟩
theorem Mv{H:Type}{a:AV}{d:DataW H}(h:Gh a d):(af a).length<=Rows.uptoBulk d/\∀x,x∈af a->∃e:DataW H,Gh x e/\Rows.uptoBulk e<=Rows.uptoBulk d:=by
 cases a with
 | ah T l=>
  simp only[Gh] at h;rcases h with⟨rfl,_⟩|⟨es,sp,rfl,h⟩
  ·exact⟨Nat.zero_le _,fun x hx=>(nomatch hx)⟩
  ·obtain⟨k1,k2⟩:=Mw h
   show l.length<=_/\∀x,x∈l->_
   simp only[Rows.uptoBulk];refine⟨by omega,fun x hx=>?_⟩;obtain⟨e,k3,k4⟩:=k2 x hx;exact⟨e,k3,by omega⟩
 |_=>exact⟨Nat.zero_le _,fun x hx=>(nomatch hx)⟩
theorem MW{a:AV}(h:ei Tryz.prog a 72):a=e6 (Ew a):=by
 cases a<;>simp only[ei,Tryz.underlying72] at h
 ·obtain⟨h1,_⟩:=h
  cases h1
 ·rename_i l
  obtain⟨fs,⟨h1,_⟩,h2⟩:=h;cases h1;match l,h2 with
  | [x,y,z],h2=>
   simp only[lE] at h2;obtain⟨g1,g2,g3,_⟩:=h2;have e1: ∃b,x= .bool b:=by
    cases x<;>simp only[ei,Tryz.underlying4] at g1
    ·obtain⟨b,rfl⟩:=g1;exact⟨b,rfl⟩
    ·obtain⟨h1,_⟩:=g1;cases h1
    ·obtain⟨fs,⟨h1,_⟩,_⟩:=g1;cases h1
   have e2: ∃b,y= .int b:=by
    cases y<;>simp only[ei,Tryz.underlying2] at g2
    ·obtain⟨n,rfl,_⟩:=g2;exact⟨n,rfl⟩
    ·obtain⟨h1,_⟩:=g2;cases h1
    ·obtain⟨fs,⟨h1,_⟩,_⟩:=g2;cases h1
   have e3: ∃b,z= .lit (.string b):=by
    cases z<;>simp only[ei,Tryz.underlying9] at g3
    ·obtain⟨n,rfl,_⟩:=g3;exact⟨n,rfl⟩
    ·obtain⟨h1,_⟩:=g3;cases h1
    ·obtain⟨fs,⟨h1,_⟩,_⟩:=g3;cases h1
   obtain⟨b,rfl⟩:=e1;obtain⟨n,rfl⟩:=e2;obtain⟨s,rfl⟩:=e3;rfl
theorem JZ{H:Type}{a:AV}{d:DataW H}(h:ei Tryz.prog a 50)(hr:Gh a d)(hb:Rows.uptoBulk d<=1048576): ∃xs,a= .ah 51 xs/\S9 xs:=by
 obtain⟨xs,rfl,h1,h2⟩:=mv Tryz.underlying50 h;obtain⟨b1,b2⟩:=Mv hr;have k1:=mw h2;have sh: ∀x,x∈xs->∃l,x= .ah 70 l/\nF Tryz.prog l 70:=fun x hx=>by
  obtain⟨l,e,_,g⟩:=mv Tryz.underlying51 (k1 x hx);exact⟨l,e,g⟩
 have sr: ∀x,x∈xs->∀r,r∈af x->∃m,r= .ah 72 m/\nF Tryz.prog m 72:=fun x hx r hr=>by
  obtain⟨l,rfl,g⟩:=sh x hx;obtain⟨m,e,_,g2⟩:=mv Tryz.underlying70 (mw g r hr);exact⟨m,e,g2⟩
 refine⟨xs,rfl,?_,fun x hx r hr=>?_,fun x hx r hr v hv=>?_⟩
 ·have b1:xs.length<=Rows.uptoBulk d:=b1
  simp only[iJ,ar5,ar4,List.all_eq_true,eM];refine⟨by omega,fun x hx=>?_⟩;obtain⟨e,c1,c2⟩:=b2 x hx;obtain⟨d1,d2⟩:=Mv c1;refine⟨by omega,fun r hr=>?_⟩;obtain⟨e',c3,c4⟩:=d2 r hr;have:=(Mv c3).1
  omega
 ·obtain⟨m,rfl,_⟩:=sr x hx r hr
  rfl
 ·obtain⟨m,rfl,g⟩:=sr x hx r hr
  exact MW (mw g v hv)
set_option maxRecDepth 100000 in
theorem ao6{H:Type}(κ:Kp)(al:List AV)(dl:List (DataW H))(h:ov Tryz.prog Tryz.f7.params.toList al)(hr:Gi al dl)(hb:Rows.uptoBulkAll dl<=1048576):b7 (Pr κ) 7 al [] fun r _=>r= .bool true:=by
 have h':ov Tryz.prog [25,50,3] al:=h;match al,h' with
 | [a,b,k0],h'=>
  simp only[ov] at h';obtain⟨ds,rs,rfl,h1,h2,h4⟩:=JY h'.1;obtain⟨n0,rfl⟩:=CJ h'.2.2.1;obtain⟨e,c1,c2⟩:=(Mw hr).2 b (by simp);obtain⟨xs,rfl,hs⟩:=JZ h'.2.1 c1 (by omega);have h3:(decide (ds.length<=aW)&&ds.all fun d=>decide ((af (ag d 1)).length<=aW))=true:=by
   rw[ar5,ar4,List.all_eq_true];exact⟨Nat.le_trans h1 ze,fun d hd=>as0 (Nat.le_trans (h2 d hd) ze)⟩
  have hX:= @ab4 κ ds rs xs n0 h3 h4 hs (fun r _=>r= .bool true);have hX:=hX rfl;exact gP (BGy κ).ok (BGy κ).mono hX
def QW:List TypeId:=[9,3,2,4,38,29,45,80,46,48,23,36,35,43,22,25,72,70,51,50]
set_option maxRecDepth 100000 in
theorem Ml:SM Tryz.prog QW=true:=by kernel_rfl
set_option maxRecDepth 100000 in
theorem Ry(os:Os)(started:os.Started)(H:Type)(enc:TypeId×Value->H)(F:Stop.Interp):
  ReturnsInHanded {} Tryz.checked os 7 .any ((Rows.OpenSpec.upto Rows.modelGrowsSpec).preRow enc Tryz.prog Tryz.f7 Rows.modelGrowsUptoRow.domain false Rows.modelGrowsUptoRow.laid) (((Rows.OpenSpec.upto Rows.modelGrowsSpec).at F).post enc Tryz.prog Tryz.f7 false true false false):=by
 refine returnsInHanded_of_row (C:=Tryz.checked) (s:=Rows.OpenSpec.upto Rows.modelGrowsSpec) own started (by kernel_rfl) Tryz.func7
  (witness_row_at (enc:=enc) (C:=Tryz.checked) false (y3 os) #[.agg #[.slice none 0 0, .slice none 0 0], .slice none 0 0, .int .i64 0] rfl (by kernel_rfl) (by kernel_rfl) (by kernel_rfl)
   (OpenSpec.preRow_of_cond 8 (x:=([.agg [.nil, .nil], .nil, .lit (.int .i64 0)],[],[])) (by kernel_rfl) (by kernel_rfl) (fun k hk=>by cases hk;kernel_rfl) (by kernel_rfl) (Nh os _))) ?_
 intro W base args ds gs before hval hW hcond h2 h3 hL h4 h5;obtain⟨κ,hκ⟩:=AH hL;have hb:Rows.uptoBulkAll ds<=1048576:=by
  have h:Rows.uptoBulkAll (ds++gs)<=1048576:=of_decide_eq_true (h2 _ rfl);rw[Cr] at h;omega
 exact AI zw.lay Ni Ml rfl (by kernel_rfl) (by kernel_rfl) rfl hval hW (fun d hd=>by match d,hd with|[_,_,_],_=>rfl) hκ (fun al h hr=>ao6 κ al ds h hr hb)
theorem w7:Rows.ModelGrowsUptoSaid:=
 OpenClaim.holds_of_cond 7 Tryz.f7 rfl rfl rfl rfl rfl rfl rfl ⟨rfl,rfl,rfl,rfl,rfl⟩ rfl rfl rfl rfl rfl (by kernel_rfl) Tryz.func7 (by kernel_rfl)
  (of_decide_eq_true (by kernel_rfl)) (by unfold Func.isWrapper;first|(rw[if_pos (by decide+kernel)];kernel_rfl)|(rw[if_neg (by decide+kernel)];exact⟨rfl,rfl⟩))
  (fun os started H enc _ F=>by rw[OpenClaim.pre_eq_preRow];exact Ry os started H enc F)
theorem modelGrows_holds:Rows.ModelGrowsUptoCardSaid:=
 Claim7.holds_tied_plain_at .later [] [.sentinel, .sentinel, .sentinel, .sentinel, .sentinel] true (true, "70b998159403ba8378fa9eb9dde34844a1cdfe0836a4d8c218ca1eb549aee9fc") true
  w7 (fun _ h=>by cases h) (by kernel_rfl) (fun _ h=>by cases h) modelGrowsUpto_row_tie rfl ⟨rfl,rfl⟩ (by kernel_rfl) rfl
  (fun f fn hf hfn=>by
   obtain rfl:f=7:=Option.some.inj ((show Tryz.prog.funcNamed "sorites/soriteslaw09.ModelGrows" =some 7 by kernel_rfl).symm.trans hf)|>.symm;obtain rfl:fn=Tryz.f7:=(Option.some.inj (Tryz.func7.symm.trans hfn)).symm;exact⟨by kernel_rfl,fun j t ht=>by
    have hall:((List.range 8).all fun j=>match Tryz.f7.params[j]? with|some t=>!Tryz.prog.wantsStandIn t|none=>true)=true:=by kernel_rfl
    have hsz:Tryz.f7.params.size<=8:=of_decide_eq_true (by kernel_rfl);have hj:j<8:=Nat.lt_of_lt_of_le (Array.getElem?_eq_some_iff.1 ht).1 hsz;have:=List.all_eq_true.1 hall j (List.mem_range.2 hj)
    rw[ht] at this;have hw:Tryz.prog.wantsStandIn t=false:=by simpa using this
    exact hw⟩)
  (by kernel_rfl)
#print axioms modelGrows_holds
end Go.Proofs.YtioeffnadipbaaaGreatDoor
