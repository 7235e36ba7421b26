/-
  What is proved: whatever program, rows (of bulk at most 1048576 in all) are handed in, the law ModelCloses answers true, and its arguments read as before; the program's five listed variables hold what the text lays.
-/
import Derived.Test.YtioeffnadipbaaaGreatDoorDePI
import Derived.Test.YtioeffnadipbaaaGreatDoorDePX
import Derived.Test.YtioeffnadipbaaaGreatDoorTie
import Derived.Test.YtioeffnadipbaaaGreatDoorCards
namespace Go.Proofs.YtioeffnadipbaaaGreatDoor
open Go Go.Dn Go.Rl Go.Proofs Go.ChangeShapes Go.WideShapes Go.ChangeAt Go.RowKit
theorem nt{a:AV}{T E:TypeId}(hu:Tryz.prog.underlying T=some (.slice E))(h:eU Tryz.prog a T): ∃l,a= .ah E l/\l.length<=maxLen/\oJ Tryz.prog l E:=by
 cases a<;>simp only[eU,hu] at h
 ·obtain⟨h1,h2,h3⟩:=h
  cases h1;exact⟨_,rfl,h2,h3⟩
 ·obtain⟨fs,⟨h1,_⟩,_⟩:=h
  cases h1
theorem nu{E:TypeId}: ∀{l:List AV},oJ Tryz.prog l E->∀a,a∈l->eU Tryz.prog a E
 |[],_,_,h=>nomatch h
 |b::l,h,a,ha=>by
  simp only[oJ] at h;rcases List.mem_cons.1 ha with rfl|ha
  ·exact h.1
  ·exact nu h.2 a ha
theorem LF{a:AV}(h:eU Tryz.prog a 43):(ag (af a 1)).length<=maxLen:=by
 cases a<;>simp only[eU,Tryz.underlying43] at h
 ·obtain⟨h1,_⟩:=h
  cases h1
 ·rename_i l
  obtain⟨fs,⟨h1,_⟩,h2⟩:=h;cases h1;match l,h2 with
  |[_,y,_,_,_,_],h2=>
   simp only[ml] at h2;obtain⟨ns,rfl,h3,_⟩:=nt Tryz.underlying36 h2.2.1;exact h3
theorem AJ:maxLen<=aX:=by decide
theorem OK{a:AV}(h:eU Tryz.prog a 3): ∃n,a= .int n:=by
 cases a<;>simp only[eU,Tryz.underlying3] at h
 ·obtain⟨n,rfl,_⟩:=h
  exact⟨n,rfl⟩
 ·obtain⟨h1,_⟩:=h
  cases h1
 ·obtain⟨fs,⟨h1,_⟩,_⟩:=h
  cases h1
theorem OL{a:AV}(h:eU Tryz.prog a 9): ∃s,a= .lit (.string s)/\s.size<=maxLen:=by
 cases a<;>simp only[eU,Tryz.underlying9] at h
 ·exact h.imp fun s hs=>⟨by rw[hs.1],hs.2⟩
 ·obtain⟨h1,_⟩:=h
  cases h1
 ·obtain⟨fs,⟨h1,_⟩,_⟩:=h
  cases h1
theorem Hd{a:AV}(h:eU Tryz.prog a 29): ∃l,a= .ah 38 l/\l.length<=maxLen:=by
 cases a<;>simp only[eU,Tryz.underlying29] at h
 ·obtain⟨h1,h2,_⟩:=h
  cases h1;exact⟨_,rfl,h2⟩
 ·obtain⟨fs,⟨h1,_⟩,_⟩:=h
  cases h1
theorem LG{a:AV}(h:eU Tryz.prog a 46): ∃l,a= .ah 80 l/\l.length<=maxLen:=by
 cases a<;>simp only[eU,Tryz.underlying46] at h
 ·obtain⟨h1,h2,_⟩:=h
  cases h1;exact⟨_,rfl,h2⟩
 ·obtain⟨fs,⟨h1,_⟩,_⟩:=h
  cases h1
theorem LD{a:AV}(h:eU Tryz.prog a 45): ∃r l,a= .agg [.lit (.string r), .ah 38 l]:=by
 cases a<;>simp only[eU,Tryz.underlying45] at h
 ·obtain⟨h1,_⟩:=h
  cases h1
 ·rename_i l
  obtain⟨fs,⟨h1,_⟩,h2⟩:=h;cases h1;match l,h2 with
  |[x,y],h2=>
   simp only[ml] at h2;obtain⟨r,rfl,_⟩:=OL h2.1;obtain⟨l,rfl,_⟩:=Hd h2.2.1;exact⟨r,l,rfl⟩
theorem LJ{a:AV}(h:eU Tryz.prog a 48): ∃b:dx,a=aw b:=by
 cases a<;>simp only[eU,Tryz.underlying48] at h
 ·obtain⟨h1,_⟩:=h
  cases h1
 ·rename_i l
  obtain⟨fs,⟨h1,_⟩,h2⟩:=h;cases h1;match l,h2 with
  |[x,y,z],h2=>
   simp only[ml] at h2;obtain⟨r,hl,rfl⟩:=LD h2.1;obtain⟨bl,rfl,_⟩:=LG h2.2.1;obtain⟨n,rfl⟩:=OK h2.2.2.1;exact⟨⟨[],[],r,hl,bl,n,0⟩,rfl⟩
theorem LH{a:AV}(h:eU Tryz.prog a 25): ∃ds rs,a=eg ds rs/\ds.length<=maxLen/\(∀d,d∈ds->(ag (af d 1)).length<=maxLen)/\∀r,r∈rs->aw (cK r)=r:=by
 cases a<;>simp only[eU,Tryz.underlying25] at h
 ·obtain⟨h1,_⟩:=h
  cases h1
 ·rename_i l
  obtain⟨fs,⟨h1,_⟩,h2⟩:=h;cases h1;match l,h2 with
  |[x,y],h2=>
   simp only[ml] at h2;obtain⟨ds,rfl,h3,h4⟩:=nt Tryz.underlying22 h2.1;obtain⟨rs,rfl,_,h5⟩:=nt Tryz.underlying23 h2.2.1;exact⟨ds,rs,rfl,h3,fun d hd=>LF (nu h4 d hd),fun r hr=>by obtain⟨b,rfl⟩:=LJ (nu h5 r hr);rfl⟩
theorem Ok{H:Type}(d:DataW H):1<=Rows.uptoBulk d:=by
 cases d with
 |lit l=>cases l<;>simp[Rows.uptoBulk]
 |nil=>simp[Rows.uptoBulk]
 |ptr d=>simp[Rows.uptoBulk]
 |slice elems spare=>simp[Rows.uptoBulk]
 |agg parts=>simp[Rows.uptoBulk]
 |iface t d=>simp[Rows.uptoBulk]
 |map entries=>simp[Rows.uptoBulk]
 |held h=>simp[Rows.uptoBulk]
theorem D6{H:Type}: ∀(l m:List (DataW H)),Rows.uptoBulkAll (l++m)=Rows.uptoBulkAll l+Rows.uptoBulkAll m
 |[],m=>by simp only[List.nil_append,Rows.uptoBulkAll,Nat.zero_add]
 |x::l,m=>by simp only[List.cons_append,Rows.uptoBulkAll,D6 l m,Nat.add_assoc]
theorem Oj{H:Type}: ∀{l:List AV} {es:List (DataW H)},HW l es->l.length<=Rows.uptoBulkAll es/\∀x,x∈l->∃e:DataW H,HV x e/\Rows.uptoBulk e<=Rows.uptoBulkAll es
 |[],es,_=>⟨Nat.zero_le _,fun x hx=>(nomatch hx)⟩
 | a::l,es,h=>by
  simp only[HW] at h;obtain⟨e,r,rfl,h1,h2⟩:=h;obtain⟨k1,k2⟩:=Oj h2;have h3:=Ok e;simp only[Rows.uptoBulkAll,List.length_cons];refine⟨by omega,fun x hx=>?_⟩;rcases List.mem_cons.1 hx with rfl|hx
  ·exact⟨e,h1,by omega⟩
  ·obtain⟨e',k3,k4⟩:=k2 x hx
   exact⟨e',k3,by omega⟩
theorem Oi{H:Type}{a:AV}{d:DataW H}(h:HV a d):(ag a).length<=Rows.uptoBulk d/\∀x,x∈ag a->∃e:DataW H,HV x e/\Rows.uptoBulk e<=Rows.uptoBulk d:=by
 cases a with
 | ah T l=>
  simp only[HV] at h;rcases h with⟨rfl,_⟩|⟨es,sp,rfl,h⟩
  ·exact⟨Nat.zero_le _,fun x hx=>(nomatch hx)⟩
  ·obtain⟨k1,k2⟩:=Oj h
   show l.length<=_/\∀x,x∈l->_
   simp only[Rows.uptoBulk];refine⟨by omega,fun x hx=>?_⟩;obtain⟨e,k3,k4⟩:=k2 x hx;exact⟨e,k3,by omega⟩
 |_=>exact⟨Nat.zero_le _,fun x hx=>(nomatch hx)⟩
theorem OM{a:AV}(h:eU Tryz.prog a 72):a=fq (Ad a):=by
 cases a<;>simp only[eU,Tryz.underlying72] at h
 ·obtain⟨h1,_⟩:=h
  cases h1
 ·rename_i l
  obtain⟨fs,⟨h1,_⟩,h2⟩:=h;cases h1;match l,h2 with
  | [x,y,z],h2=>
   simp only[ml] at h2;obtain⟨g1,g2,g3,_⟩:=h2;have e1: ∃b,x= .bool b:=by
    cases x<;>simp only[eU,Tryz.underlying4] at g1
    ·obtain⟨b,rfl⟩:=g1;exact⟨b,rfl⟩
    ·obtain⟨h1,_⟩:=g1;cases h1
    ·obtain⟨fs,⟨h1,_⟩,_⟩:=g1;cases h1
   have e2: ∃b,y= .int b:=by
    cases y<;>simp only[eU,Tryz.underlying2] at g2
    ·obtain⟨n,rfl,_⟩:=g2;exact⟨n,rfl⟩
    ·obtain⟨h1,_⟩:=g2;cases h1
    ·obtain⟨fs,⟨h1,_⟩,_⟩:=g2;cases h1
   have e3: ∃b,z= .lit (.string b):=by
    cases z<;>simp only[eU,Tryz.underlying9] at g3
    ·obtain⟨n,rfl,_⟩:=g3;exact⟨n,rfl⟩
    ·obtain⟨h1,_⟩:=g3;cases h1
    ·obtain⟨fs,⟨h1,_⟩,_⟩:=g3;cases h1
   obtain⟨b,rfl⟩:=e1;obtain⟨n,rfl⟩:=e2;obtain⟨s,rfl⟩:=e3;rfl
theorem LI{H:Type}{a:AV}{d:DataW H}(h:eU Tryz.prog a 50)(hr:HV a d)(hb:Rows.uptoBulk d<=1048576): ∃xs,a= .ah 51 xs/\S1 xs:=by
 obtain⟨xs,rfl,h1,h2⟩:=nt Tryz.underlying50 h;obtain⟨b1,b2⟩:=Oi hr;have k1:=nu h2;have sh: ∀x,x∈xs->∃l,x= .ah 70 l/\oJ Tryz.prog l 70:=fun x hx=>by
  obtain⟨l,e,_,g⟩:=nt Tryz.underlying51 (k1 x hx);exact⟨l,e,g⟩
 have sr: ∀x,x∈xs->∀r,r∈ag x->∃m,r= .ah 72 m/\oJ Tryz.prog m 72:=fun x hx r hr=>by
  obtain⟨l,rfl,g⟩:=sh x hx;obtain⟨m,e,_,g2⟩:=nt Tryz.underlying70 (nu g r hr);exact⟨m,e,g2⟩
 refine⟨xs,rfl,?_,fun x hx r hr=>?_,fun x hx r hr v hv=>?_⟩
 ·have b1:xs.length<=Rows.uptoBulk d:=b1
  simp only[fS,aC6,at3,List.all_eq_true,fp];refine⟨by omega,fun x hx=>?_⟩;obtain⟨e,c1,c2⟩:=b2 x hx;obtain⟨d1,d2⟩:=Oi c1;refine⟨by omega,fun r hr=>?_⟩;obtain⟨e',c3,c4⟩:=d2 r hr;have:=(Oi c3).1
  omega
 ·obtain⟨m,rfl,_⟩:=sr x hx r hr
  rfl
 ·obtain⟨m,rfl,g⟩:=sr x hx r hr
  exact OM (nu g v hv)
set_option maxRecDepth 100000 in
theorem az9{H:Type}(κ:Kp)(al:List AV)(dl:List (DataW H))(h:pq Tryz.prog Tryz.f8.params.toList al)(hr:HW al dl)(hb:Rows.uptoBulkAll dl<=1048576):cf (Pr κ) 8 al [] fun r _=>r= .bool true:=by
 have h':pq Tryz.prog [25,50] al:=h;match al,h' with
 | [a,b],h'=>
  simp only[pq] at h';obtain⟨ds,rs,rfl,h1,h2,h4⟩:=LH h'.1;obtain⟨e,c1,c2⟩:=(Oj hr).2 b (by simp);obtain⟨xs,rfl,hs⟩:=LI h'.2.1 c1 (by omega);have h3:(decide (ds.length<=aX)&&ds.all fun d=>decide ((ag (af d 1)).length<=aX))=true:=by
   rw[aC6,at3,List.all_eq_true];exact⟨Nat.le_trans h1 AJ,fun d hd=>aD1 (Nat.le_trans (h2 d hd) AJ)⟩
  have hX:= @am3 κ ds rs xs h3 h4 hs (fun r _=>r= .bool true);have hX:=hX rfl;exact gO (BWd κ).ok (BWd κ).mono hX
def S3:List TypeId:=[9,3,2,4,38,29,45,80,46,48,23,36,35,43,22,25,72,70,51,50]
set_option maxRecDepth 100000 in
theorem N9:U6 Tryz.prog S3=true:=by kernel_rfl
set_option maxRecDepth 100000 in
theorem TM(os:Os)(started:os.Started)(H:Type)(enc:TypeId×Value->H)(F:Stop.Interp):
  ReturnsInHanded {} Tryz.checked os 8 .any ((Rows.OpenSpec.upto Rows.modelClosesSpec).preRow enc Tryz.prog Tryz.f8 Rows.modelClosesUptoRow.domain false Rows.modelClosesUptoRow.laid) (((Rows.OpenSpec.upto Rows.modelClosesSpec).at F).post enc Tryz.prog Tryz.f8 false true false false):=by
 refine returnsInHanded_of_row (C:=Tryz.checked) (s:=Rows.OpenSpec.upto Rows.modelClosesSpec) own started (by kernel_rfl) Tryz.func8
  (witness_row_at (enc:=enc) (C:=Tryz.checked) false (Ay os) #[.agg #[.slice none 0 0, .slice none 0 0], .slice none 0 0] rfl (by kernel_rfl) (by kernel_rfl) (by kernel_rfl)
   (OpenSpec.preRow_of_cond 8 (x:=([.agg [.nil, .nil], .nil],[],[])) (by kernel_rfl) (by kernel_rfl) (fun k hk=>by cases hk;kernel_rfl) (by kernel_rfl) (O4 os _))) ?_
 intro W base args ds gs before hval hW hcond h2 h3 hL h4 h5;obtain⟨κ,hκ⟩:=B9 hL;have hb:Rows.uptoBulkAll ds<=1048576:=by
  have h:Rows.uptoBulkAll (ds++gs)<=1048576:=of_decide_eq_true (h2 _ rfl);rw[D6] at h;omega
 exact Ca A0.lay O5 N9 rfl (by kernel_rfl) (by kernel_rfl) rfl hval hW (fun d hd=>by match d,hd with|[_,_],_=>rfl) hκ (fun al h hr=>az9 κ al ds h hr hb)
theorem wc:Rows.ModelClosesUptoSaid:=
 OpenClaim.holds_of_cond 8 Tryz.f8 rfl rfl rfl rfl rfl rfl rfl ⟨rfl,rfl,rfl,rfl,rfl⟩ rfl rfl rfl rfl rfl (by kernel_rfl) Tryz.func8 (by kernel_rfl)
  (of_decide_eq_true (by kernel_rfl)) (by unfold Func.isWrapper;first|(rw[if_pos (by decide+kernel)];kernel_rfl)|(rw[if_neg (by decide+kernel)];exact⟨rfl,rfl⟩))
  (fun os started H enc _ F=>by rw[OpenClaim.pre_eq_preRow];exact TM os started H enc F)
theorem modelCloses_holds:Rows.ModelClosesUptoCardSaid:=
 Claim7.holds_tied_plain_at .later [] [.sentinel, .sentinel, .sentinel, .sentinel, .sentinel] true (true, "70b998159403ba8378fa9eb9dde34844a1cdfe0836a4d8c218ca1eb549aee9fc") true
  wc (fun _ h=>by cases h) (by kernel_rfl) (fun _ h=>by cases h) modelClosesUpto_row_tie rfl ⟨rfl,rfl⟩ (by kernel_rfl) rfl
  (fun f fn hf hfn=>by
   obtain rfl:f=8:=Option.some.inj ((show Tryz.prog.funcNamed "sorites/soriteslaw09.ModelCloses" =some 8 by kernel_rfl).symm.trans hf)|>.symm;obtain rfl:fn=Tryz.f8:=(Option.some.inj (Tryz.func8.symm.trans hfn)).symm;exact⟨by kernel_rfl,fun j t ht=>by
    have hall:((List.range 8).all fun j=>match Tryz.f8.params[j]? with|some t=>!Tryz.prog.wantsStandIn t|none=>true)=true:=by kernel_rfl
    have hsz:Tryz.f8.params.size<=8:=of_decide_eq_true (by kernel_rfl);have hj:j<8:=Nat.lt_of_lt_of_le (Array.getElem?_eq_some_iff.1 ht).1 hsz;have:=List.all_eq_true.1 hall j (List.mem_range.2 hj)
    rw[ht] at this;have hw:Tryz.prog.wantsStandIn t=false:=by simpa using this
    exact hw⟩)
  (by kernel_rfl)
#print axioms modelCloses_holds
end Go.Proofs.YtioeffnadipbaaaGreatDoor
