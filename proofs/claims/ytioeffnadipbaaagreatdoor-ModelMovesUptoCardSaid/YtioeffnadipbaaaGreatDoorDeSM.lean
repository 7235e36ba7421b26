/-
  What is proved: whatever program, rows (of bulk at most 1048576 in all) and numbers are handed in, the law ModelMoves answers true, and its arguments read as before; the program's five listed variables hold what the text lays.
-/
import Derived.Test.YtioeffnadipbaaaGreatDoorDePH
import Derived.Test.YtioeffnadipbaaaGreatDoorDePX
import Derived.Test.YtioeffnadipbaaaGreatDoorTie
import Derived.Test.YtioeffnadipbaaaGreatDoorCards
namespace Go.Proofs.YtioeffnadipbaaaGreatDoor
open Go Go.Dn Go.Rl Go.Proofs Go.ChangeShapes Go.WideShapes Go.ChangeAt Go.RowKit
theorem mN{a:AV}{T E:TypeId}(hu:Tryz.prog.underlying T=some (.slice E))(h:er Tryz.prog a T): ∃l,a= .ah E l/\l.length<=maxLen/\nK Tryz.prog l E:=by
 cases a<;>simp only[er,hu] at h
 ·obtain⟨h1,h2,h3⟩:=h
  cases h1;exact⟨_,rfl,h2,h3⟩
 ·obtain⟨fs,⟨h1,_⟩,_⟩:=h
  cases h1
theorem mj{E:TypeId}: ∀{l:List AV},nK Tryz.prog l E->∀a,a∈l->er Tryz.prog a E
 |[],_,_,h=>nomatch h
 |b::l,h,a,ha=>by
  simp only[nK] at h;rcases List.mem_cons.1 ha with rfl|ha
  ·exact h.1
  ·exact mj h.2 a ha
theorem KF{a:AV}(h:er Tryz.prog a 43):(ag (af a 1)).length<=maxLen:=by
 cases a<;>simp only[er,Tryz.underlying43] at h
 ·obtain⟨h1,_⟩:=h
  cases h1
 ·rename_i l
  obtain⟨fs,⟨h1,_⟩,h2⟩:=h;cases h1;match l,h2 with
  |[_,y,_,_,_,_],h2=>
   simp only[lW] at h2;obtain⟨ns,rfl,h3,_⟩:=mN Tryz.underlying36 h2.2.1;exact h3
theorem zy:maxLen<=aW:=by decide
theorem xZ{a:AV}(h:er Tryz.prog a 3): ∃n,a= .int n:=by
 cases a<;>simp only[er,Tryz.underlying3] at h
 ·obtain⟨n,rfl,_⟩:=h
  exact⟨n,rfl⟩
 ·obtain⟨h1,_⟩:=h
  cases h1
 ·obtain⟨fs,⟨h1,_⟩,_⟩:=h
  cases h1
theorem NP{a:AV}(h:er Tryz.prog a 9): ∃s,a= .lit (.string s)/\s.size<=maxLen:=by
 cases a<;>simp only[er,Tryz.underlying9] at h
 ·exact h.imp fun s hs=>⟨by rw[hs.1],hs.2⟩
 ·obtain⟨h1,_⟩:=h
  cases h1
 ·obtain⟨fs,⟨h1,_⟩,_⟩:=h
  cases h1
theorem F5{a:AV}(h:er Tryz.prog a 29): ∃l,a= .ah 38 l/\l.length<=maxLen:=by
 cases a<;>simp only[er,Tryz.underlying29] at h
 ·obtain⟨h1,h2,_⟩:=h
  cases h1;exact⟨_,rfl,h2⟩
 ·obtain⟨fs,⟨h1,_⟩,_⟩:=h
  cases h1
theorem KR{a:AV}(h:er Tryz.prog a 46): ∃l,a= .ah 80 l/\l.length<=maxLen:=by
 cases a<;>simp only[er,Tryz.underlying46] at h
 ·obtain⟨h1,h2,_⟩:=h
  cases h1;exact⟨_,rfl,h2⟩
 ·obtain⟨fs,⟨h1,_⟩,_⟩:=h
  cases h1
theorem JI{a:AV}(h:er Tryz.prog a 45): ∃r l,a= .agg [.lit (.string r), .ah 38 l]:=by
 cases a<;>simp only[er,Tryz.underlying45] at h
 ·obtain⟨h1,_⟩:=h
  cases h1
 ·rename_i l
  obtain⟨fs,⟨h1,_⟩,h2⟩:=h;cases h1;match l,h2 with
  |[x,y],h2=>
   simp only[lW] at h2;obtain⟨r,rfl,_⟩:=NP h2.1;obtain⟨l,rfl,_⟩:=F5 h2.2.1;exact⟨r,l,rfl⟩
theorem Lk{a:AV}(h:er Tryz.prog a 48): ∃b:dk,a=au b:=by
 cases a<;>simp only[er,Tryz.underlying48] at h
 ·obtain⟨h1,_⟩:=h
  cases h1
 ·rename_i l
  obtain⟨fs,⟨h1,_⟩,h2⟩:=h;cases h1;match l,h2 with
  |[x,y,z],h2=>
   simp only[lW] at h2;obtain⟨r,hl,rfl⟩:=JI h2.1;obtain⟨bl,rfl,_⟩:=KR h2.2.1;obtain⟨n,rfl⟩:=xZ h2.2.2.1;exact⟨⟨[],[],r,hl,bl,n,0⟩,rfl⟩
theorem Ks{a:AV}(h:er Tryz.prog a 25): ∃ds rs,a=eg ds rs/\ds.length<=maxLen/\(∀d,d∈ds->(ag (af d 1)).length<=maxLen)/\∀r,r∈rs->au (dg r)=r:=by
 cases a<;>simp only[er,Tryz.underlying25] at h
 ·obtain⟨h1,_⟩:=h
  cases h1
 ·rename_i l
  obtain⟨fs,⟨h1,_⟩,h2⟩:=h;cases h1;match l,h2 with
  |[x,y],h2=>
   simp only[lW] at h2;obtain⟨ds,rfl,h3,h4⟩:=mN Tryz.underlying22 h2.1;obtain⟨rs,rfl,_,h5⟩:=mN Tryz.underlying23 h2.2.1;exact⟨ds,rs,rfl,h3,fun d hd=>KF (mj h4 d hd),fun r hr=>by obtain⟨b,rfl⟩:=Lk (mj h5 r hr);rfl⟩
theorem Nu{H:Type}(d:DataW H):1<=Rows.uptoBulk d:=by
 cases d with
 |lit l=>cases l<;>simp[Rows.uptoBulk]
 |nil=>simp[Rows.uptoBulk]
 |ptr d=>simp[Rows.uptoBulk]
 |slice elems spare=>simp[Rows.uptoBulk]
 |agg parts=>simp[Rows.uptoBulk]
 |iface t d=>simp[Rows.uptoBulk]
 |map entries=>simp[Rows.uptoBulk]
 |held h=>simp[Rows.uptoBulk]
theorem C9{H:Type}: ∀(l m:List (DataW H)),Rows.uptoBulkAll (l++m)=Rows.uptoBulkAll l+Rows.uptoBulkAll m
 |[],m=>by simp only[List.nil_append,Rows.uptoBulkAll,Nat.zero_add]
 |x::l,m=>by simp only[List.cons_append,Rows.uptoBulkAll,C9 l m,Nat.add_assoc]
theorem Ox{H:Type}: ∀{l:List AV} {es:List (DataW H)},FA l es->l.length<=Rows.uptoBulkAll es/\∀x,x∈l->∃e:DataW H,GM x e/\Rows.uptoBulk e<=Rows.uptoBulkAll es
 |[],es,_=>⟨Nat.zero_le _,fun x hx=>(nomatch hx)⟩
 | a::l,es,h=>by
  simp only[FA] at h;obtain⟨e,r,rfl,h1,h2⟩:=h;obtain⟨k1,k2⟩:=Ox h2;have h3:=Nu e;simp only[Rows.uptoBulkAll,List.length_cons];refine⟨by omega,fun x hx=>?_⟩;rcases List.mem_cons.1 hx with rfl|hx
  ·exact⟨e,h1,by omega⟩
  ·obtain⟨e',k3,k4⟩:=k2 x hx
   exact⟨e',k3,by omega⟩
theorem Of{H:Type}{a:AV}{d:DataW H}(h:GM a d):(ag a).length<=Rows.uptoBulk d/\∀x,x∈ag a->∃e:DataW H,GM x e/\Rows.uptoBulk e<=Rows.uptoBulk d:=by
 cases a with
 | ah T l=>
  simp only[GM] at h;rcases h with⟨rfl,_⟩|⟨es,sp,rfl,h⟩
  ·exact⟨Nat.zero_le _,fun x hx=>(nomatch hx)⟩
  ·obtain⟨k1,k2⟩:=Ox h
   show l.length<=_/\∀x,x∈l->_
   simp only[Rows.uptoBulk];refine⟨by omega,fun x hx=>?_⟩;obtain⟨e,k3,k4⟩:=k2 x hx;exact⟨e,k3,by omega⟩
 |_=>exact⟨Nat.zero_le _,fun x hx=>(nomatch hx)⟩
theorem NZ{a:AV}(h:er Tryz.prog a 72):a=e6 (EA a):=by
 cases a<;>simp only[er,Tryz.underlying72] at h
 ·obtain⟨h1,_⟩:=h
  cases h1
 ·rename_i l
  obtain⟨fs,⟨h1,_⟩,h2⟩:=h;cases h1;match l,h2 with
  | [x,y,z],h2=>
   simp only[lW] at h2;obtain⟨g1,g2,g3,_⟩:=h2;have e1: ∃b,x= .bool b:=by
    cases x<;>simp only[er,Tryz.underlying4] at g1
    ·obtain⟨b,rfl⟩:=g1;exact⟨b,rfl⟩
    ·obtain⟨h1,_⟩:=g1;cases h1
    ·obtain⟨fs,⟨h1,_⟩,_⟩:=g1;cases h1
   have e2: ∃b,y= .int b:=by
    cases y<;>simp only[er,Tryz.underlying2] at g2
    ·obtain⟨n,rfl,_⟩:=g2;exact⟨n,rfl⟩
    ·obtain⟨h1,_⟩:=g2;cases h1
    ·obtain⟨fs,⟨h1,_⟩,_⟩:=g2;cases h1
   have e3: ∃b,z= .lit (.string b):=by
    cases z<;>simp only[er,Tryz.underlying9] at g3
    ·obtain⟨n,rfl,_⟩:=g3;exact⟨n,rfl⟩
    ·obtain⟨h1,_⟩:=g3;cases h1
    ·obtain⟨fs,⟨h1,_⟩,_⟩:=g3;cases h1
   obtain⟨b,rfl⟩:=e1;obtain⟨n,rfl⟩:=e2;obtain⟨s,rfl⟩:=e3;rfl
theorem JB{H:Type}{a:AV}{d:DataW H}(h:er Tryz.prog a 50)(hr:GM a d)(hb:Rows.uptoBulk d<=1048576): ∃xs,a= .ah 51 xs/\ZZ xs:=by
 obtain⟨xs,rfl,h1,h2⟩:=mN Tryz.underlying50 h;obtain⟨b1,b2⟩:=Of hr;have k1:=mj h2;have sh: ∀x,x∈xs->∃l,x= .ah 70 l/\nK Tryz.prog l 70:=fun x hx=>by
  obtain⟨l,e,_,g⟩:=mN Tryz.underlying51 (k1 x hx);exact⟨l,e,g⟩
 have sr: ∀x,x∈xs->∀r,r∈ag x->∃m,r= .ah 72 m/\nK Tryz.prog m 72:=fun x hx r hr=>by
  obtain⟨l,rfl,g⟩:=sh x hx;obtain⟨m,e,_,g2⟩:=mN Tryz.underlying70 (mj g r hr);exact⟨m,e,g2⟩
 refine⟨xs,rfl,?_,fun x hx r hr=>?_,fun x hx r hr v hv=>?_⟩
 ·have b1:xs.length<=Rows.uptoBulk d:=b1
  simp only[c6,ao0,an9,List.all_eq_true,fC];refine⟨by omega,fun x hx=>?_⟩;obtain⟨e,c1,c2⟩:=b2 x hx;obtain⟨d1,d2⟩:=Of c1;refine⟨by omega,fun r hr=>?_⟩;obtain⟨e',c3,c4⟩:=d2 r hr;have:=(Of c3).1
  omega
 ·obtain⟨m,rfl,_⟩:=sr x hx r hr
  rfl
 ·obtain⟨m,rfl,g⟩:=sr x hx r hr
  exact NZ (mj g v hv)
set_option maxRecDepth 100000 in
theorem am8{H:Type}(κ:Kp)(al:List AV)(dl:List (DataW H))(h:oC Tryz.prog Tryz.f5.params.toList al)(hr:FA al dl)(hb:Rows.uptoBulkAll dl<=1048576):bZ (Pr κ) 5 al [] fun r _=>r= .bool true:=by
 have h':oC Tryz.prog [25,50,3,3] al:=h;match al,h' with
 | [a,b,k0,k1],h'=>
  simp only[oC] at h';obtain⟨ds,rs,rfl,h1,h2,h4⟩:=Ks h'.1;obtain⟨n0,rfl⟩:=xZ h'.2.2.1;obtain⟨n1,rfl⟩:=xZ h'.2.2.2.1;obtain⟨e,c1,c2⟩:=(Ox hr).2 b (by simp);obtain⟨xs,rfl,hs⟩:=JB h'.2.1 c1 (by omega);have h3:(decide (ds.length<=aW)&&ds.all fun d=>decide ((ag (af d 1)).length<=aW))=true:=by
   rw[ao0,an9,List.all_eq_true];exact⟨Nat.le_trans h1 zy,fun d hd=>ao5 (Nat.le_trans (h2 d hd) zy)⟩
  have hX:= @XL κ ds rs xs n0 n1 h3 h4 hs (fun r _=>r= .bool true);have hX:=hX rfl;exact gW (BSx κ).ok (BSx κ).mono hX
def RH:List TypeId:=[9,3,2,4,38,29,45,80,46,48,23,36,35,43,22,25,72,70,51,50]
set_option maxRecDepth 100000 in
theorem NB:R6 Tryz.prog RH=true:=by kernel_rfl
set_option maxRecDepth 100000 in
theorem Q5(os:Os)(started:os.Started)(H:Type)(enc:TypeId×Value->H)(F:Stop.Interp):
  ReturnsInHanded {} Tryz.checked os 5 .any ((Rows.OpenSpec.upto Rows.modelMovesSpec).preRow enc Tryz.prog Tryz.f5 Rows.modelMovesUptoRow.domain false Rows.modelMovesUptoRow.laid) (((Rows.OpenSpec.upto Rows.modelMovesSpec).at F).post enc Tryz.prog Tryz.f5 false true false false):=by
 refine returnsInHanded_of_row (C:=Tryz.checked) (s:=Rows.OpenSpec.upto Rows.modelMovesSpec) own started (by kernel_rfl) Tryz.func5
  (witness_row_at (enc:=enc) (C:=Tryz.checked) false (zW os) #[.agg #[.slice none 0 0, .slice none 0 0], .slice none 0 0, .int .i64 0, .int .i64 0] rfl (by kernel_rfl) (by kernel_rfl) (by kernel_rfl)
   (OpenSpec.preRow_of_cond 8 (x:=([.agg [.nil, .nil], .nil, .lit (.int .i64 0), .lit (.int .i64 0)],[],[])) (by kernel_rfl) (by kernel_rfl) (fun k hk=>by cases hk;kernel_rfl) (by kernel_rfl) (OI os _))) ?_
 intro W base args ds gs before hval hW hcond h2 h3 hL h4 h5;obtain⟨κ,hκ⟩:=BK hL;have hb:Rows.uptoBulkAll ds<=1048576:=by
  have h:Rows.uptoBulkAll (ds++gs)<=1048576:=of_decide_eq_true (h2 _ rfl);rw[C9] at h;omega
 exact Bb y9.lay L6 NB rfl (by kernel_rfl) (by kernel_rfl) rfl hval hW (fun d hd=>by match d,hd with|[_,_,_,_],_=>rfl) hκ (fun al h hr=>am8 κ al ds h hr hb)
theorem wm:Rows.ModelMovesUptoSaid:=
 OpenClaim.holds_of_cond 5 Tryz.f5 rfl rfl rfl rfl rfl rfl rfl ⟨rfl,rfl,rfl,rfl,rfl⟩ rfl rfl rfl rfl rfl (by kernel_rfl) Tryz.func5 (by kernel_rfl)
  (of_decide_eq_true (by kernel_rfl)) (by unfold Func.isWrapper;first|(rw[if_pos (by decide+kernel)];kernel_rfl)|(rw[if_neg (by decide+kernel)];exact⟨rfl,rfl⟩))
  (fun os started H enc _ F=>by rw[OpenClaim.pre_eq_preRow];exact Q5 os started H enc F)
theorem modelMoves_holds:Rows.ModelMovesUptoCardSaid:=
 Claim7.holds_tied_plain_at .later [] [.sentinel, .sentinel, .sentinel, .sentinel, .sentinel] true (true, "70b998159403ba8378fa9eb9dde34844a1cdfe0836a4d8c218ca1eb549aee9fc") true
  wm (fun _ h=>by cases h) (by kernel_rfl) (fun _ h=>by cases h) modelMovesUpto_row_tie rfl ⟨rfl,rfl⟩ (by kernel_rfl) rfl
  (fun f fn hf hfn=>by
   obtain rfl:f=5:=Option.some.inj ((show Tryz.prog.funcNamed "sorites/soriteslaw09.ModelMoves" =some 5 by kernel_rfl).symm.trans hf)|>.symm;obtain rfl:fn=Tryz.f5:=(Option.some.inj (Tryz.func5.symm.trans hfn)).symm;exact⟨by kernel_rfl,fun j t ht=>by
    have hall:((List.range 8).all fun j=>match Tryz.f5.params[j]? with|some t=>!Tryz.prog.wantsStandIn t|none=>true)=true:=by kernel_rfl
    have hsz:Tryz.f5.params.size<=8:=of_decide_eq_true (by kernel_rfl);have hj:j<8:=Nat.lt_of_lt_of_le (Array.getElem?_eq_some_iff.1 ht).1 hsz;have:=List.all_eq_true.1 hall j (List.mem_range.2 hj)
    rw[ht] at this;have hw:Tryz.prog.wantsStandIn t=false:=by simpa using this
    exact hw⟩)
  (by kernel_rfl)
#print axioms modelMoves_holds
end Go.Proofs.YtioeffnadipbaaaGreatDoor
