import Derived.Test.YtioeffnadipbaaaGreatDoorDeP1
import Derived.Test.YtioeffnadipbaaaGreatDoorDoG
import Derived.Test.YtioeffnadipbaaaGreatDoorRows
import Derived.ProofKit
import Derived.Deep.DeepHandedRow
import Derived.Stop.LaidTwo
import Derived.LaidHandle
import Derived.Test.YtioeffnadipbaaaGreatDoorDePG
import Derived.Test.YtioeffnadipbaaaGreatDoorTie
import Derived.Test.YtioeffnadipbaaaGreatDoorCards
namespace Go.Proofs.YtioeffnadipbaaaGreatDoor
open Go Go.Dn Go.Rl Go.Proofs Go.ChangeShapes Go.WideShapes Go.ChangeAt Go.RowKit
theorem own:ownKnob Tryz.prog.godebug=none:=by kernel_rfl
theorem Me:laidOutB Tryz.prog=true:=by kernel_rfl
abbrev Mc:List (String×DataW Unit):=[("sorites/dtree.errTree",Rows.laid_sorites_dtree_errTree),("sorites/dtype.errNoRel",Rows.laid_sorites_dtype_errNoRel),("sorites/dtype.errArity",Rows.laid_sorites_dtype_errArity),("sorites/dtype.errType",Rows.laid_sorites_dtype_errType),("sorites/dsafe.errStuck",Rows.laid_sorites_dsafe_errStuck)]
theorem RR:Tryz.prog.globalNamed "sorites/dtree.errTree" =some 1:=by kernel_rfl
theorem EW:Tryz.prog.globalNamed "sorites/dtype.errNoRel" =some 3:=by kernel_rfl
theorem EV:Tryz.prog.globalNamed "sorites/dtype.errArity" =some 4:=by kernel_rfl
theorem LV:Tryz.prog.globalNamed "sorites/dtype.errType" =some 2:=by kernel_rfl
theorem LU:Tryz.prog.globalNamed "sorites/dsafe.errStuck" =some 0:=by kernel_rfl
theorem TU:(Tryz.prog.globals[1]?).map (·.type)=some 171:=by kernel_rfl
theorem GU:(Tryz.prog.globals[3]?).map (·.type)=some 171:=by kernel_rfl
theorem GS:(Tryz.prog.globals[4]?).map (·.type)=some 171:=by kernel_rfl
theorem LW:(Tryz.prog.globals[2]?).map (·.type)=some 171:=by kernel_rfl
theorem P7:(Tryz.prog.globals[0]?).map (·.type)=some 171:=by kernel_rfl
theorem Ao:Tryz.prog.cellsOf 299=1:=by kernel_rfl
theorem Ap:Tryz.prog.cellsOf 9=1:=by kernel_rfl
theorem Sx: "*" ++ "errors.errorString" = "*errors.errorString" :=by decide
theorem Bz(u:TypeId)(h:Tryz.prog.typeName? 3 u=some "*errors.errorString"):u=273:=
 typeName_ptr_named (nm:= "errors.errorString") (by rw[Sx];kernel_rfl) (by kernel_rfl) (by decide) u (by rw[Sx];exact h)
theorem mW{P:Program}{w:World}{n:String}{g:Nat}{cs:Array Value}(hg:P.globalNamed n=some g)(h:w.var? P n=some cs): ∃T z,w.heap[g]? =some (.cells cs T z):=by
 simp only[World.var?,hg,Option.bind_some] at h;split at h
 ·rename_i cs' T z e
  cases h;exact⟨T,z,e⟩
 ·cases h
theorem oV{W:World}{a:Addr}{s:ByteArray}{g:Nat}{v:Value}{T:TypeId}{z:Nat×Nat}(h:W.cell? a=some (.string s))(hv: ∀t,v≠ .string t)(hg:W.heap[g]? =some (.cells #[v] T z)):a.block≠g:=by
 intro e;unfold World.cell? at h;rw[e,hg] at h;simp only at h;split at h
 ·cases h
 ·obtain⟨h1,h2⟩:=Array.getElem?_eq_some_iff.1 h
  have:a.off=0:=by simp at h1;omega
  simp only[this] at h2;exact hv s h2
theorem AM{W:World}(h:laidMetH Tryz.prog Mc W): ∃κ:Kp,∀b o,za κ b=some o->W.heap[b]? =some o:=by
 have h':laidMet Tryz.prog Mc W:=h;obtain⟨aT,aN,sT,sN,cT,cN,tT,tN,vT,vN,kT,xT,_,kN,xN,_,dTN,bT,bN⟩:=laid_sentinels2 h' RR TU EW GU Tryz.underlying171 Bz Tryz.underlying273 Tryz.underlying299 rfl rfl Tryz.underlying9 Ao Ap;obtain⟨aN',aA,sN',sA,cN',cA,tN',tA,vN',vA,kN',_,_,kA,xA,_,dNA,_,bA⟩:=laid_sentinels2 h'.tail EW GU EV GS Tryz.underlying171 Bz Tryz.underlying273 Tryz.underlying299 rfl rfl Tryz.underlying9 Ao Ap;obtain⟨aA',aY,sA',sY,cA',cY,tA',tY,vA',vY,kA',_,_,kY,xY,_,dAY,_,bY⟩:=laid_sentinels2 h'.tail.tail EV GS LV LW Tryz.underlying171 Bz Tryz.underlying273 Tryz.underlying299 rfl rfl Tryz.underlying9 Ao Ap;obtain⟨aY',aS,sY',sS,cY',cS,tY',tS,vY',vS,kY',_,_,kS,xS,_,dYS,_,bS⟩:=laid_sentinels2 h'.tail.tail.tail LV LW LU P7 Tryz.underlying171 Bz Tryz.underlying273 Tryz.underlying299 rfl rfl Tryz.underlying9 Ao Ap;have eN:aN'=aN:=by
  rw[vN] at vN';simpa using vN'.symm
 have eA:aA'=aA:=by
  rw[vA] at vA';simpa using vA'.symm
 subst eN;subst eA;have dNY:aN'≠aY:=fun e=>by
  subst e;rw[kN] at kY;cases kY;rw[xN] at xY
  revert xY
  decide
 obtain⟨T1,z1,e1⟩:=mW RR vT;obtain⟨T2,z2,e2⟩:=mW LU vS;obtain⟨T3,z3,e3⟩:=mW EW vN;obtain⟨T4,z4,e4⟩:=mW EV vA;obtain⟨T5,z5,e5⟩:=mW LV vY;have nn: ∀{a:Addr} {s:ByteArray},W.cell? a=some (.string s)->∀g,g∈[1,0,3,4,2]->a.block≠g:=fun hk g hg=>by
  simp only[ap0,List.not_mem_nil,or_false] at hg;rcases hg with rfl|rfl|rfl|rfl|rfl
  ·exact oV hk (fun _=>by simp) e1
  ·exact oV hk (fun _=>by simp) e2
  ·exact oV hk (fun _=>by simp) e3
  ·exact oV hk (fun _=>by simp) e4
  ·exact oV hk (fun _=>by simp) e5
 refine⟨{tree:=aT,stuck:=aS,T1:=T1,T2:=T2,z1:=z1,z2:=z2,fX:=aN',arity:=aA',type:=aY,T3:=T3,T4:=T4,T5:=T5,z3:=z3,z4:=z4,z5:=z5,c3:=cN,c4:=cA,c5:=cY,t3:=tN,t4:=tA,t5:=tY,d1:=dNA,d2:=dNY,d3:=dAY,n3:=nn kN,n4:=nn kA,n5:=nn kY},fun b o hb=>?_⟩;unfold za at hb;cases q0:Nat.beq b 1 with
 |true=>
  rw[q0,an9] at hb;cases hb;rw[Nat.eq_of_beq_eq_true q0];exact e1
 | false =>
  rw[q0,an7] at hb;cases q1:Nat.beq b 0 with
  |true=>
   rw[q1,an9] at hb;cases hb;rw[Nat.eq_of_beq_eq_true q1];exact e2
  | false=>
   rw[q1,an7] at hb;cases q2:Nat.beq b 3 with
   |true=>
    rw[q2,an9] at hb;cases hb;rw[Nat.eq_of_beq_eq_true q2];exact e3
   | false=>
    rw[q2,an7] at hb;cases q3:Nat.beq b 4 with
    |true=>
     rw[q3,an9] at hb;cases hb;rw[Nat.eq_of_beq_eq_true q3];exact e4
    | false=>
     rw[q3,an7] at hb;cases q4:Nat.beq b 2 with
     |true=>
      rw[q4,an9] at hb;cases hb;rw[Nat.eq_of_beq_eq_true q4];exact e5
     | false=>
      rw[q4,an7] at hb;cases q5:Nat.beq b aN'.block with
      |true=>
       rw[q5,an9] at hb;cases hb;rw[Nat.eq_of_beq_eq_true q5];exact bN
      | false=>
       rw[q5,an7] at hb;cases q6:Nat.beq b aA'.block with
       |true=>
        rw[q6,an9] at hb;cases hb;rw[Nat.eq_of_beq_eq_true q6];exact bA
       | false=>
        rw[q6,an7] at hb;cases q7:Nat.beq b aY.block with
        |true=>
         rw[q7,an9] at hb;cases hb;rw[Nat.eq_of_beq_eq_true q7];exact bY
        |false=>
         rw[q7,an7] at hb;cases hb
abbrev Zi:ByteArray:={data:= #[110,111,32,116,114,101,101]}
abbrev Ue:ByteArray:={data:= #[110,111,32,114,101,108,97,116,105,111,110]}
abbrev Tx:ByteArray:={data:= #[97,110,111,116,104,101,114,32,110,117,109,98,101,114,32,111,102,32,99,111,108,117,109,110,115]}
abbrev Zk:ByteArray:={data:= #[97,110,111,116,104,101,114,32,116,121,112,101]}
abbrev U6:ByteArray:={data:= #[110,111,32,112,97,114,116,32,105,115,32,114,101,97,100,121]}
noncomputable def low:Nat:=(World.holding Tryz.prog default ⟨#[], #[],[]⟩).heap.size
def Nn(n:Nat)(h:Array Go.Obj)(g:Nat):Array Go.Obj:=h.modify g fun
 | .cells _ t frozen=> .cells #[.iface 273 (.pointer (some ⟨n,0,none⟩))] t frozen
 |o=>o
noncomputable def zc(os:Os):World:=
 let w0:=World.holding Tryz.prog os ⟨#[.cells #[.string Zi] 299, .cells #[.string Ue] 299, .cells #[.string Tx] 299, .cells #[.string Zk] 299, .cells #[.string U6] 299], #[],[]⟩
 {w0 with heap:=(Nn (low+4) (Nn (low+3) (Nn (low+2) (Nn (low+1) (Nn (low+0) w0.heap 1) 3) 4) 2) 0)}
theorem Md(os:Os)(args:Array Value):laidMetH Tryz.prog Mc ((zc os).forCall (fun _ _=>0) ⟨#[],args,[]⟩).memory:=
 laidMetH_of_parts (laidMet_of_run (ps:=[.cell 1 0, .cell (low+0) 0, .cell 3 0, .cell (low+1) 0, .cell 4 0, .cell (low+2) 0, .cell 2 0, .cell (low+3) 0, .cell 0 0, .cell (low+4) 0]) 8 (by kernel_rfl) (by kernel_rfl) (by kernel_rfl)) (by kernel_rfl)
end Go.Proofs.YtioeffnadipbaaaGreatDoor
/-
  What is proved: whatever program, rows (of bulk at most 1048576 in all) and numbers are handed in, the law QueryParts answers true, and its arguments read as before; the program's five listed variables hold what the text lays.
-/
namespace Go.Proofs.YtioeffnadipbaaaGreatDoor
open Go Go.Dn Go.Rl Go.Proofs Go.ChangeShapes Go.WideShapes Go.ChangeAt Go.RowKit
theorem mK{a:AV}{T E:TypeId}(hu:Tryz.prog.underlying T=some (.slice E))(h:eo Tryz.prog a T): ∃l,a= .ad E l/\l.length<=maxLen/\n6 Tryz.prog l E:=by
 cases a<;>simp only[eo,hu] at h
 ·obtain⟨h1,h2,h3⟩:=h
  cases h1;exact⟨_,rfl,h2,h3⟩
 ·obtain⟨fs,⟨h1,_⟩,_⟩:=h
  cases h1
theorem mL{E:TypeId}: ∀{l:List AV},n6 Tryz.prog l E->∀a,a∈l->eo Tryz.prog a E
 |[],_,_,h=>nomatch h
 |b::l,h,a,ha=>by
  simp only[n6] at h;rcases List.mem_cons.1 ha with rfl|ha
  ·exact h.1
  ·exact mL h.2 a ha
theorem Jd{a:AV}(h:eo Tryz.prog a 43):(aa (af a 1)).length<=maxLen:=by
 cases a<;>simp only[eo,Tryz.underlying43] at h
 ·obtain⟨h1,_⟩:=h
  cases h1
 ·rename_i l
  obtain⟨fs,⟨h1,_⟩,h2⟩:=h;cases h1;match l,h2 with
  |[_,y,_,_,_,_],h2=>
   simp only[lO] at h2;obtain⟨ns,rfl,h3,_⟩:=mK Tryz.underlying36 h2.2.1;exact h3
theorem zl:maxLen<=aU:=by decide
theorem r6{a:AV}(h:eo Tryz.prog a 3): ∃n,a= .int n:=by
 cases a<;>simp only[eo,Tryz.underlying3] at h
 ·obtain⟨n,rfl,_⟩:=h
  exact⟨n,rfl⟩
 ·obtain⟨h1,_⟩:=h
  cases h1
 ·obtain⟨fs,⟨h1,_⟩,_⟩:=h
  cases h1
theorem LX{a:AV}(h:eo Tryz.prog a 9): ∃s,a= .lit (.string s)/\s.size<=maxLen:=by
 cases a<;>simp only[eo,Tryz.underlying9] at h
 ·exact h.imp fun s hs=>⟨by rw[hs.1],hs.2⟩
 ·obtain⟨h1,_⟩:=h
  cases h1
 ·obtain⟨fs,⟨h1,_⟩,_⟩:=h
  cases h1
theorem EX{a:AV}(h:eo Tryz.prog a 29): ∃l,a= .ad 38 l/\l.length<=maxLen:=by
 cases a<;>simp only[eo,Tryz.underlying29] at h
 ·obtain⟨h1,h2,_⟩:=h
  cases h1;exact⟨_,rfl,h2⟩
 ·obtain⟨fs,⟨h1,_⟩,_⟩:=h
  cases h1
theorem Je{a:AV}(h:eo Tryz.prog a 46): ∃l,a= .ad 80 l/\l.length<=maxLen:=by
 cases a<;>simp only[eo,Tryz.underlying46] at h
 ·obtain⟨h1,h2,_⟩:=h
  cases h1;exact⟨_,rfl,h2⟩
 ·obtain⟨fs,⟨h1,_⟩,_⟩:=h
  cases h1
theorem Jc{a:AV}(h:eo Tryz.prog a 45): ∃r l,a= .agg [.lit (.string r), .ad 38 l]:=by
 cases a<;>simp only[eo,Tryz.underlying45] at h
 ·obtain⟨h1,_⟩:=h
  cases h1
 ·rename_i l
  obtain⟨fs,⟨h1,_⟩,h2⟩:=h;cases h1;match l,h2 with
  |[x,y],h2=>
   simp only[lO] at h2;obtain⟨r,rfl,_⟩:=LX h2.1;obtain⟨l,rfl,_⟩:=EX h2.2.1;exact⟨r,l,rfl⟩
theorem Jh{a:AV}(h:eo Tryz.prog a 48): ∃b:dt,a=aw b:=by
 cases a<;>simp only[eo,Tryz.underlying48] at h
 ·obtain⟨h1,_⟩:=h
  cases h1
 ·rename_i l
  obtain⟨fs,⟨h1,_⟩,h2⟩:=h;cases h1;match l,h2 with
  |[x,y,z],h2=>
   simp only[lO] at h2;obtain⟨r,hl,rfl⟩:=Jc h2.1;obtain⟨bl,rfl,_⟩:=Je h2.2.1;obtain⟨n,rfl⟩:=r6 h2.2.2.1;exact⟨⟨[],[],r,hl,bl,n,0⟩,rfl⟩
theorem Jf{a:AV}(h:eo Tryz.prog a 25): ∃ds rs,a=lj ds rs/\ds.length<=maxLen/\(∀d,d∈ds->(aa (af d 1)).length<=maxLen)/\∀r,r∈rs->aw (cG r)=r:=by
 cases a<;>simp only[eo,Tryz.underlying25] at h
 ·obtain⟨h1,_⟩:=h
  cases h1
 ·rename_i l
  obtain⟨fs,⟨h1,_⟩,h2⟩:=h;cases h1;match l,h2 with
  |[x,y],h2=>
   simp only[lO] at h2;obtain⟨ds,rfl,h3,h4⟩:=mK Tryz.underlying22 h2.1;obtain⟨rs,rfl,_,h5⟩:=mK Tryz.underlying23 h2.2.1;exact⟨ds,rs,rfl,h3,fun d hd=>Jd (mL h4 d hd),fun r hr=>by obtain⟨b,rfl⟩:=Jh (mL h5 r hr);rfl⟩
theorem LC{H:Type}(d:DataW H):1<=Rows.uptoBulk d:=by
 cases d with
 |lit l=>cases l<;>simp[Rows.uptoBulk]
 |nil=>simp[Rows.uptoBulk]
 |ptr d=>simp[Rows.uptoBulk]
 |slice elems spare=>simp[Rows.uptoBulk]
 |agg parts=>simp[Rows.uptoBulk]
 |iface t d=>simp[Rows.uptoBulk]
 |map entries=>simp[Rows.uptoBulk]
 |held h=>simp[Rows.uptoBulk]
theorem Cm{H:Type}: ∀(l m:List (DataW H)),Rows.uptoBulkAll (l++m)=Rows.uptoBulkAll l+Rows.uptoBulkAll m
 |[],m=>by simp only[List.nil_append,Rows.uptoBulkAll,Nat.zero_add]
 |x::l,m=>by simp only[List.cons_append,Rows.uptoBulkAll,Cm l m,Nat.add_assoc]
theorem LB{H:Type}: ∀{l:List AV} {es:List (DataW H)},FL l es->l.length<=Rows.uptoBulkAll es/\∀x,x∈l->∃e:DataW H,FK x e/\Rows.uptoBulk e<=Rows.uptoBulkAll es
 |[],es,_=>⟨Nat.zero_le _,fun x hx=>(nomatch hx)⟩
 | a::l,es,h=>by
  simp only[FL] at h;obtain⟨e,r,rfl,h1,h2⟩:=h;obtain⟨k1,k2⟩:=LB h2;have h3:=LC e;simp only[Rows.uptoBulkAll,List.length_cons];refine⟨by omega,fun x hx=>?_⟩;rcases List.mem_cons.1 hx with rfl|hx
  ·exact⟨e,h1,by omega⟩
  ·obtain⟨e',k3,k4⟩:=k2 x hx
   exact⟨e',k3,by omega⟩
theorem Lz{H:Type}{a:AV}{d:DataW H}(h:FK a d):(aa a).length<=Rows.uptoBulk d/\∀x,x∈aa a->∃e:DataW H,FK x e/\Rows.uptoBulk e<=Rows.uptoBulk d:=by
 cases a with
 | ad T l=>
  simp only[FK] at h;rcases h with⟨rfl,_⟩|⟨es,sp,rfl,h⟩
  ·exact⟨Nat.zero_le _,fun x hx=>(nomatch hx)⟩
  ·obtain⟨k1,k2⟩:=LB h
   show l.length<=_/\∀x,x∈l->_
   simp only[Rows.uptoBulk];refine⟨by omega,fun x hx=>?_⟩;obtain⟨e,k3,k4⟩:=k2 x hx;exact⟨e,k3,by omega⟩
 |_=>exact⟨Nat.zero_le _,fun x hx=>(nomatch hx)⟩
theorem LY{a:AV}(h:eo Tryz.prog a 72):a=gz (uv a):=by
 cases a<;>simp only[eo,Tryz.underlying72] at h
 ·obtain⟨h1,_⟩:=h
  cases h1
 ·rename_i l
  obtain⟨fs,⟨h1,_⟩,h2⟩:=h;cases h1;match l,h2 with
  | [x,y,z],h2=>
   simp only[lO] at h2;obtain⟨g1,g2,g3,_⟩:=h2;have e1: ∃b,x= .bool b:=by
    cases x<;>simp only[eo,Tryz.underlying4] at g1
    ·obtain⟨b,rfl⟩:=g1;exact⟨b,rfl⟩
    ·obtain⟨h1,_⟩:=g1;cases h1
    ·obtain⟨fs,⟨h1,_⟩,_⟩:=g1;cases h1
   have e2: ∃b,y= .int b:=by
    cases y<;>simp only[eo,Tryz.underlying2] at g2
    ·obtain⟨n,rfl,_⟩:=g2;exact⟨n,rfl⟩
    ·obtain⟨h1,_⟩:=g2;cases h1
    ·obtain⟨fs,⟨h1,_⟩,_⟩:=g2;cases h1
   have e3: ∃b,z= .lit (.string b):=by
    cases z<;>simp only[eo,Tryz.underlying9] at g3
    ·obtain⟨n,rfl,_⟩:=g3;exact⟨n,rfl⟩
    ·obtain⟨h1,_⟩:=g3;cases h1
    ·obtain⟨fs,⟨h1,_⟩,_⟩:=g3;cases h1
   obtain⟨b,rfl⟩:=e1;obtain⟨n,rfl⟩:=e2;obtain⟨s,rfl⟩:=e3;rfl
theorem Jg{H:Type}{a:AV}{d:DataW H}(h:eo Tryz.prog a 50)(hr:FK a d)(hb:Rows.uptoBulk d<=1048576): ∃xs,a= .ad 51 xs/\ZV xs:=by
 obtain⟨xs,rfl,h1,h2⟩:=mK Tryz.underlying50 h;obtain⟨b1,b2⟩:=Lz hr;have k1:=mL h2;have sh: ∀x,x∈xs->∃l,x= .ad 70 l/\n6 Tryz.prog l 70:=fun x hx=>by
  obtain⟨l,e,_,g⟩:=mK Tryz.underlying51 (k1 x hx);exact⟨l,e,g⟩
 have sr: ∀x,x∈xs->∀r,r∈aa x->∃m,r= .ad 72 m/\n6 Tryz.prog m 72:=fun x hx r hr=>by
  obtain⟨l,rfl,g⟩:=sh x hx;obtain⟨m,e,_,g2⟩:=mK Tryz.underlying70 (mL g r hr);exact⟨m,e,g2⟩
 refine⟨xs,rfl,?_,fun x hx r hr=>?_,fun x hx r hr v hv=>?_⟩
 ·have b1:xs.length<=Rows.uptoBulk d:=b1
  simp only[iP,an3,an2,List.all_eq_true,eE];refine⟨by omega,fun x hx=>?_⟩;obtain⟨e,c1,c2⟩:=b2 x hx;obtain⟨d1,d2⟩:=Lz c1;refine⟨by omega,fun r hr=>?_⟩;obtain⟨e',c3,c4⟩:=d2 r hr;have:=(Lz c3).1
  omega
 ·obtain⟨m,rfl,_⟩:=sr x hx r hr
  rfl
 ·obtain⟨m,rfl,g⟩:=sr x hx r hr
  exact LY (mL g v hv)
set_option maxRecDepth 100000 in
theorem aj1{H:Type}(κ:Kp)(al:List AV)(dl:List (DataW H))(h:oP Tryz.prog Tryz.f4.params.toList al)(hr:FL al dl)(hb:Rows.uptoBulkAll dl<=1048576):bt (Pr κ) 4 al [] fun r _=>r= .bool true:=by
 have h':oP Tryz.prog [25,50,3,3,3] al:=h;match al,h' with
 | [a,b,k0,k1,k2],h'=>
  simp only[oP] at h';obtain⟨ds,rs,rfl,h1,h2,h4⟩:=Jf h'.1;obtain⟨n0,rfl⟩:=r6 h'.2.2.1;obtain⟨n1,rfl⟩:=r6 h'.2.2.2.1;obtain⟨n2,rfl⟩:=r6 h'.2.2.2.2.1;obtain⟨e,c1,c2⟩:=(LB hr).2 b (by simp);obtain⟨xs,rfl,hs⟩:=Jg h'.2.1 c1 (by omega);have h3:(decide (ds.length<=aU)&&ds.all fun d=>decide ((aa (af d 1)).length<=aU))=true:=by
   rw[an3,an2,List.all_eq_true];exact⟨Nat.le_trans h1 zl,fun d hd=>an8 (Nat.le_trans (h2 d hd) zl)⟩
  have hX:= @Yr κ ds rs xs n0 n1 n2 h3 h4 hs (fun r _=>r= .bool true);have hX:=hX rfl;exact cZ (ZL κ).ok (ZL κ).mono hX
def PH:List TypeId:=[9,3,2,4,38,29,45,80,46,48,23,36,35,43,22,25,72,70,51,50]
set_option maxRecDepth 100000 in
theorem Lr:Rn Tryz.prog PH=true:=by kernel_rfl
set_option maxRecDepth 100000 in
theorem Qg(os:Os)(started:os.Started)(H:Type)(enc:TypeId×Value->H)(F:Stop.Interp):
  ReturnsInHanded {} Tryz.checked os 4 .any ((Rows.OpenSpec.upto Rows.queryPartsSpec).preRow enc Tryz.prog Tryz.f4 Rows.queryPartsUptoRow.domain false Rows.queryPartsUptoRow.laid) (((Rows.OpenSpec.upto Rows.queryPartsSpec).at F).post enc Tryz.prog Tryz.f4 false true false false):=by
 refine returnsInHanded_of_row (C:=Tryz.checked) (s:=Rows.OpenSpec.upto Rows.queryPartsSpec) own started (by kernel_rfl) Tryz.func4
  (witness_row_at (enc:=enc) (C:=Tryz.checked) false (zc os) #[.agg #[.slice none 0 0, .slice none 0 0], .slice none 0 0, .int .i64 0, .int .i64 0, .int .i64 0] rfl (by kernel_rfl) (by kernel_rfl) (by kernel_rfl)
   (OpenSpec.preRow_of_cond 8 (x:=([.agg [.nil, .nil], .nil, .lit (.int .i64 0), .lit (.int .i64 0), .lit (.int .i64 0)],[],[])) (by kernel_rfl) (by kernel_rfl) (fun k hk=>by cases hk;kernel_rfl) (by kernel_rfl) (Md os _))) ?_
 intro W base args ds gs before hval hW hcond h2 h3 hL h4 h5;obtain⟨κ,hκ⟩:=AM hL;have hb:Rows.uptoBulkAll ds<=1048576:=by
  have h:Rows.uptoBulkAll (ds++gs)<=1048576:=of_decide_eq_true (h2 _ rfl);rw[Cm] at h;omega
 exact AN zB.lay Me Lr rfl (by kernel_rfl) (by kernel_rfl) rfl hval hW (fun d hd=>by match d,hd with|[_,_,_,_,_],_=>rfl) hκ (fun al h hr=>aj1 κ al ds h hr hb)
theorem xH:Rows.QueryPartsUptoSaid:=
 OpenClaim.holds_of_cond 4 Tryz.f4 rfl rfl rfl rfl rfl rfl rfl ⟨rfl,rfl,rfl,rfl,rfl⟩ rfl rfl rfl rfl rfl (by kernel_rfl) Tryz.func4 (by kernel_rfl)
  (of_decide_eq_true (by kernel_rfl)) (by unfold Func.isWrapper;first|(rw[if_pos (by decide+kernel)];kernel_rfl)|(rw[if_neg (by decide+kernel)];exact⟨rfl,rfl⟩))
  (fun os started H enc _ F=>by rw[OpenClaim.pre_eq_preRow];exact Qg os started H enc F)
theorem queryParts_holds:Rows.QueryPartsUptoCardSaid:=
 Claim7.holds_tied_plain_at .later [] [.sentinel, .sentinel, .sentinel, .sentinel, .sentinel] true (true, "70b998159403ba8378fa9eb9dde34844a1cdfe0836a4d8c218ca1eb549aee9fc") true
  xH (fun _ h=>by cases h) (by kernel_rfl) (fun _ h=>by cases h) queryPartsUpto_row_tie rfl ⟨rfl,rfl⟩ (by kernel_rfl) rfl
  (fun f fn hf hfn=>by
   obtain rfl:f=4:=Option.some.inj ((show Tryz.prog.funcNamed "sorites/soriteslaw11.QueryParts" =some 4 by kernel_rfl).symm.trans hf)|>.symm;obtain rfl:fn=Tryz.f4:=(Option.some.inj (Tryz.func4.symm.trans hfn)).symm;exact⟨by kernel_rfl,fun j t ht=>by
    have hall:((List.range 8).all fun j=>match Tryz.f4.params[j]? with|some t=>!Tryz.prog.wantsStandIn t|none=>true)=true:=by kernel_rfl
    have hsz:Tryz.f4.params.size<=8:=of_decide_eq_true (by kernel_rfl);have hj:j<8:=Nat.lt_of_lt_of_le (Array.getElem?_eq_some_iff.1 ht).1 hsz;have:=List.all_eq_true.1 hall j (List.mem_range.2 hj)
    rw[ht] at this;have hw:Tryz.prog.wantsStandIn t=false:=by simpa using this
    exact hw⟩)
  (by kernel_rfl)
#print axioms queryParts_holds
end Go.Proofs.YtioeffnadipbaaaGreatDoor
