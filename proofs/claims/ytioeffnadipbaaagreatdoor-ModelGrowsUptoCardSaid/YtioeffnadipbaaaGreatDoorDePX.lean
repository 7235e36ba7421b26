import Derived.Test.YtioeffnadipbaaaGreatDoorDeP1
import Derived.Test.YtioeffnadipbaaaGreatDoorDoG
import Derived.Test.YtioeffnadipbaaaGreatDoorRows
import Derived.ProofKit
import Derived.Deep.DeepHandedRow
import Derived.Stop.LaidTwo
import Derived.LaidHandle
namespace Go.Proofs.YtioeffnadipbaaaGreatDoor
open Go Go.Dn Go.Rl Go.Proofs Go.ChangeShapes Go.WideShapes Go.ChangeAt Go.RowKit
theorem own:ownKnob Tryz.prog.godebug=none:=by kernel_rfl
theorem Ni:laidOutB Tryz.prog=true:=by kernel_rfl
abbrev Ng:List (String×DataW Unit):=[("sorites/dtree.errTree",Rows.laid_sorites_dtree_errTree),("sorites/dtype.errNoRel",Rows.laid_sorites_dtype_errNoRel),("sorites/dtype.errArity",Rows.laid_sorites_dtype_errArity),("sorites/dtype.errType",Rows.laid_sorites_dtype_errType),("sorites/dsafe.errStuck",Rows.laid_sorites_dsafe_errStuck)]
theorem Ti:Tryz.prog.globalNamed "sorites/dtree.errTree" =some 1:=by kernel_rfl
theorem Ft:Tryz.prog.globalNamed "sorites/dtype.errNoRel" =some 3:=by kernel_rfl
theorem Fs:Tryz.prog.globalNamed "sorites/dtype.errArity" =some 4:=by kernel_rfl
theorem MN:Tryz.prog.globalNamed "sorites/dtype.errType" =some 2:=by kernel_rfl
theorem MM:Tryz.prog.globalNamed "sorites/dsafe.errStuck" =some 0:=by kernel_rfl
theorem VP:(Tryz.prog.globals[1]?).map (·.type)=some 171:=by kernel_rfl
theorem HJ:(Tryz.prog.globals[3]?).map (·.type)=some 171:=by kernel_rfl
theorem HI:(Tryz.prog.globals[4]?).map (·.type)=some 171:=by kernel_rfl
theorem MO:(Tryz.prog.globals[2]?).map (·.type)=some 171:=by kernel_rfl
theorem Rr:(Tryz.prog.globals[0]?).map (·.type)=some 171:=by kernel_rfl
theorem Aj:Tryz.prog.cellsOf 299=1:=by kernel_rfl
theorem Ak:Tryz.prog.cellsOf 9=1:=by kernel_rfl
theorem Uc: "*" ++ "errors.errorString" = "*errors.errorString" :=by decide
theorem RZ(u:TypeId)(h:Tryz.prog.typeName? 3 u=some "*errors.errorString"):u=273:=
 typeName_ptr_named (nm:= "errors.errorString") (by rw[Uc];kernel_rfl) (by kernel_rfl) (by decide) u (by rw[Uc];exact h)
theorem mI{P:Program}{w:World}{n:String}{g:Nat}{cs:Array Value}(hg:P.globalNamed n=some g)(h:w.var? P n=some cs): ∃T z,w.heap[g]? =some (.cells cs T z):=by
 simp only[World.var?,hg,Option.bind_some] at h;split at h
 ·rename_i cs' T z e
  cases h;exact⟨T,z,e⟩
 ·cases h
theorem oH{W:World}{a:Addr}{s:ByteArray}{g:Nat}{v:Value}{T:TypeId}{z:Nat×Nat}(h:W.cell? a=some (.string s))(hv: ∀t,v≠ .string t)(hg:W.heap[g]? =some (.cells #[v] T z)):a.block≠g:=by
 intro e;unfold World.cell? at h;rw[e,hg] at h;simp only at h;split at h
 ·cases h
 ·obtain⟨h1,h2⟩:=Array.getElem?_eq_some_iff.1 h
  have:a.off=0:=by simp at h1;omega
  simp only[this] at h2;exact hv s h2
theorem AH{W:World}(h:laidMetH Tryz.prog Ng W): ∃κ:Kp,∀b o,y1 κ b=some o->W.heap[b]? =some o:=by
 have h':laidMet Tryz.prog Ng W:=h;obtain⟨aT,aN,sT,sN,cT,cN,tT,tN,vT,vN,kT,xT,_,kN,xN,_,dTN,bT,bN⟩:=laid_sentinels2 h' Ti VP Ft HJ Tryz.underlying171 RZ Tryz.underlying273 Tryz.underlying299 rfl rfl Tryz.underlying9 Aj Ak;obtain⟨aN',aA,sN',sA,cN',cA,tN',tA,vN',vA,kN',_,_,kA,xA,_,dNA,_,bA⟩:=laid_sentinels2 h'.tail Ft HJ Fs HI Tryz.underlying171 RZ Tryz.underlying273 Tryz.underlying299 rfl rfl Tryz.underlying9 Aj Ak;obtain⟨aA',aY,sA',sY,cA',cY,tA',tY,vA',vY,kA',_,_,kY,xY,_,dAY,_,bY⟩:=laid_sentinels2 h'.tail.tail Fs HI MN MO Tryz.underlying171 RZ Tryz.underlying273 Tryz.underlying299 rfl rfl Tryz.underlying9 Aj Ak;obtain⟨aY',aS,sY',sS,cY',cS,tY',tS,vY',vS,kY',_,_,kS,xS,_,dYS,_,bS⟩:=laid_sentinels2 h'.tail.tail.tail MN MO MM Rr Tryz.underlying171 RZ Tryz.underlying273 Tryz.underlying299 rfl rfl Tryz.underlying9 Aj Ak;have eN:aN'=aN:=by
  rw[vN] at vN';simpa using vN'.symm
 have eA:aA'=aA:=by
  rw[vA] at vA';simpa using vA'.symm
 subst eN;subst eA;have dNY:aN'≠aY:=fun e=>by
  subst e;rw[kN] at kY;cases kY;rw[xN] at xY
  revert xY
  decide
 obtain⟨T1,z1,e1⟩:=mI Ti vT;obtain⟨T2,z2,e2⟩:=mI MM vS;obtain⟨T3,z3,e3⟩:=mI Ft vN;obtain⟨T4,z4,e4⟩:=mI Fs vA;obtain⟨T5,z5,e5⟩:=mI MN vY;have nn: ∀{a:Addr} {s:ByteArray},W.cell? a=some (.string s)->∀g,g∈[1,0,3,4,2]->a.block≠g:=fun hk g hg=>by
  simp only[at4,List.not_mem_nil,or_false] at hg;rcases hg with rfl|rfl|rfl|rfl|rfl
  ·exact oH hk (fun _=>by simp) e1
  ·exact oH hk (fun _=>by simp) e2
  ·exact oH hk (fun _=>by simp) e3
  ·exact oH hk (fun _=>by simp) e4
  ·exact oH hk (fun _=>by simp) e5
 refine⟨{tree:=aT,stuck:=aS,T1:=T1,T2:=T2,z1:=z1,z2:=z2,fG:=aN',arity:=aA',type:=aY,T3:=T3,T4:=T4,T5:=T5,z3:=z3,z4:=z4,z5:=z5,c3:=cN,c4:=cA,c5:=cY,t3:=tN,t4:=tA,t5:=tY,d1:=dNA,d2:=dNY,d3:=dAY,n3:=nn kN,n4:=nn kA,n5:=nn kY},fun b o hb=>?_⟩;unfold y1 at hb;cases q0:Nat.beq b 1 with
 |true=>
  rw[q0,as1] at hb;cases hb;rw[Nat.eq_of_beq_eq_true q0];exact e1
 | false =>
  rw[q0,ar9] at hb;cases q1:Nat.beq b 0 with
  |true=>
   rw[q1,as1] at hb;cases hb;rw[Nat.eq_of_beq_eq_true q1];exact e2
  | false=>
   rw[q1,ar9] at hb;cases q2:Nat.beq b 3 with
   |true=>
    rw[q2,as1] at hb;cases hb;rw[Nat.eq_of_beq_eq_true q2];exact e3
   | false=>
    rw[q2,ar9] at hb;cases q3:Nat.beq b 4 with
    |true=>
     rw[q3,as1] at hb;cases hb;rw[Nat.eq_of_beq_eq_true q3];exact e4
    | false=>
     rw[q3,ar9] at hb;cases q4:Nat.beq b 2 with
     |true=>
      rw[q4,as1] at hb;cases hb;rw[Nat.eq_of_beq_eq_true q4];exact e5
     | false=>
      rw[q4,ar9] at hb;cases q5:Nat.beq b aN'.block with
      |true=>
       rw[q5,as1] at hb;cases hb;rw[Nat.eq_of_beq_eq_true q5];exact bN
      | false=>
       rw[q5,ar9] at hb;cases q6:Nat.beq b aA'.block with
       |true=>
        rw[q6,as1] at hb;cases hb;rw[Nat.eq_of_beq_eq_true q6];exact bA
       | false=>
        rw[q6,ar9] at hb;cases q7:Nat.beq b aY.block with
        |true=>
         rw[q7,as1] at hb;cases hb;rw[Nat.eq_of_beq_eq_true q7];exact bY
        |false=>
         rw[q7,ar9] at hb;cases hb
abbrev ag2:ByteArray:={data:= #[110,111,32,116,114,101,101]}
abbrev V3:ByteArray:={data:= #[110,111,32,114,101,108,97,116,105,111,110]}
abbrev Vq:ByteArray:={data:= #[97,110,111,116,104,101,114,32,110,117,109,98,101,114,32,111,102,32,99,111,108,117,109,110,115]}
abbrev ag3:ByteArray:={data:= #[97,110,111,116,104,101,114,32,116,121,112,101]}
abbrev W3:ByteArray:={data:= #[110,111,32,112,97,114,116,32,105,115,32,114,101,97,100,121]}
noncomputable def low:Nat:=(World.holding Tryz.prog default ⟨#[], #[],[]⟩).heap.size
def Oq(n:Nat)(h:Array Go.Obj)(g:Nat):Array Go.Obj:=h.modify g fun
 | .cells _ t frozen=> .cells #[.iface 273 (.pointer (some ⟨n,0,none⟩))] t frozen
 |o=>o
noncomputable def y3(os:Os):World:=
 let w0:=World.holding Tryz.prog os ⟨#[.cells #[.string ag2] 299, .cells #[.string V3] 299, .cells #[.string Vq] 299, .cells #[.string ag3] 299, .cells #[.string W3] 299], #[],[]⟩
 {w0 with heap:=(Oq (low+4) (Oq (low+3) (Oq (low+2) (Oq (low+1) (Oq (low+0) w0.heap 1) 3) 4) 2) 0)}
theorem Nh(os:Os)(args:Array Value):laidMetH Tryz.prog Ng ((y3 os).forCall (fun _ _=>0) ⟨#[],args,[]⟩).memory:=
 laidMetH_of_parts (laidMet_of_run (ps:=[.cell 1 0, .cell (low+0) 0, .cell 3 0, .cell (low+1) 0, .cell 4 0, .cell (low+2) 0, .cell 2 0, .cell (low+3) 0, .cell 0 0, .cell (low+4) 0]) 8 (by kernel_rfl) (by kernel_rfl) (by kernel_rfl)) (by kernel_rfl)
end Go.Proofs.YtioeffnadipbaaaGreatDoor
