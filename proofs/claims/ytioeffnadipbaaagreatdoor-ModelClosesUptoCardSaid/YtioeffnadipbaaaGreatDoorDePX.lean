import Derived.Test.YtioeffnadipbaaaGreatDoorDeP1
import Derived.Test.YtioeffnadipbaaaGreatDoorDoG
import Derived.Test.YtioeffnadipbaaaGreatDoorRows
import Derived.ProofKit
import Derived.Deep.DeepHandedRow
import Derived.Stop.LaidTwo
import Derived.LaidHandle
namespace Go.Proofs.YtioeffnadipbaaaGreatDoor
open Go Go.Dn Go.Rl Go.Proofs Go.ChangeShapes Go.WideShapes Go.ChangeAt Go.RowKit
theorem own:ownKnob Tryz.prog.godebug=none:=by kernel_rfl
theorem O5:laidOutB Tryz.prog=true:=by kernel_rfl
abbrev O3:List (String×DataW Unit):=[("sorites/dtree.errTree",Rows.laid_sorites_dtree_errTree),("sorites/dtype.errNoRel",Rows.laid_sorites_dtype_errNoRel),("sorites/dtype.errArity",Rows.laid_sorites_dtype_errArity),("sorites/dtype.errType",Rows.laid_sorites_dtype_errType),("sorites/dsafe.errStuck",Rows.laid_sorites_dsafe_errStuck)]
theorem VD:Tryz.prog.globalNamed "sorites/dtree.errTree" =some 1:=by kernel_rfl
theorem Hc:Tryz.prog.globalNamed "sorites/dtype.errNoRel" =some 3:=by kernel_rfl
theorem Hb:Tryz.prog.globalNamed "sorites/dtype.errArity" =some 4:=by kernel_rfl
theorem OC:Tryz.prog.globalNamed "sorites/dtype.errType" =some 2:=by kernel_rfl
theorem OB:Tryz.prog.globalNamed "sorites/dsafe.errStuck" =some 0:=by kernel_rfl
theorem X4:(Tryz.prog.globals[1]?).map (·.type)=some 171:=by kernel_rfl
theorem Jn:(Tryz.prog.globals[3]?).map (·.type)=some 171:=by kernel_rfl
theorem Jm:(Tryz.prog.globals[4]?).map (·.type)=some 171:=by kernel_rfl
theorem OD:(Tryz.prog.globals[2]?).map (·.type)=some 171:=by kernel_rfl
theorem TC:(Tryz.prog.globals[0]?).map (·.type)=some 171:=by kernel_rfl
theorem BF:Tryz.prog.cellsOf 299=1:=by kernel_rfl
theorem BG:Tryz.prog.cellsOf 9=1:=by kernel_rfl
theorem Wp: "*" ++ "errors.errorString" = "*errors.errorString" :=by decide
theorem Uh(u:TypeId)(h:Tryz.prog.typeName? 3 u=some "*errors.errorString"):u=273:=
 typeName_ptr_named (nm:= "errors.errorString") (by rw[Wp];kernel_rfl) (by kernel_rfl) (by decide) u (by rw[Wp];exact h)
theorem nI{P:Program}{w:World}{n:String}{g:Nat}{cs:Array Value}(hg:P.globalNamed n=some g)(h:w.var? P n=some cs): ∃T z,w.heap[g]? =some (.cells cs T z):=by
 simp only[World.var?,hg,Option.bind_some] at h;split at h
 ·rename_i cs' T z e
  cases h;exact⟨T,z,e⟩
 ·cases h
theorem pE{W:World}{a:Addr}{s:ByteArray}{g:Nat}{v:Value}{T:TypeId}{z:Nat×Nat}(h:W.cell? a=some (.string s))(hv: ∀t,v≠ .string t)(hg:W.heap[g]? =some (.cells #[v] T z)):a.block≠g:=by
 intro e;unfold World.cell? at h;rw[e,hg] at h;simp only at h;split at h
 ·cases h
 ·obtain⟨h1,h2⟩:=Array.getElem?_eq_some_iff.1 h
  have:a.off=0:=by simp at h1;omega
  simp only[this] at h2;exact hv s h2
theorem B9{W:World}(h:laidMetH Tryz.prog O3 W): ∃κ:Kp,∀b o,Aw κ b=some o->W.heap[b]? =some o:=by
 have h':laidMet Tryz.prog O3 W:=h;obtain⟨aT,aN,sT,sN,cT,cN,tT,tN,vT,vN,kT,xT,_,kN,xN,_,dTN,bT,bN⟩:=laid_sentinels2 h' VD X4 Hc Jn Tryz.underlying171 Uh Tryz.underlying273 Tryz.underlying299 rfl rfl Tryz.underlying9 BF BG;obtain⟨aN',aA,sN',sA,cN',cA,tN',tA,vN',vA,kN',_,_,kA,xA,_,dNA,_,bA⟩:=laid_sentinels2 h'.tail Hc Jn Hb Jm Tryz.underlying171 Uh Tryz.underlying273 Tryz.underlying299 rfl rfl Tryz.underlying9 BF BG;obtain⟨aA',aY,sA',sY,cA',cY,tA',tY,vA',vY,kA',_,_,kY,xY,_,dAY,_,bY⟩:=laid_sentinels2 h'.tail.tail Hb Jm OC OD Tryz.underlying171 Uh Tryz.underlying273 Tryz.underlying299 rfl rfl Tryz.underlying9 BF BG;obtain⟨aY',aS,sY',sS,cY',cS,tY',tS,vY',vS,kY',_,_,kS,xS,_,dYS,_,bS⟩:=laid_sentinels2 h'.tail.tail.tail OC OD OB TC Tryz.underlying171 Uh Tryz.underlying273 Tryz.underlying299 rfl rfl Tryz.underlying9 BF BG;have eN:aN'=aN:=by
  rw[vN] at vN';simpa using vN'.symm
 have eA:aA'=aA:=by
  rw[vA] at vA';simpa using vA'.symm
 subst eN;subst eA;have dNY:aN'≠aY:=fun e=>by
  subst e;rw[kN] at kY;cases kY;rw[xN] at xY
  revert xY
  decide
 obtain⟨T1,z1,e1⟩:=nI VD vT;obtain⟨T2,z2,e2⟩:=nI OB vS;obtain⟨T3,z3,e3⟩:=nI Hc vN;obtain⟨T4,z4,e4⟩:=nI Hb vA;obtain⟨T5,z5,e5⟩:=nI OC vY;have nn: ∀{a:Addr} {s:ByteArray},W.cell? a=some (.string s)->∀g,g∈[1,0,3,4,2]->a.block≠g:=fun hk g hg=>by
  simp only[aE5,List.not_mem_nil,or_false] at hg;rcases hg with rfl|rfl|rfl|rfl|rfl
  ·exact pE hk (fun _=>by simp) e1
  ·exact pE hk (fun _=>by simp) e2
  ·exact pE hk (fun _=>by simp) e3
  ·exact pE hk (fun _=>by simp) e4
  ·exact pE hk (fun _=>by simp) e5
 refine⟨{tree:=aT,stuck:=aS,T1:=T1,T2:=T2,z1:=z1,z2:=z2,gh:=aN',arity:=aA',type:=aY,T3:=T3,T4:=T4,T5:=T5,z3:=z3,z4:=z4,z5:=z5,c3:=cN,c4:=cA,c5:=cY,t3:=tN,t4:=tA,t5:=tY,d1:=dNA,d2:=dNY,d3:=dAY,n3:=nn kN,n4:=nn kA,n5:=nn kY},fun b o hb=>?_⟩;unfold Aw at hb;cases q0:Nat.beq b 1 with
 |true=>
  rw[q0,aD2] at hb;cases hb;rw[Nat.eq_of_beq_eq_true q0];exact e1
 | false =>
  rw[q0,aD0] at hb;cases q1:Nat.beq b 0 with
  |true=>
   rw[q1,aD2] at hb;cases hb;rw[Nat.eq_of_beq_eq_true q1];exact e2
  | false=>
   rw[q1,aD0] at hb;cases q2:Nat.beq b 3 with
   |true=>
    rw[q2,aD2] at hb;cases hb;rw[Nat.eq_of_beq_eq_true q2];exact e3
   | false=>
    rw[q2,aD0] at hb;cases q3:Nat.beq b 4 with
    |true=>
     rw[q3,aD2] at hb;cases hb;rw[Nat.eq_of_beq_eq_true q3];exact e4
    | false=>
     rw[q3,aD0] at hb;cases q4:Nat.beq b 2 with
     |true=>
      rw[q4,aD2] at hb;cases hb;rw[Nat.eq_of_beq_eq_true q4];exact e5
     | false=>
      rw[q4,aD0] at hb;cases q5:Nat.beq b aN'.block with
      |true=>
       rw[q5,aD2] at hb;cases hb;rw[Nat.eq_of_beq_eq_true q5];exact bN
      | false=>
       rw[q5,aD0] at hb;cases q6:Nat.beq b aA'.block with
       |true=>
        rw[q6,aD2] at hb;cases hb;rw[Nat.eq_of_beq_eq_true q6];exact bA
       | false=>
        rw[q6,aD0] at hb;cases q7:Nat.beq b aY.block with
        |true=>
         rw[q7,aD2] at hb;cases hb;rw[Nat.eq_of_beq_eq_true q7];exact bY
        |false=>
         rw[q7,aD0] at hb;cases hb
abbrev ar1:ByteArray:={data:= #[110,111,32,116,114,101,101]}
abbrev Yh:ByteArray:={data:= #[110,111,32,114,101,108,97,116,105,111,110]}
abbrev XC:ByteArray:={data:= #[97,110,111,116,104,101,114,32,110,117,109,98,101,114,32,111,102,32,99,111,108,117,109,110,115]}
abbrev ar2:ByteArray:={data:= #[97,110,111,116,104,101,114,32,116,121,112,101]}
abbrev Zf:ByteArray:={data:= #[110,111,32,112,97,114,116,32,105,115,32,114,101,97,100,121]}
noncomputable def low:Nat:=(World.holding Tryz.prog default ⟨#[], #[],[]⟩).heap.size
def Qi(n:Nat)(h:Array Go.Obj)(g:Nat):Array Go.Obj:=h.modify g fun
 | .cells _ t frozen=> .cells #[.iface 273 (.pointer (some ⟨n,0,none⟩))] t frozen
 |o=>o
noncomputable def Ay(os:Os):World:=
 let w0:=World.holding Tryz.prog os ⟨#[.cells #[.string ar1] 299, .cells #[.string Yh] 299, .cells #[.string XC] 299, .cells #[.string ar2] 299, .cells #[.string Zf] 299], #[],[]⟩
 {w0 with heap:=(Qi (low+4) (Qi (low+3) (Qi (low+2) (Qi (low+1) (Qi (low+0) w0.heap 1) 3) 4) 2) 0)}
theorem O4(os:Os)(args:Array Value):laidMetH Tryz.prog O3 ((Ay os).forCall (fun _ _=>0) ⟨#[],args,[]⟩).memory:=
 laidMetH_of_parts (laidMet_of_run (ps:=[.cell 1 0, .cell (low+0) 0, .cell 3 0, .cell (low+1) 0, .cell 4 0, .cell (low+2) 0, .cell 2 0, .cell (low+3) 0, .cell 0 0, .cell (low+4) 0]) 8 (by kernel_rfl) (by kernel_rfl) (by kernel_rfl)) (by kernel_rfl)
end Go.Proofs.YtioeffnadipbaaaGreatDoor
