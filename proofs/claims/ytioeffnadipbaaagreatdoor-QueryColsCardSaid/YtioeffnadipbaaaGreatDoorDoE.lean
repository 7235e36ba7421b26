import Derived.Test.YtioeffnadipbaaaGreatDoorDoD
namespace Go.Dn
open Go
def D1(P:Program):List Field->Nat->Nat->Bool
 |[],n,t=>Nat.beq n t
 |f::fs,n,t=>Nat.beq f.offset n&&D1 P fs (n+P.cellsOf f.type) t
def H8(P:Program)(T:TypeId):Bool:=
 match P.underlying T with
 |some (.struct fs)=>D1 P fs.toList 0 (P.cellsOf T)
 |some (.array _ _)=>true
 |some _=>Nat.beq (P.cellsOf T) 1
 |none=>true
def qU(p:Nat->Bool):Nat->Bool
 |0=>true
 |n+1=>p n&&qU p n
theorem o8{p:Nat->Bool}: ∀{n:Nat},qU p n=true->∀i,i<n->p i=true
 |0,_,i,hi=>by omega
 | n+1,h,i,hi=>by
  simp only[qU,aa1] at h
  rcases Nat.lt_or_ge i n with h'|h'
  ·exact o8 h.2 i h'
  ·obtain rfl:i=n:=by omega
   exact h.1
theorem um{P:Program}: ∀(l:List Field) (n t:Nat),D1 P l n t=true->zw P l n t
 |[],n,t,h=>Nat.eq_of_beq_eq_true h
 |f::fs,n,t,h=>by
  simp only[D1,aa1] at h
  exact⟨Nat.eq_of_beq_eq_true h.1,um fs _ _ h.2⟩
theorem Cp{P:Program}{T:TypeId}(h:H8 P T=true):rE P T:=by
 unfold H8 at h
 unfold rE
 generalize P.underlying T=d at h
 cases d with
 |none=>trivial
 |some d=>
  cases d<;>first|trivial|exact fun _=>um _ _ _ h|exact Nat.eq_of_beq_eq_true h
theorem Bk{info:TypeId->Option TypeInfo}{d:TypeDesc}{i:TypeInfo}(h:Made.reckon info d=some i):
  (i.desc=d/\i.size=1/\∀n u,d≠ .named n u)\/(∃n e,i.desc= .array n e)\/ ∃fs,i.desc= .struct fs:=by
 cases d<;>simp only[Made.reckon,Option.bind_eq_bind,Option.bind_eq_some_iff,Option.pure_def,reduceCtorEq] at h
 case pointer e=>
  obtain⟨j,_,h⟩:=h
  refine .inl ?_
  split at h
  ·cases h
  ·split at h
   ·cases h
   ·rw[Option.bind_eq_some_iff] at h;obtain⟨_,_,h⟩:=h;cases h;exact⟨rfl,rfl,by simp⟩
  ·rw[Option.bind_eq_some_iff] at h;obtain⟨_,_,h⟩:=h;cases h;exact⟨rfl,rfl,by simp⟩
 case slice e=>obtain⟨_,_,_,_,h⟩:=h;cases h;exact .inl ⟨rfl,rfl,by simp⟩
 case map k e=>obtain⟨_,_,_,_,_,_,_,_,h⟩:=h;cases h;exact .inl ⟨rfl,rfl,by simp⟩
 case chan a e=>obtain⟨_,_,_,_,h⟩:=h;cases h;exact .inl ⟨rfl,rfl,by simp⟩
 case func a b c=>obtain⟨_,_,h⟩:=h;cases h;exact .inl ⟨rfl,rfl,by simp⟩
 case array n e=>obtain⟨_,_,_,_,h⟩:=h;cases h;exact .inr (.inl ⟨_,_,rfl⟩)
 case struct fs=>
  refine .inr (.inr ?_)
  unfold Made.reckonStruct at h
  simp only[Option.bind_eq_bind,Option.pure_def] at h
  rw[Option.bind_eq_some_iff] at h
  grind
theorem JK{P:Program}{T:TypeId}(h:P.types.size<=T):rE P T:=by
 unfold rE
 have hi:P.info? T=(Made.decode (T - P.types.size)).bind (Made.reckon (Made.infoAt P.toTables 99)):=by
  show Tables.info? _ T=_
  unfold Tables.info?
  rw[if_neg (Nat.not_lt.2 h)]
  show Made.infoAt _ (99+1) T=_
  rw[Made.infoAt,if_neg (Nat.not_lt.2 h)]
 have key: ∀i,P.info? T=some i->(i.size=1/\∀n u,i.desc≠ .named n u)\/(∃n e,i.desc= .array n e)\/ ∃fs,i.desc= .struct fs:=by
  intro i hh
  rw[hi,Option.bind_eq_some_iff] at hh
  obtain⟨d,_,hd⟩:=hh
  rcases Bk hd with⟨e1,e2,e3⟩|h|h
  ·exact .inl ⟨e2,by rw[e1];exact e3⟩
  ·exact .inr (.inl h)
  ·exact .inr (.inr h)
 cases hT:P.info? T with
 |none=>simp[Program.underlying,hT]
 | some i=>
  have hc:P.cellsOf T=i.size:=by simp[Program.cellsOf,hT]
  rcases key i hT with⟨e1,e2⟩|⟨n,e,h'⟩|⟨fs,h'⟩
  ·grind
  ·have hu:P.underlying T=some (.array n e):=by
    unfold Program.underlying
    rw[hT]
    obtain⟨desc,_⟩:=i
    simp only at h'
    subst h';rfl
   rw[hu];trivial
  ·have hu:P.underlying T=some (.struct fs):=by
    unfold Program.underlying
    rw[hT]
    obtain⟨desc,_⟩:=i
    simp only at h'
    subst h';rfl
   grind
def OI(P:Program):Bool:=P.funcs.toList.all fun fn=>!(fn.name== "runtime.NumGoroutine")
def NB(P:Program):Bool:=qU (H8 P) P.types.size&&OI P&&P.follows .mixedOrders
theorem Ma{P:Program}(h:NB P=true):pQ P:=by
 simp only[NB,aa1] at h
 obtain⟨⟨h1,h2⟩,h3⟩:=h
 refine⟨fun T=>?_,fun f fn hf=>?_,h3⟩
 ·rcases Nat.lt_or_ge T P.types.size with h|h
  ·exact Cp (o8 h1 T h)
  ·exact JK h
 ·have:=List.all_eq_true.1 h2 fn (by
   rw[List.mem_iff_getElem?]
   exact⟨f,by simpa using hf⟩)
  simpa using this
end Go.Dn
