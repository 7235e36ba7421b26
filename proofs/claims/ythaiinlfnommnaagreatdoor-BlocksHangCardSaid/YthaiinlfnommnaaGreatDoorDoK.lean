import Derived.Test.YthaiinlfnommnaaGreatDoorDoJ
import Derived.Lib.SlicesCompact
import Derived.Sort.Grow
namespace Go.Dn
open Go Go.Sort
def cq(zs:List Int):List AV:=zs.map fun z=> .lit (.int .i64 z)
theorem dW(zs:List Int):(cq zs).length=zs.length:=by simp[cq]
theorem wB{P:Program}{T:TypeId}(hT:P.underlying T=some (.int .i64)): ∀zs:List Int,bI P (cq zs) T
 |[]=>by simp[cq,bI]
 |z::zs=>by
  have:=wB hT zs
  simp only[cq,ac1,bI,bC,hT] at this⊢
  exact⟨⟨z,rfl⟩,this⟩
theorem zq{C:Ctx}: ∀(zs:List Int) (s:Src) (o:Nat),MR C (cq zs) 1 s o↔ ∀j,j<zs.length->s (o+j)=(zs[j]?).map (Value.int .i64)
 |[],s,o=>by simp[cq,MR]
 | z::zs,s,o=>by
  have ih:=zq (C:=C) zs s (o+1)
  simp only[cq,ac1,MR,M,bg,and_true] at ih⊢
  rw[ih]
  constructor
  ·rintro⟨h1,h2⟩ j hj
   cases j with
   |zero=>simpa using h1
   |succ j=>
    have:=h2 j (by simpa using hj)
    rw[show o+(j+1)=o+1+j by omega,this];simp
  ·intro h
   refine⟨by simpa using h 0 (by simp),fun j hj=>?_⟩
   have:=h (j+1) (by simpa using hj)
   rw[show o+1+j=o+(j+1) by omega,this];simp
theorem L0{w:World}{b n:Nat}{cur:Array Value}{e:TypeId}{fr:Nat×Nat}(d:Array Int)(hb:w.heap[b]? =some (.cells cur e fr)):
  (putRow (Value.int .i64) (Sort.ahead w n) b 0 d).heap[b]? =some (.cells (putCells (Value.int .i64) 0 d cur) e fr):=by
 simp[putRow,mapBlock,Sort.ahead,Array.getElem?_modify,hb,onCells]
theorem vw{w:World}{b n x:Nat}(d:Array Int)(hx:x≠b):(putRow (Value.int .i64) (Sort.ahead w n) b 0 d).heap[x]? =w.heap[x]? :=by
 have:b≠x:=fun e=>hx e.symm
 simp[putRow,mapBlock,Sort.ahead,Array.getElem?_modify,this]
theorem size_put{w:World}{b n:Nat}(d:Array Int):(putRow (Value.int .i64) (Sort.ahead w n) b 0 d).heap.size=w.heap.size:=by
 simp[putRow,mapBlock,Sort.ahead]
theorem ER(w:World)(os:Array Go.Obj):gU w (grow w os):=
 ⟨by simp,rfl,rfl,rfl,fun b hb=>by simp[grow,Array.getElem?_append,hb]⟩
theorem Cn{C:Ctx}(hI:Inv C){i:Nat}(hi:i<C.st.length){T:TypeId}{zs:List Int}(hT:C.P.underlying T=some (.int .i64))(hc:C.P.cellsOf T=1)(hrow:aw C.st i= .row T (cq zs)){v:Value}(hv:j6 C i 0 zs.length v):
  (zs=[]/\∃p cap,v= .slice p 0 cap)\/
  ∃ b cap,v= .slice (some ⟨b,0,none⟩) zs.length cap/\Holds (Value.int .i64) C.w b 0 zs.toArray/\b<C.w.heap.size/\zs.length<=cap/\
   ∀(d:List Int) (n:Nat) (os:Array Go.Obj),d.length=zs.length->∃C',C'.w=grow (putRow (Value.int .i64) (Sort.ahead C.w n) b 0 d.toArray) os/\C'.P=C.P/\Inv C'/\Ext C.st.length C C'/\
    C'.st=db C.st i (.row T (cq d))/\∀k,k<=zs.length->Rel C' (.an i 0 k) (.slice (some ⟨b,0,none⟩) k cap):=by
 obtain⟨hlen,hv'⟩:=hv.1 T _ (by rw[hrow];rfl)
 rcases hv' with⟨_,rfl,_,e⟩|⟨hn,cap,q,rfl,hq,hc1,hc2⟩
 ·exact .inl ⟨List.eq_nil_of_length_eq_zero e,none,0,rfl⟩
 have hob:=hI.obj i hi
 rw[hrow] at hob
 obtain⟨g0,⟨g8,_⟩|⟨g2,g1,cur,g3,g4,g5,g6,g7⟩⟩:=hob
 ·rw[hn] at g8;cases g8
 by_cases hz:zs=[]
 ·subst hz
  exact .inl ⟨rfl,_,_,rfl⟩
 have hpos:0<zs.length:=List.length_pos_iff.2 hz
 have hq':q=⟨(C.ι i).block,0,none⟩:=by
  rcases hq with h|⟨_,h⟩
  ·simpa using h
  ·omega
 subst hq'
 rw[hc] at g7 g6
 rw[dW] at g4
 have hat:=(zq zs _ _).1 g7
 refine .inr ⟨(C.ι i).block,cap,rfl,fun j hj=>?_,(Array.getElem?_eq_some_iff.1 g3).1,hc1,fun d n os hd=>?_⟩
 ·have hj':j<zs.length:=by simpa using hj
  refine⟨?_,by simp[World.frozen?,g3]⟩
  have:=hat j hj'
  simp only[cellAt] at this
  rw[this]
  simp[hj']
 ·have hsz:(putRow (Value.int .i64) (Sort.ahead C.w n) (C.ι i).block 0 d.toArray).heap.size=C.w.heap.size:=size_put _
  have hown:cv (C.ι i) (aw C.st i)=true:=by rw[hrow];simp[cv,g2]
  generalize hw1:putRow (Value.int .i64) (Sort.ahead C.w n) (C.ι i).block 0 d.toArray=w1 at*
  have hh:w1.heap[(C.ι i).block]? =some (.cells (putCells (Value.int .i64) 0 d.toArray cur) T (0,0)):=by rw[←hw1];exact L0 _ g3
  have hother: ∀b,b≠(C.ι i).block->w1.heap[b]? =C.w.heap[b]? :=fun b hb=>by rw[←hw1];exact vw _ hb
  have hr:cd C (C.dA i (.row T (cq d)) w1) i i:=mr hi hrow (by simp[dW,hd])
  obtain⟨h1,h2⟩:=gp hI hi hown hsz ⟨by rw[←hw1];rfl,by rw[←hw1];rfl,by rw[←hw1];rfl⟩ hother hr (by
   refine⟨wB hT d, .inr ⟨g2,g1,_,hh,by rw[dW,hd];exact g4,g5,?_,?_⟩⟩
   ·show(C.ι i).cap*C.P.cellsOf T=_
    rw[hc,g6];simp[putCells]
   ·show MR _ _ (C.P.cellsOf T) _ _
    rw[hc]
    refine(zq d _ _).2 fun j hj=>?_
    have hj2:j<cur.size:=by omega
    show w1.cell? _=_
    simp only[World.cell?,hh]
    simp[putCells,hj,hj2])
  obtain⟨h3,h4⟩:=lZ h1 (w:=grow w1 os) (ER w1 os)
  refine⟨{C.dA i (.row T (cq d)) w1 with w:=grow w1 os},rfl,rfl,h3,h2.trans h4 (by simp[Ctx.dA,aU]),rfl,fun k hk=>?_⟩
  have hs:aw (db C.st i (.row T (cq d))) i= .row T (cq d):=bp _ _ _ hi
  refine⟨.inl rfl, .inl (by simp[Value.cells,wid]),?_⟩
  simp only[M]
  refine⟨by simp only[Ctx.dA,aU];exact hi, .slice (some ⟨(C.ι i).block,0,none⟩) k cap,by simp[Value.cells],rfl,fun T' xs hx=>?_,fun T' E ls pd hx=>?_⟩
  ·rw[show aw ({C.dA i (.row T (cq d)) w1 with w:=grow w1 os}:Ctx).st i= .row T (cq d) from hs] at hx
   simp only[hJ,aa4,ab0] at hx
   obtain⟨rfl,rfl⟩:=hx
   refine⟨by rw[dW];omega, .inr ⟨g2,cap,_,rfl, .inl ?_,by omega,hc2⟩⟩
   simp[Ctx.dA]
  ·rw[show aw ({C.dA i (.row T (cq d)) w1 with w:=grow w1 os}:Ctx).st i= .row T (cq d) from hs] at hx
   cases hx
def ow(zs:List Int):List Int:=zs.mergeSort fun x y=>decide (x<=y)
theorem oV(zs:List Int):(ow zs).length=zs.length:=List.length_mergeSort zs
theorem HJ{zs:List Int}{c:Int}:c∈ow zs↔c∈zs:=List.mem_mergeSort
def iJ(zs:List Int):List Int:=Lib.compact zs
theorem Jd{zs:List Int}{c:Int}(h:c∈iJ zs):c∈zs:=by
 simp only[iJ,Lib.compact,Lib.compactUpTo,List.mem_map,List.mem_filter,List.mem_range] at h
 obtain⟨j,⟨hj,_⟩,rfl⟩:=h
 have hj':j<zs.toArray.size:=by simpa using hj
 rw[getElem!_pos zs.toArray j hj']
 simp
theorem r4(zs:List Int):(iJ zs).length<=zs.length:=by
 simp only[iJ,Lib.compact,Lib.compactUpTo,List.length_map]
 exact Nat.le_trans (List.length_filter_le _ _) (by simp)
def n8(zs:List Int):List Int:=iJ zs++List.replicate (zs.length - (iJ zs).length) 0
theorem Ih(zs:List Int):(n8 zs).length=zs.length:=by
 have:=r4 zs
 simp only[n8,ab9,List.length_replicate];omega
theorem Gu{C:Ctx}{i lo n:Nat}{vs:Array Value}(h:MT C [.an i lo n] vs.toList): ∃v,vs= #[v]/\i<C.st.length/\j6 C i lo n v:=by
 match e:vs.toList,h with
 |[],h=>simp[MT] at h
 | [v],h=>
  simp only[MT,M] at h
  obtain⟨h1,_,⟨h3,u,h4,h5,h6⟩,_⟩:=h
  have ha:eE v=false:=by simpa[bV] using h1
  have:u=v:=by
   have hc:v.cells= #[v]:=by cases v<;>simp_all[eE,Value.cells]
   rw[hc] at h4;simpa using h4.symm
  subst this
  exact⟨u,by rw[←e],h3,h6⟩
 |_::_::_,h=>simp[MT] at h
theorem JE{P:Pg}{f:FuncId}{T:TypeId}(hb: ∃fn,P.funcs[f]? =some fn/\fn.body.isSome=true)(hT:P.underlying T=some (.int .i64))(hc:P.cellsOf T=1)
  (h1: ∀(yV off cap:Nat) (zs:List Int) (w:World),Holds (Value.int .i64) w yV off zs.toArray->yV<w.heap.size->zs.length<4611686018427387904->
   Calls P f #[.slice (some ⟨yV,off,none⟩) zs.length cap] w fun e w'=>e= .returned (.tuple #[])/\∃n os,w'=grow (putRow (Value.int .i64) (Sort.ahead w n) yV off (zs.mergeSort fun x y=>decide (x<=y)).toArray) os)
  (h0: ∀(p:Option Addr) (cap:Nat) (w:World),Calls P f #[.slice p 0 cap] w fun e w'=>e= .returned (.tuple #[])/\w'=w):
  ∀args st K,aL (fun zs:List Int=>([AV.an 0 0 zs.length],[Dn.Obj.row T (cq zs)])) (fun zs=>zs.length<4611686018427387904) (fun zs=> .one (.bh [],[.row T (cq (ow zs))])) args st K->cM P f args st K:=by
 rintro args st K ⟨zs,ha,hl,hK⟩
 simp only[ab0] at ha
 obtain⟨rfl,rfl⟩:=ha
 refine⟨hb,fun C vs hP hI hst hm=>?_⟩
 obtain⟨v,rfl,hi,hv⟩:=Gu hm
 have hrow:aw C.st 0= .row T (cq zs):=by rw[hst];rfl
 have hK:K (.bh []) [.row T (cq (ow zs))]:=hK
 rcases Cn hI hi (by rw[hP];exact hT) (by rw[hP];exact hc) hrow hv with⟨rfl,p,cap,rfl⟩|⟨b,cap,rfl,k1,k2,_,k3⟩
 ·refine(callsIn_wide.2 (h0 p cap C.w)).mono ?_
  rintro e w' ⟨rfl,rfl⟩
  exact⟨_, .bh [],C,rfl,rfl,rfl,hI,cu (by simp[MT]),Ext.refl _ (by rw[hst];exact Nat.le_refl _),by rw[hst];simpa[ow,cq] using hK⟩
 ·refine(callsIn_wide.2 (h1 b 0 cap zs C.w k1 k2 hl)).mono ?_
  rintro e w' ⟨rfl,n,os,rfl⟩
  obtain⟨C',c1,c2,c3,c4,c5,_⟩:=k3 (ow zs) n os (oV zs)
  exact⟨_, .bh [],C',rfl,c1,c2,c3,cu (by simp[MT]),by rw[←hst];exact c4,by rw[c5,hst];exact hK⟩
theorem B2{P:Pg}{f:FuncId}{T:TypeId}(hb: ∃fn,P.funcs[f]? =some fn/\fn.body.isSome=true)(hT:P.underlying T=some (.int .i64))(hc:P.cellsOf T=1)
  (h1: ∀(yV off cap:Nat) (zs:List Int) (w:World),Holds (Value.int .i64) w yV off zs.toArray->zs.length<=9223372036854775807->zs.length<=cap->
   Calls P f #[.slice (some ⟨yV,off,none⟩) zs.length cap] w fun e w'=>e= .returned (.slice (some ⟨yV,off,none⟩) (Lib.compact zs).length cap)/\∃q,w'=putRow (Value.int .i64) (Sort.ahead w q) yV off (Lib.compact zs++List.replicate (zs.length - (Lib.compact zs).length) 0).toArray)
  (h0: ∀(p:Option Addr) (cap:Nat) (w:World),Calls P f #[.slice p 0 cap] w fun e w'=>e= .returned (.slice p 0 cap)/\w'=w):
  ∀args st K,aL (fun zs:List Int=>([AV.an 0 0 zs.length],[Dn.Obj.row T (cq zs)])) (fun zs=>zs.length<4611686018427387904) (fun zs=> .one (.an 0 0 (iJ zs).length,[.row T (cq (n8 zs))])) args st K->cM P f args st K:=by
 rintro args st K ⟨zs,ha,hl,hK⟩
 simp only[ab0] at ha
 obtain⟨rfl,rfl⟩:=ha
 refine⟨hb,fun C vs hP hI hst hm=>?_⟩
 have hK:K (.an 0 0 (iJ zs).length) [.row T (cq (n8 zs))]:=hK
 obtain⟨v,rfl,hi,hv⟩:=Gu hm
 have hrow:aw C.st 0= .row T (cq zs):=by rw[hst];rfl
 have hm0:=hm
 rcases Cn hI hi (by rw[hP];exact hT) (by rw[hP];exact hc) hrow hv with⟨rfl,p,cap,rfl⟩|⟨b,cap,rfl,k1,k2,k4,k3⟩
 ·refine(callsIn_wide.2 (h0 p cap C.w)).mono ?_
  rintro e w' ⟨rfl,rfl⟩
  refine⟨_, .an 0 0 0,C,rfl,rfl,rfl,hI,?_,Ext.refl _ (by rw[hst];exact Nat.le_refl _),by rw[hst];simpa[iJ,n8,Lib.compact,Lib.compactUpTo,cq] using hK⟩
  simp only[MT,List.length_nil] at hm0
  exact⟨hm0.1,hm0.2.1,hm0.2.2.1⟩
 ·refine(callsIn_wide.2 (h1 b 0 cap zs C.w k1 (by omega) k4)).mono ?_
  rintro e w' ⟨rfl,n,rfl⟩
  obtain⟨C',c1,c2,c3,c4,c5,c6⟩:=k3 (n8 zs) n #[] (Ih zs)
  rw[grow_empty] at c1
  exact⟨_, .an 0 0 (iJ zs).length,C',rfl,c1,c2,c3,c6 _ (r4 zs),by rw[←hst];exact c4,by rw[c5,hst];exact hK⟩
end Go.Dn
