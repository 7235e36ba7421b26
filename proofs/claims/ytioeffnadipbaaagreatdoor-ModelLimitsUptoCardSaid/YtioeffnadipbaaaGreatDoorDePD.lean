import Derived.Test.YtioeffnadipbaaaGreatDoorDePC
namespace Go.Proofs.YtioeffnadipbaaaGreatDoor
open Go Go.Dn Go.Rl Go.Proofs Go.Shelf
attribute [local irreducible] a7 vc
set_option maxRecDepth 20000
def EF:Go.Shelf.Ren:=⟨fun|5=>177|7=>165|n=>n,fun|23=>162|25=>9|3=>72|4=>4|20=>20|n=>n,fun n=>n⟩
theorem V5:SlLaysW.n5 Tryz.prog EF:={mixed:=by rfl,f5:=⟨ "maps.Clone[sorites/model.env,string,sorites/api.Val]",by rfl,Tryz.func177.trans (congrArg _ (by rfl))⟩,f7:=Tryz.func165.trans (congrArg _ (by rfl)),t4:=Tryz.underlying4,a4:=Tryz.isAgg4,z4:=Tryz.sizeOf4,v4:=Tryz.zeroValue4,t20:=Tryz.underlying20,a20:=Tryz.isAgg20,z20:=Tryz.sizeOf20,v20:=Tryz.zeroValue20,t23:=Tryz.underlying162,a23:=Tryz.isAgg162,z23:=Tryz.sizeOf162,v23:=Tryz.zeroValue162}
theorem VI κ: ∀args st K,rZ (Pr κ).toProgram args st K->b6 (Pr κ) 177 args st K:=fun _ _ _ h=>KK   rfl ⟨_,Tryz.func177,rfl⟩ V5 h
noncomputable def UP κ:=(ak7 κ).Xa EG (VI _)
theorem am6 κ ks vs s v K:(a7 (UP κ).E 12 145 [.eP 9 72 ks vs, .lit (.string s),eZ v] [] K)=(
 K (AV.eP 9 72 (List.map (fun(x:Value×AV)=>x.1) (eC (List.zip ks vs) (Value.string s) (AV.agg [AV.bool v.y,AV.int v.n,AV.str v.s]))) (List.map (fun(x
 :Value×AV)=>x.2) (eC (List.zip ks vs) (Value.string s) (AV.agg [AV.bool v.y,AV.int v.n,AV.str v.s])))) []):=by kernel_rfl
theorem ae6 κ:bg (UP κ).E 12 145 (aO qP (fun _=>True) ac3):=by
 refine aQ ?_;rintro⟨e,s,v⟩ K _ ho;refine Eq.mpr (am6 _ _ _ s v K) ?_;rw[MI,O7,List.map_map,List.map_map];exact ho
noncomputable def QL κ:=((UP κ).call (ae6 _)).calm [145,140,144]
noncomputable def Og κ r:=(QL κ).E.aw 140 fun args st K=>∃m,m<r/\Ur m args st K
theorem am9 κ r ks vs t K:(a7 (Og κ r) 12 140 [.eP 9 72 ks vs,dn t] [] K)=(
 letI a:=IntKind.wrap IntKind.i64
 letI b:=AV.int
 letI c:=AV.agg
 letI d:=AV.bool
 letI e:=AV.str
 letI f:=AV.lit
 letI k:=cV (List.zip ks vs) (Value.string t.s) (c [d false,b 0,e {data:= #[]}])
 letI l:=true&&decide ((1:Int)<(↑(t.l.length):Int))
 letI m:=toInt (af (nth t.l 0) 0)
 letI n:=toStr (af (nth t.l 0) 1)
 letI o:=toInt (af (nth t.l 0) 2)
 letI p:=toInt (af (nth t.l 1) 0)
 letI q:=toStr (af (nth t.l 1) 1)
 letI s:=toInt (af (nth t.l 1) 2)
 aq (t.op==(1:Int)) (K (c [f (Value.bool (Dn.toBool (af k 0))),f (Value.int IntKind.i64 (toInt (af k 1))),f (Value.string (toStr (af (cV (List.zip ks vs) (Value.string t.s) (c [d false,b 0,e {data:= #[]}])) 2)))]) []) (aq (t.op==(2:Int)) (K (c [d false,b t.n,e {data:= #[]}]) []) (aq (t.op==(3:Int)) (K (c [d true,b 0,e t.s]) []) (aW (true&&decide ((0:Int)<(↑(t.l.length):Int))) ((∃(e3:Nat),e3<r/\∃(e2:gD),letI j:=bK e2.e (AT.tm e2.t);([AV.eP 9 72 ks vs,c [b m,e n,b o,AV.ah 38 (ag (af (nth t.l 0) 3))]],[])=dR e2/\q9 e3 e2/\aW l (∃(e1:Nat),e1<r/\∃(e0:gD),letI g:=bK e0.e (AT.tm e0.t);([AV.eP 9 72 ks vs,c [b p,e q,b s,AV.ah 38 (ag (af (nth t.l 1) 3))]],[])=dR e0/\q9 e1 e0/\aq (t.op==(5:Int)) (K (c [d false,f (Value.int IntKind.i64 (a (eI.n j+eI.n g))),e {data:= #[]}]) []) (aq (t.op==(6:Int)) (K (c [d false,f (Value.int IntKind.i64 (a (eI.n j - eI.n g))),e {data:= #[]}]) []) (K (c [d false,f (Value.int IntKind.i64 (a (eI.n j*eI.n g))),e {data:= #[]}]) []))))/\aW l (∃(e3:Nat),e3<r/\∃(e2:gD),letI h:=bK e2.e (AT.tm e2.t);([AV.eP 9 72 ks vs,c [b m,e n,b o,AV.ah 38 (ag (af (nth t.l 0) 3))]],[])=dR e2/\q9 e3 e2/\∃(e1:Nat),e1<r/\∃(e0:gD),letI i:=bK e0.e (AT.tm e0.t);([AV.eP 9 72 ks vs,c [b p,e q,b s,AV.ah 38 (ag (af (nth t.l 1) 3))]],[])=dR e0/\q9 e1 e0/\aq (t.op==(5:Int)) (K (c [d false,f (Value.int IntKind.i64 (a (eI.n h+eI.n i))),e {data:= #[]}]) []) (aq (t.op==(6:Int)) (K (c [d false,f (Value.int IntKind.i64 (a (eI.n h - eI.n i))),e {data:= #[]}]) []) (K (c [d false,f (Value.int IntKind.i64 (a (eI.n h*eI.n i))),e {data:= #[]}]) [])))))))):=by kernel_rfl
theorem ae5 κ r(hp: ∀args st K,(∃m,m<r/\Ur m args st K)->b6 (Pr κ) 140 args st K):aE (Og κ r)/\aj (Og κ r)/\(Og κ r).P=Pr κ:=
 ⟨(QL _).ok.fV hp,(QL _).mono.aw fun _ _ _ _ hK ⟨m,h1,h2⟩=>⟨m,h1,aH _ _ _ _ hK h2⟩,rfl⟩
theorem ak8 κ r:bg (Og κ r) 12 140 (Ur r):=by
 refine aQ ?_;rintro⟨e,t⟩ K ⟨h1,h2⟩ ho;simp only at h1 h2
 replace ho:K (eZ (bK e t.tm)) []:=ho
 refine Eq.mpr (am9 κ r _ _ t K) ?_;rw[MI,show(AV.agg [.bool false, .int 0, .lit (.string (ByteArray.mk #[]))])=eZ ⟨false,0,ByteArray.mk #[]⟩ from rfl,NM];have e1:bK e t.tm=bif t.op==1 then e.get t.s else bif t.op==2 then⟨false,t.n,ByteArray.mk #[]⟩ else bif t.op==3 then⟨true,0,t.s⟩ else bK e t.tm:=by
  cases q1:t.op==1 with
  |true=>rw[AT.tm,bK,q1];rfl
  | false=>cases q2:t.op==2 with
   |true=>rw[AT.tm,bK,q1,q2];rfl
   |false=>cases q3:t.op==3 with
    |true=>rw[AT.tm,bK,q1,q2,q3];rfl
    |false=>rfl
 refine ae.2 ⟨fun q1=>?_,fun q1=>ae.2 ⟨fun q2=>?_,fun q2=>ae.2 ⟨fun q3=>?_,fun q3=>?_⟩⟩⟩
 ·rw[e1,q1] at ho;exact ho
 ·rw[e1,q1,q2] at ho;exact ho
 ·rw[e1,q1,q2,q3] at ho;exact ho
 ·obtain⟨a,b,hl,ha,hb⟩:=M8 q1 q2 q3 h2
  obtain⟨op,s,n,l⟩:=t;simp only at hl q1 q2 q3;subst hl;rw[MH e op s n a b q1 q2 q3] at ho;have hc:(AT.mk op s n [a,b]).tm.mS=1+((cE a).mS+((cE b).mS+0)):=by
   simp only[AT.tm,aa,ao9,List.map_nil,Tm.mS,bj]
  rw[hc] at h1;have la: ∀m,(cE a).mS=m->q9 m ⟨e,eE a⟩:=fun m hm=>⟨by rw[←hm];simp only[iI],by simp only[iI];exact ha⟩
  have lb: ∀m,(cE b).mS=m->q9 m ⟨e,eE b⟩:=fun m hm=>⟨by rw[←hm];simp only[iI],by simp only[iI];exact hb⟩
  have c0:(true&&decide (0<(([a,b]:List AV).length:Int)))=true:=by simp
  have c1:(true&&decide (1<(([a,b]:List AV).length:Int)))=true:=by simp
  have fin:aq (op==5) (K (eZ ⟨false,IntKind.wrap .i64 ((bK e (eE a).tm).n+(bK e (eE b).tm).n),ByteArray.mk #[]⟩) []) (aq (op==6) (K (eZ ⟨false,IntKind.wrap .i64 ((bK e (eE a).tm).n - (bK e (eE b).tm).n),ByteArray.mk #[]⟩) []) (K (eZ ⟨false,IntKind.wrap .i64 ((bK e (eE a).tm).n*(bK e (eE b).tm).n),ByteArray.mk #[]⟩) [])):=
   ae.2 ⟨fun q5=>by rw[q5] at ho;exact ho,fun q5=>ae.2 ⟨fun q6=>by rw[q5,q6] at ho;exact ho,fun q6=>by rw[q5,q6] at ho;exact ho⟩⟩
  exact ai.2 ⟨c0,⟨(cE a).mS,by omega,⟨e,eE a⟩,rfl,la _ rfl,ai.2 ⟨c1,(cE b).mS,by omega,⟨e,eE b⟩,rfl,lb _ rfl,fin⟩⟩,ai.2 ⟨c1,(cE a).mS,by omega,⟨e,eE a⟩,rfl,la _ rfl,(cE b).mS,by omega,⟨e,eE b⟩,rfl,lb _ rfl,fin⟩⟩
theorem am1 κ: ∀args st K,aO dR (fun x=>bL x.t.tm=true) SW args st K->b6 (Pr κ) 140 args st K:=by
 rintro args st K ⟨x,h1,h2,h3⟩;exact aE.pJ _ _ (ae5 _) (ak8 _) _ _ _ K ⟨x,h1,⟨rfl,h2⟩,h3⟩
noncomputable def WI κ:=(QL κ).Xa aH (am1 _)
theorem yFr κ ks vs t K:(a7 (WI κ).E 12 144 [.eP 9 72 ks vs,dn t] [] K)=(
 aq (t.op==(1:Int)) (K (AV.lit (Value.bool !pF (List.zip ks vs) (Value.string t.s))) []) (K (AV.bool false) [])):=by kernel_rfl
def dF.has:dF->ByteArray->Bool
 |[],_=>false
 |(t,_)::e,s=>bif decide (s=t) then true else dF.has e s
theorem Ng s: ∀e,pF (Z9 e) (.string s)=e.has s
 |[]=>rfl
 |(t,w)::e=>by
  have ih:=Ng s e
  grind [pF,U4,dF.has]
def eO(e:dF)(t:AT):=t.op==1&& !e.has t.s
def rf(x:gD):List AV×List Dn.Obj:=([cK x.e,dn x.t],[])
def Yt(x:gD):Out (AV×List Dn.Obj):= .one (.bool (eO x.e x.t),[])
theorem cFr κ:bg (WI κ).E 12 144 (aO rf (fun _=>True) Yt):=by
 refine aQ ?_;rintro⟨e,t⟩ K _ ho
 replace ho:K _ []:=ho
 refine Eq.mpr (yFr _ _ _ t K) ?_
 grind [Ng,eO,ae]
noncomputable def BFr κ:=(WI κ).call (cFr _)
theorem yHm κ op x y K:(a7 (BFr κ).E 12 146 [.int op,eZ x,eZ y] [] K)=(
 letI a:=AV.int
 letI b:=AV.agg
 letI c:=AV.bool
 letI d:=AV.str
 aq (op==(3:Int)) (K (c (bC [b [c x.y,a x.n,d x.s]] [b [c y.y,a y.n,d y.s]]==(0:Int))) []) (aq (op==
 (4:Int)) (K (c (bC [b [c x.y,a x.n,d x.s]] [b [c y.y,a y.n,d y.s]] != (0:Int))) []) (aq (op==(5:
 Int)) (K (c (decide (bC [b [c x.y,a x.n,d x.s]] [b [c y.y,a y.n,d y.s]]<(0:Int)))) []) (K (c
 (decide (bC [b [c x.y,a x.n,d x.s]] [b [c y.y,a y.n,d y.s]]<=(0:Int)))) [])))):=by kernel_rfl
def ic(op:Int) x y:=bif op==3 then bC [eZ x] [eZ y]==0 else bif op==4 then bC [eZ x] [eZ y] != 0 else bif op==5 then decide (bC [eZ x] [eZ y]<0) else decide (bC [eZ x] [eZ y]<=0)
structure Ci where
 op:Int
 x:eI
 y:eI
def oH(a:Ci):List AV×List Dn.Obj:=([.int a.op,eZ a.x,eZ a.y],[])
def Zx(a:Ci):Out (AV×List Dn.Obj):= .one (.bool (ic a.op a.x a.y),[])
theorem cHm κ:bg (BFr κ).E 12 146 (aO oH (fun _=>True) Zx):=by
 refine aQ ?_;rintro⟨op,x,y⟩ K _ ho
 replace ho:K _ _:=ho
 refine Eq.mpr (yHm _ _ x y K) ?_
 grind [ic,ae]
noncomputable def Ud κ:=((BFr κ).call (cHm _)).calm [146]
end Go.Proofs.YtioeffnadipbaaaGreatDoor
namespace Go.Proofs.YtioeffnadipbaaaGreatDoor
open Go Go.Dn Go.Rl Go.Proofs
attribute [local irreducible] a7 vc
set_option maxRecDepth 20000
abbrev Lh(rel:ByteArray)(l rows:List AV)(e:dF):List Dn.Obj:=[.box 51 (.ah 70 rows), .box 162 (cK e), .box 45 (.agg [.lit (.string rel), .ah 38 l])]
structure Yu where
 rel:ByteArray
 l:List AV
 rows:List AV
 xs:List AV
 e:dF
 i:Nat
 row:List AV
 g:dF
 j:Nat
abbrev GP(x:Yu):=sp 56 [(0, .cf 0),(2, .ptr 2 0 [] 0),(3, .ptr 3 0 [] 0),(6, .ah 72 x.row),(7,cK x.g),(10, .ah 70 x.rows),(11, .int x.rows.length),(12, .int x.i),(18, .ah 38 x.l),(19, .int x.l.length),(20, .int x.j)] (.ext (some x.xs)::Lh x.rel x.l x.rows x.e)
theorem xMi(κ:Kp)(x:Yu) I(N:Nat) K:(vc (Ud κ).E 12 176 none 4 (ad (Pr κ).toProgram 176 5) (GP x) (bh (Ud κ).E 176 5 4 I N K))=(
 letI a:=AV.int
 letI b:=AV.ptr
 letI c:=AV.agg
 letI d:=AV.bool
 letI e:=AV.str
 letI f:=Obj.box
 letI g:=Obj.ext
 letI h:=AV.ah
 letI i:=AV.cf
 letI j:=AV.eP
 letI B:=Int.toNat (↑(x.j):Int)
 letI l:=c [e x.rel,h 38 x.l]
 letI z:=IntKind.wrap IntKind.i64 ((↑(x.j):Int)+(1:Int))
 letI A:=true&&decide ((↑(x.j):Int)<(↑(x.row.length):Int))
 letI v:=nth x.l B
 letI m:=nth x.row B
 letI n:=h 70 x.rows
 letI o:=x.rows.length
 letI w:=x.l.length
 letI k:=toStr (af v 1)
 letI y:=(↑(x.j):Int)<(↑w:Int)
 letI p:=toInt (af v 0)
 letI q:=toInt (af v 2)
 letI r:=toStr (af m 2)
 letI s:=ag (af v 3)
 aq (decide y) (aW (true&&decide y) (aq (toInt (af v 0)==(4:Int)) (∃(e1:Nat),e1<N/\I e1 (sp 56 [(0,i 0),(2,b 2 0 [] 0),(3,b 3 0 [] 0),(6,h 72 x.row),(7,j 9 72 (List.map (fun(e0:ByteArray×eI)=>Value.string e0.1) x.g) (List.map (fun(e0:ByteArray×eI)=>c [d e0.2.y,a e0.2.n,e e0.2.s]) x.g)),(10,h 70 x.rows),(11,a (↑o:Int)),(12,a (↑(x.i):Int)),(18,h 38 x.l),(19,a (↑w:Int)),(20,a z)] [g (some x.xs),f 51 n,f 162 (j 9 72 (List.map (fun(e0:ByteArray×eI)=>Value.string e0.1) x.e) (List.map (fun(e0:ByteArray×eI)=>c [d e0.2.y,a e0.2.n,e e0.2.s]) x.e)),f 45 l])) (∃(e3:gD),([j 9 72 (List.map (fun(e0:ByteArray×eI)=>Value.string e0.1) x.g) (List.map (fun(e0:ByteArray×eI)=>c [d e0.2.y,a e0.2.n,e e0.2.s]) x.g),c [a p,e k,a q,h 38 s]],[])=rf e3/\True/\aq (eO e3.e e3.t) (aW A (∃(e2:Ew),([j 9 72 (List.map (fun(e0:ByteArray×eI)=>Value.string e0.1) x.g) (List.map (fun(e0:ByteArray×eI)=>c [d e0.2.y,a e0.2.n,e e0.2.s]) x.g),e k,c [d (Dn.toBool (af m 0)),a (toInt (af m 1)),e r]],[])=qP e2/\True/\∃(e1:Nat),e1<N/\I e1 (sp 56 [(0,i 0),(2,b 2 0 [] 0),(3,b 3 0 [] 0),(6,h 72 x.row),(7,j 9 72 (List.map (fun(e0:ByteArray×eI)=>Value.string e0.1) (dF.put e2.e e2.s e2.v)) (List.map (fun(e0:ByteArray×eI)=>c [d e0.2.y,a e0.2.n,e e0.2.s]) (dF.put e2.e e2.s e2.v))),(10,h 70 x.rows),(11,a (↑o:Int)),(12,a (↑(x.i):Int)),(18,h 38 x.l),(19,a (↑w:Int)),(20,a z)] [g (some x.xs),f 51 n,f 162 (j 9 72 (List.map (fun(e0:ByteArray×eI)=>Value.string e0.1) x.e) (List.map (fun(e0:ByteArray×eI)=>c [d e0.2.y,a e0.2.n,e e0.2.s]) x.e)),f 45 l]))) ((∃(e2:gD),letI t:=bK e2.e (AT.tm e2.t);([j 9 72 (List.map (fun(e0:ByteArray×eI)=>Value.string e0.1) x.g) (List.map (fun(e0:ByteArray×eI)=>c [d e0.2.y,a e0.2.n,e e0.2.s]) x.g),c [a p,e k,a q,h 38 s]],[])=dR e2/\bL (AT.tm e2.t)=true/\aW A (aq (!(eI.y t==Dn.toBool (af m 0)&&(eI.n t==toInt (af m 1)&&(ByteArray.toList (eI.s t)==ByteArray.toList r&&true)))) (K (Exit.exit 1) (sp 56 [(0,i 0),(2,b 2 0 [] 0),(3,b 3 0 [] 0),(10,h 70 x.rows),(11,a (↑o:Int)),(12,a (↑(x.i):Int))] [g (some x.xs),f 51 n,f 162 (j 9 72 (List.map (fun(e0:ByteArray×eI)=>Value.string e0.1) x.e) (List.map (fun(e0:ByteArray×eI)=>c [d e0.2.y,a e0.2.n,e e0.2.s]) x.e)),f 45 l])) (∃(e1:Nat),e1<N/\I e1 (sp 56 [(0,i 0),(2,b 2 0 [] 0),(3,b 3 0 [] 0),(6,h 72 x.row),(7,j 9 72 (List.map (fun(e0:ByteArray×eI)=>Value.string e0.1) x.g) (List.map (fun(e0:ByteArray×eI)=>c [d e0.2.y,a e0.2.n,e e0.2.s]) x.g)),(10,h 70 x.rows),(11,a (↑o:Int)),(12,a (↑(x.i):Int)),(18,h 38 x.l),(19,a (↑w:Int)),(20,a z)] [g (some x.xs),f 51 n,f 162 (j 9 72 (List.map (fun(e0:ByteArray×eI)=>Value.string e0.1) x.e) (List.map (fun(e0:ByteArray×eI)=>c [d e0.2.y,a e0.2.n,e e0.2.s]) x.e)),f 45 l]))))/\aW A (∃(e2:gD),letI u:=bK e2.e (AT.tm e2.t);([j 9 72 (List.map (fun(e0:ByteArray×eI)=>Value.string e0.1) x.g) (List.map (fun(e0:ByteArray×eI)=>c [d e0.2.y,a e0.2.n,e e0.2.s]) x.g),c [a p,e k,a q,h 38 s]],[])=dR e2/\bL (AT.tm e2.t)=true/\aq (!(eI.y u==Dn.toBool (af m 0)&&(eI.n u==toInt (af m 1)&&(ByteArray.toList (eI.s u)==ByteArray.toList r&&true)))) (K (Exit.exit 1) (sp 56 [(0,i 0),(2,b 2 0 [] 0),(3,b 3 0 [] 0),(10,h 70 x.rows),(11,a (↑o:Int)),(12,a (↑(x.i):Int))] [g (some x.xs),f 51 n,f 162 (j 9 72 (List.map (fun(e0:ByteArray×eI)=>Value.string e0.1) x.e) (List.map (fun(e0:ByteArray×eI)=>c [d e0.2.y,a e0.2.n,e e0.2.s]) x.e)),f 45 l])) (∃(e1:Nat),e1<N/\I e1 (sp 56 [(0,i 0),(2,b 2 0 [] 0),(3,b 3 0 [] 0),(6,h 72 x.row),(7,j 9 72 (List.map (fun(e0:ByteArray×eI)=>Value.string e0.1) x.g) (List.map (fun(e0:ByteArray×eI)=>c [d e0.2.y,a e0.2.n,e e0.2.s]) x.g)),(10,h 70 x.rows),(11,a (↑o:Int)),(12,a (↑(x.i):Int)),(18,h 38 x.l),(19,a (↑w:Int)),(20,a z)] [g (some x.xs),f 51 n,f 162 (j 9 72 (List.map (fun(e0:ByteArray×eI)=>Value.string e0.1) x.e) (List.map (fun(e0:ByteArray×eI)=>c [d e0.2.y,a e0.2.n,e e0.2.s]) x.e)),f 45 l]))))))) (K (Exit.exit 2) (sp 56 [(0,i 0),(2,b 2 0 [] 0),(3,b 3 0 [] 0),(7,j 9 72 (List.map (fun(e0:ByteArray×eI)=>Value.string e0.1) x.g) (List.map (fun(e0:ByteArray×eI)=>c [d e0.2.y,a e0.2.n,e e0.2.s]) x.g)),(10,h 70 x.rows),(11,a (↑o:Int)),(12,a (↑(x.i):Int))] [g (some x.xs),f 51 n,f 162 (j 9 72 (List.map (fun(e0:ByteArray×eI)=>Value.string e0.1) x.e) (List.map (fun(e0:ByteArray×eI)=>c [d e0.2.y,a e0.2.n,e e0.2.s]) x.e)),f 45 l]))):=by kernel_rfl
def FY(a:eI) v:=a.y==toBool (af v 0)&&(a.n==toInt (af v 1)&&(a.s.toList==(toStr (af v 2)).toList&&true))
def n9(row:List AV):List AV->Nat->dF->Option dF
 |[],_,g=>some g
 |t::ts,j,g=>bif toInt (af t 0)==4 then n9 row ts (j+1) g
  else bif eO g (eE t) then n9 row ts (j+1) (g.put (eE t).s ⟨toBool (af (nth row j) 0),toInt (af (nth row j) 1),toStr (af (nth row j) 2)⟩)
  else bif !FY (bK g (eE t).tm) (nth row j) then none else n9 row ts (j+1) g
def gi(l:List _):=∀t,t∈l->toInt (af t 0)≠4->bL (eE t).tm=true
def Ap(x:Yu):=x.j<=x.l.length/\x.l.length<=100000/\x.row.length=x.l.length/\gi x.l
def r9(x:Yu):Out (Exit×S):= .aq (n9 x.row (x.l.drop x.j) x.j x.g).isSome
 (.one (.exit 2,sp 56 [(0, .cf 0),(2, .ptr 2 0 [] 0),(3, .ptr 3 0 [] 0),(7,cK ((n9 x.row (x.l.drop x.j) x.j x.g).getD [])),(10, .ah 70 x.rows),(11, .int x.rows.length),(12, .int x.i)] (.ext (some x.xs)::Lh x.rel x.l x.rows x.e)))
 (.one (.exit 1,sp 56 [(0, .cf 0),(2, .ptr 2 0 [] 0),(3, .ptr 3 0 [] 0),(10, .ah 70 x.rows),(11, .int x.rows.length),(12, .int x.i)] (.ext (some x.xs)::Lh x.rel x.l x.rows x.e)))
theorem lMi κ:aR (Ud κ).E 12 176 5 (aG 4 GP Ap r9):=by
 refine aD (fun x=>x.l.length - x.j) ?_;rintro⟨rel,l,rows,xs,e,i,row,g,j⟩ K ⟨h1,h2,h3,h4⟩ ho;simp only at h1 h2 h3 h4;rw[show(Ud κ).E.P=Pr κ from rfl];refine Eq.mpr (xMi κ ⟨rel,l,rows,xs,e,i,row,g,j⟩ _ _ K) ?_;simp only[Int.toNat_natCast];rw[ae,an2,an4];refine⟨fun h=>?_,fun h=>?_⟩
 ·have hj:j<l.length:=by omega
  have hd:l.drop j=nth l j::l.drop (j+1):=by rw[ao3 hj,←aX l j hj]
  have hm:nth l j∈l:=by rw[aX l j hj];exact List.getElem_mem _
  have hc:(true&&decide ((j:Int)<(l.length:Int)))=true:=by simp;omega
  have hr:(true&&decide ((j:Int)<(row.length:Int)))=true:=by simp;omega
  have next: ∀g',((r9 ⟨rel,l,rows,xs,e,i,row,g',j+1⟩).run fun y=>K y.1 y.2)->∃m,m<l.length - j/\ei GP Ap r9 (fun x=>x.l.length - x.j) K m (GP ⟨rel,l,rows,xs,e,i,row,g',j+1⟩):=fun g' hk=>
   ⟨_,by simp only;omega,⟨rel,l,rows,xs,e,i,row,g',j+1⟩,rfl,⟨hj,h2,h3,h4⟩,rfl,hk⟩
  have hw:IntKind.wrap .i64 ((j:Int)+1)=((j+1:Nat):Int):=by rw[az (by omega) (by omega)];omega
  rw[hw];refine ai.2 ⟨hc,ae.2 ⟨fun e4=>next g ?_,fun e4=>⟨⟨g,eE (nth l j)⟩,rfl,trivial,?_⟩⟩⟩
  ·unfold r9 at ho⊢
   simp only[hd,n9] at ho;rw[e4] at ho;exact ho
  ·simp only
   have n4:toInt (af (nth l j) 0)≠4:=by simpa using e4
   refine ae.2 ⟨fun e5=>ai.2 ⟨hr,⟨g,(eE (nth l j)).s,⟨toBool (af (nth row j) 0),toInt (af (nth row j) 1),toStr (af (nth row j) 2)⟩⟩,rfl,trivial,next _ ?_⟩,fun e5=>?_⟩
   ·unfold r9 at ho⊢
    simp only[hd,n9] at ho;rw[e4,e5] at ho;exact ho
   ·have fin:aq (!FY (bK g (eE (nth l j)).tm) (nth row j)) (K (.exit 1) (sp 56 [(0, .cf 0),(2, .ptr 2 0 [] 0),(3, .ptr 3 0 [] 0),(10, .ah 70 rows),(11, .int rows.length),(12, .int i)] (.ext (some xs)::Lh rel l rows e))) (∃m,m<l.length - j/\ei GP Ap r9 (fun x=>x.l.length - x.j) K m (GP ⟨rel,l,rows,xs,e,i,row,g,j+1⟩)):=by
     unfold r9 at ho;simp only[hd,n9] at ho;rw[e4,e5] at ho;refine ae.2 ⟨fun e6=>?_,fun e6=>next g ?_⟩
     ·rw[e6] at ho;exact ho
     ·rw[e6] at ho;exact ho
    exact⟨⟨⟨g,eE (nth l j)⟩,rfl,h4 _ hm n4,ai.2 ⟨hr,fin⟩⟩,ai.2 ⟨hr,⟨g,eE (nth l j)⟩,rfl,h4 _ hm n4,fin⟩⟩
 ·rw[show r9 ⟨rel,l,rows,xs,e,i,row,g,j⟩=_ from rfl] at ho
  unfold r9 at ho;simp only at ho;rw[ao0 (by omega)] at ho;exact ho
noncomputable def UA κ:=(Ud κ).loop (lMi _)
structure AMr where
 rel:ByteArray
 l:List AV
 rows:List AV
 xs:List AV
 e:dF
 i:Nat
abbrev Po(x:AMr):=sp 56 [(0, .cf 0),(2, .ptr 2 0 [] 0),(3, .ptr 3 0 [] 0),(10, .ah 70 x.rows),(11, .int x.rows.length),(12, .int x.i)] (.ext (some x.xs)::Lh x.rel x.l x.rows x.e)
theorem xMr κ x I N K:(vc (UA κ).E 12 176 none 4 (ad (Pr κ).toProgram 176 1) (Po x) (bh (UA κ).E 176 1 4 I N K))=(
 letI b:=AV.int
 letI c:=AV.agg
 letI d:=AV.bool
 letI e:=AV.str
 letI f:=Obj.box
 letI g:=Obj.ext
 letI h:=AV.ah
 letI i:=AV.eP
 aq (decide ((↑(x.i):Int)<(↑(x.rows.length):Int))) (aW (true&&decide ((↑(x.i):Int)<(↑(x.rows.length):Int))) (ad (Pg.toProgram (Env.P (EB.E (Ud κ)))) 176 5=ad (Pg.toProgram (Env.P (EB.E (Ud κ)))) 176 5/\∃(a:Yu),letI n:=[(0,AV.cf 0),(2,AV.ptr 2 0 [] 0),(3,AV.ptr 3 0 [] 0),(10,h 70 a.rows),(11,b (↑(a.rows.length):Int)),(12,b (IntKind.wrap IntKind.i64 ((↑(a.i):Int)+(1:Int))))];letI j:=n9 a.row (List.drop a.j a.l) a.j a.g;letI k:=c [e a.rel,h 38 a.l];letI l:=h 70 a.rows;sp 56 [(0,AV.cf 0),(2,AV.ptr 2 0 [] 0),(3,AV.ptr 3 0 [] 0),(6,h 72 (ag (nth x.rows (Int.toNat (↑(x.i):Int))))),(7,i 9 72 (List.map (fun(x:ByteArray×eI)=>Value.string x.1) x.e) (List.map (fun(x:ByteArray×eI)=>c [d x.2.y,b x.2.n,e x.2.s]) x.e)),(10,h 70 x.rows),(11,b (↑(x.rows.length):Int)),(12,b (↑(x.i):Int)),(18,h 38 x.l),(19,b (↑(x.l.length):Int)),(20,b 0)] [g (some x.xs),f 51 (h 70 x.rows),f 162 (i 9 72 (List.map (fun(x:ByteArray×eI)=>Value.string x.1) x.e) (List.map (fun(x:ByteArray×eI)=>c [d x.2.y,b x.2.n,e x.2.s]) x.e)),f 45 (c [e x.rel,h 38 x.l])]=GP a/\Ap a/\aq (Option.isSome j) (∃(rest:List AV),a.xs=AV.aJ [i 9 72 (List.map (fun(x:ByteArray×eI)=>Value.string x.1) (Option.getD j [])) (List.map (fun(x:ByteArray×eI)=>c [d x.2.y,b x.2.n,e x.2.s]) (Option.getD j []))]::rest/\(∃(m:Nat),m<N/\I m (sp 56 n [g (some rest),f 51 l,f 162 (i 9 72 (List.map (fun(x:ByteArray×eI)=>Value.string x.1) a.e) (List.map (fun(x:ByteArray×eI)=>c [d x.2.y,b x.2.n,e x.2.s]) a.e)),f 45 k]))/\K Exit.ret (sp 56 [] [g none,f 51 l,f 162 (i 9 72 (List.map (fun(x:ByteArray×eI)=>Value.string x.1) a.e) (List.map (fun(x:ByteArray×eI)=>c [d x.2.y,b x.2.n,e x.2.s]) a.e)),f 45 k])) (∃(m:Nat),m<N/\I m (sp 56 n [g (some a.xs),f 51 l,f 162 (i 9 72 (List.map (fun(x:ByteArray×eI)=>Value.string x.1) a.e) (List.map (fun(x:ByteArray×eI)=>c [d x.2.y,b x.2.n,e x.2.s]) a.e)),f 45 k])))) (K (Exit.exit 0) (sp 56 [] [g (some x.xs),f 51 (h 70 x.rows),f 162 (i 9 72 (List.map (fun(x:ByteArray×eI)=>Value.string x.1) x.e) (List.map (fun(x:ByteArray×eI)=>c [d x.2.y,b x.2.n,e x.2.s]) x.e)),f 45 (c [e x.rel,h 38 x.l])]))):=by kernel_rfl
def nf l(rows:List _) e:=rows.filterMap fun r=>n9 (ag r) l 0 e
def EM(L:List dF):List AV:=L.map fun g=> .aJ [cK g]
structure Ei(l rows:List AV):Prop where
 n:rows.length<=100000000
 k:l.length<=100000
 h:gi l
 w: ∀r,r∈rows->(ag r).length=l.length
def Gk(x:AMr):=x.i<=x.rows.length/\Ei x.l x.rows/\x.xs=EM (nf x.l (x.rows.drop x.i) x.e)
def TK(x:AMr):Out (Exit×S):= .all (fun _=>True) fun b=> .aq b
 (.one (.exit 0,sp 56 [] (.ext (some [])::Lh x.rel x.l x.rows x.e)))
 (.one (.ret,sp 56 [] (.ext none::Lh x.rel x.l x.rows x.e)))
theorem Ko l rows(e:dF)(i:Nat)(h:i<rows.length):nf l (rows.drop i) e=(match n9 (ag (nth rows i)) l 0 e with|some g=>g::nf l (rows.drop (i+1)) e|none=>nf l (rows.drop (i+1)) e):=by
 rw[ao3 h,←aX _ i h,nf,List.filterMap_cons];cases n9 _ l 0 e<;>rfl
theorem lMr κ:aR (UA κ).E 12 176 1 (aG 4 Po Gk TK):=by
 refine aD (fun x=>x.rows.length - x.i) ?_;rintro⟨rel,l,rows,xs,e,i⟩ K ⟨h1,h2,h3⟩ ho;simp only at h1 h2 h3;rw[show(UA κ).E.P=Pr κ from rfl];refine Eq.mpr (xMr κ ⟨rel,l,rows,xs,e,i⟩ _ _ K) ?_;have ho1:=ho true trivial;have ho2:=ho false trivial;simp only[Out.run,aq] at ho1 ho2;simp only[Int.toNat_natCast];have hn:=h2.n;rw[ae,an2,an4];refine⟨fun h=>?_,fun h=>?_⟩
 ·have hi:i<rows.length:=by omega
  have hm:nth rows i∈rows:=by rw[aX rows i hi];exact List.getElem_mem _
  rw[Ko l rows e i hi] at h3;have hw:IntKind.wrap .i64 ((i:Int)+1)=((i+1:Nat):Int):=by rw[az (by omega) (by omega)];omega
  have next: ∀ys,ys=EM (nf l (rows.drop (i+1)) e)->∃m,m<rows.length - i/\ei Po Gk TK (fun x=>x.rows.length - x.i) K m (Po ⟨rel,l,rows,ys,e,i+1⟩):=fun ys hy=>
   ⟨_,by simp only;omega,⟨rel,l,rows,ys,e,i+1⟩,rfl,⟨hi,h2,hy⟩,rfl,ho⟩
  refine ai.2 ⟨by simp;omega,trivial,⟨rel,l,rows,xs,e,i,ag (nth rows i),e,0⟩,rfl,⟨Nat.zero_le _,h2.k,h2.w _ hm,h2.h⟩,?_⟩;simp only[ao2];rw[hw];cases hq:n9 (ag (nth rows i)) l 0 e with
  |some g=>
   rw[hq] at h3;exact⟨_,h3,next _ rfl,ho2⟩
  |none=>
   rw[hq] at h3;exact next _ h3
 ·rw[ao0 (by omega)] at h3
  have h3:xs=[]:=h3;subst h3;exact ho1
noncomputable def BMr κ:=(UA κ).loop (lMr _)
theorem yMm κ rel l rows xs e K:(a7 (BMr κ).E 12 176 [.cf 0, .ptr 1 0 [] 0, .ptr 2 0 [] 0, .ptr 3 0 [] 0] (.ext (some xs)::Lh rel l rows e) K)=(
 letI b:=AV.int
 letI c:=AV.agg
 letI d:=AV.str
 letI f:=Obj.box
 letI g:=AV.ah
 ad (Pg.toProgram (Env.P (EB.E (UA κ)))) 176 1=ad (Pg.toProgram (Env.P (EB.E (UA κ)))) 176 1/\∃(a:AMr),letI h:=c [d a.rel,g 38 a.l];sp 56 [(0,AV.cf 0),(2,AV.ptr 2 0 [] 0),(3,AV.ptr 3 0 [] 0),(10,g 70 rows),(11,b (↑(rows.length):Int)),(12,b 0)] [Obj.ext (some xs),f 51 (g 70 rows),f 162 (AV.eP 9 72 (List.map (fun(x:ByteArray×eI)=>Value.string x.1) e) (List.map (fun(x:ByteArray×eI)=>c [AV.bool x.2.y,b x.2.n,d x.2.s]) e)),f 45 (c [d rel,g 38 l])]=Po a/\Gk a/\∀(y:Bool),True->aq y (K (AV.aJ []) [Obj.ext (some []),f 51 (g 70 a.rows),f 162 (AV.eP 9 72 (List.map (fun(x:ByteArray×eI)=>Value.string x.1) a.e) (List.map (fun(x:ByteArray×eI)=>c [AV.bool x.2.y,b x.2.n,d x.2.s]) a.e)),f 45 h]) (K (AV.aJ []) [Obj.ext none,f 51 (g 70 a.rows),f 162 (AV.eP 9 72 (List.map (fun(x:ByteArray×eI)=>Value.string x.1) a.e) (List.map (fun(x:ByteArray×eI)=>c [AV.bool x.2.y,b x.2.n,d x.2.s]) a.e)),f 45 h])):=by kernel_rfl
structure AMm where
 rel:ByteArray
 l:List AV
 rows:List AV
 e:dF
def P8(x:AMm):List AV×List Dn.Obj:=([.cf 0, .ptr 1 0 [] 0, .ptr 2 0 [] 0, .ptr 3 0 [] 0], .ext (some (EM (nf x.l x.rows x.e)))::Lh x.rel x.l x.rows x.e)
def AE(x:AMm):Prop:=Ei x.l x.rows
def I6(_:AMm):Out (AV×List Dn.Obj):= .all (fun st'=>sv st') fun st'=> .one (.aJ [],st')
theorem cMm κ:bg (BMr κ).E 12 176 (aO P8 AE I6):=by
 refine aQ ?_;rintro⟨rel,l,rows,e⟩ K h1 ho;refine Eq.mpr (yMm κ rel l rows _ e K) ?_;refine⟨rfl,⟨rel,l,rows,_,e,0⟩,rfl,⟨Nat.zero_le _,h1,rfl⟩,fun y _=>?_⟩;cases y
 ·exact ho _ trivial
 ·exact ho _ trivial
noncomputable def BMm κ:=(BMr κ).call (cMm _)
structure xI where
 ds:List AV
 rs:List AV
 r:dh
 od:List Nat
 ins:List AV
abbrev u0(x:xI)(o:AV):AV:= .agg [fq x.ds x.rs,au x.r, .ak 1 0 x.od.length, .ak 2 0 x.ins.length,o]
abbrev dr(x:xI)(L:RL):List Dn.Obj:=[.box 160 (u0 x (.ak 3 0 L.length)), .row 3 (ints x.od), .row 51 x.ins, .row 70 (rws L)]
abbrev u5(rel:ByteArray)(l:List AV):AV:= .agg [.lit (.string rel), .ah 38 l]
theorem yRm κ x L rel l K:(a7 (BMm κ).E 12 143 [.ptr 0 0 [] 0,u5 rel l] (dr x L) K)=(
 ∃(a:List AV×ByteArray),([AV.ah 43 x.ds,AV.str rel],[])=IM a/\iD a/\aW (decide ((0:Int)<=bH a.2 a.1)&&decide (bH a.2 a.1<
 (↑(x.ins.length):Int))) (K (AV.ah 70 (ag (nth x.ins (0+Int.toNat (bH a.2 a.1))))) (dr x L))):=by kernel_rfl
structure W8 where
 x:xI
 L:RL
 rel:ByteArray
 l:List AV
def xI.at(x:xI) rel:=ag (nth x.ins (bH rel x.ds).toNat)
def zc(a:W8):=([.ptr 0 0 [] 0,u5 a.rel a.l],dr a.x a.L)
def ua(a:W8):=a.x.ds.length<=aU/\0<=bH a.rel a.x.ds/\bH a.rel a.x.ds<a.x.ins.length
def S6(a:W8):Out (AV×List Dn.Obj):= .one (.ah 70 (a.x.at a.rel),dr a.x a.L)
theorem cRm κ:bg (BMm κ).E 12 143 (aO zc ua S6):=by
 refine aQ ?_;rintro⟨x,L,rel,l⟩ K ⟨h1,h2,h3⟩ ho;refine Eq.mpr (yRm _ x L _ l K) ⟨(x.ds,rel),rfl,h1,ai.2 ⟨?_,by rw[Nat.zero_add];exact ho⟩⟩
 grind
noncomputable def W4 κ:=EB.inline (((BMm κ).call (cRm _)).calm [143]) [142,141]
structure oe where
 x:xI
 L:RL
 op:Int
 rel:ByteArray
 l:List AV
 u:AT
 v:AT
 e:dF
abbrev Ll(a:oe):AV:= .agg [.int a.op,u5 a.rel a.l,dn a.u,dn a.v]
noncomputable abbrev OS(a:oe):Dn.Obj:=
 .loop (iO Tryz.prog 147 3 .ready none (ik (bO 68) [(0, .ptr 0 0 [] 0),(1,Ll a),(2,cK a.e),(4, .ptr 4 0 [] 0),(6, .int 0),(7, .bool false),(8, .ptr 5 0 [] 0),(14,cK a.e),(15, .ptr 4 0 [1] 1),(16,u5 a.rel a.l),(17, .ptr 0 0 [] 0),(18, .ptr 4 0 [1] 1),(19,u5 a.rel a.l),(20, .ah 70 (a.x.at a.rel)),(21, .bm 176 [.ptr 8 0 [] 0, .ptr 6 0 [] 0, .ptr 7 0 [] 0])]))
noncomputable abbrev uX a:=dr a.x a.L++[.box 80 (Ll a), .box 194 .nil, .box 162 (cK a.e), .box 45 (u5 a.rel a.l), .box 51 (.ah 70 (a.x.at a.rel)),OS a]
noncomputable abbrev Fb a V:=dr a.x a.L++[.box 80 (Ll a), .box 194 (.ak 10 0 V.length), .dead, .dead, .dead,OS a, .row 2 V]
theorem sRk κ a Q:(tidy (Pr κ).toProgram 10 (dy (uX a) (b8 (uX a) [.ptr 8 0 [] 0, .ptr 6 0 [] 0, .ptr 7 0 [] 0])) Q)=(
 letI b:=Obj.row
 Q [Obj.box 160 (u0 a.x (AV.ak 3 0 a.L.length)),b 3 (ints a.x.od),b 51 a.x.ins,b 70 (rws a.L),Obj.box 80 (Ll a),Obj.box 194 (AV.ak 10 0
 0),Obj.dead,Obj.dead,Obj.dead,OS a,b 2 []]):=by kernel_rfl
theorem rRk κ a V g Q(K2:List Dn.Obj->Prop):(gu (vc (W4 κ).E 12) 9 [cK g] (Fb a V) (fun r st''=>match r with| .lit (.bool true)=>tidy (Pr κ).toProgram 10 st'' Q| .lit (.bool false)=>K2 st''|_=>False))=(
 letI b:=Obj.box
 letI c:=Obj.row
 letI d:=decide ((V.length+1+1)*9<=70368744177664)
 letI e:=u0 a.x (AV.ak 3 0 a.L.length)
 letI f:=AV.ak 10 0 (V.length+1)
 aq (a.op != (7:Int)) (∃(e0:gD),([cK g,dn a.v],[])=dR e0/\bL (AT.tm e0.t)=true/\aW d (Q [b 160 e,c 3 (ints a.x.od),c 51
 a.x.ins,c 70 (rws a.L),b 80 (Ll a),b 194 f,Obj.dead,Obj.dead,Obj.dead,OS a,c 2 (List.take V.length V++[AV.int (eI.n (bK e0.e
 (AT.tm e0.t)))])])) (aW d (Q [b 160 e,c 3 (ints a.x.od),c 51 a.x.ins,c 70 (rws a.L),b 80 (Ll a),b 194 f,Obj.dead,
 Obj.dead,Obj.dead,OS a,c 2 (List.take V.length V++[AV.int 0])]))):=by kernel_rfl
abbrev GR:List AV:=[.ptr 8 0 [] 0, .ptr 6 0 [] 0, .ptr 7 0 [] 0]
theorem oRk a:my (uX a) GR=true:=by kernel_rfl
theorem kRk a xs:(AV.cf 0::fP (iW (b8 (uX a) GR)) GR,Obj.ext (some xs)::gx (iW (b8 (uX a) GR)) (gz (uX a) (b8 (uX a) GR)))=([.cf 0, .ptr 1 0 [] 0, .ptr 2 0 [] 0, .ptr 3 0 [] 0], .ext (some xs)::Lh a.rel a.l (a.x.at a.rel) a.e):=by kernel_rfl
def mr(op:Int)(v:AT) g:=bif op != 7 then(bK g v.tm).n else 0
structure QS(a:oe):Prop where
 m:Ei a.l (a.x.at a.rel)
 v:a.op≠7->bL a.v.tm=true
def oe.fJ(a:oe):=(nf a.l (a.x.at a.rel) a.e).map (mr a.op a.v)
noncomputable def ac2:eH:=fun caps st K=>∃a,(caps,st)=(GR,uX a)/\QS a/\K (Fb a (iA a.fJ))
theorem Kc:ac2.gw:=by
 rintro caps st K K' hK ⟨a,h1,h2,h3⟩;exact⟨a,h1,h2,hK _ h3⟩
theorem WE κ args st K(h:aO P8 AE I6 args st K):(W4 κ).E.call 176 args st K:=h
theorem wM l rows e:(nf l rows e).length<=rows.length:=List.length_filterMap_le _ _
theorem gRk κ:jb (W4 κ).E 12 176 ac2:=by
 rintro caps st K ⟨a,h1,hf,h5⟩;obtain⟨rfl,rfl⟩:=Prod.mk.inj (show(caps,st)=(GR,uX a) from h1);have hn:=Nat.le_trans (wM a.l (a.x.at a.rel) a.e) hf.m.n;refine⟨EM (nf a.l (a.x.at a.rel) a.e),fun items st'=>∃E1 E2:List dF,items=EM E2/\st'=Fb a (iA (E1.map (mr a.op a.v)))/\E1++E2=nf a.l (a.x.at a.rel) a.e,⟨oRk a,?_,?_,?_,?_⟩⟩
 ·refine WE κ _ _ _ ⟨⟨a.rel,a.l,a.x.at a.rel,a.e⟩,?_,hf.m,fun st' h=>h⟩
  rw[kRk];rfl
 ·rw[show(W4 κ).E.P=Pr κ from rfl,show(uX a).length=10 from rfl,sRk]
  exact Exists.intro [] (Exists.intro _ (And.intro (Eq.refl _) (And.intro (Eq.refl _) (List.nil_append _))))
 ·rintro us rest st' ⟨E1,E2,e1,rfl,e3⟩
  cases E2 with
  |nil=>cases e1
  | cons g E2=>
   obtain⟨hu,rfl⟩:=List.cons.inj e1;obtain rfl:=AV.aJ.inj hu;rw[show(W4 κ).E.P=Pr κ from rfl,show(uX a).length=10 from rfl,show(10:Nat) - 1=9 from rfl];refine Eq.mpr (rRk κ a (iA (E1.map (mr a.op a.v))) g (fun st'=>∃F1 F2:List dF,EM E2=EM F2/\st'=Fb a (iA (F1.map (mr a.op a.v)))/\F1++F2=nf a.l (a.x.at a.rel) a.e) K) ?_;have hE:E1.length<=(nf a.l (a.x.at a.rel) a.e).length:=by rw[←e3];simp
   have hb:decide (((iA (E1.map (mr a.op a.v))).length+1+1)*9<=70368744177664)=true:=by rw[an2,jm,List.length_map];omega
   have next: ∀n:Int,n=mr a.op a.v g->∃F1 F2:List dF,EM E2=EM F2/\Fb a (iA (E1.map (mr a.op a.v))++[AV.int n])=Fb a (iA (F1.map (mr a.op a.v)))/\F1++F2=nf a.l (a.x.at a.rel) a.e:=fun n h=>
    ⟨E1++[g],E2,rfl,by rw[h,List.map_append,wA];rfl,by rw[←e3];simp⟩
   simp only[Fb,ao7,List.length_singleton] at next;rw[List.take_length];refine ae.2 ⟨fun e7=>⟨⟨g,a.v⟩,rfl,hf.v (by simpa using e7),ai.2 ⟨hb,next _ (by unfold mr;rw[e7];rfl)⟩⟩,fun e7=>ai.2 ⟨hb,next _ (by unfold mr;rw[e7];rfl)⟩⟩
 ·rintro st' ⟨E1,E2,e1,rfl,e3⟩
  obtain rfl:E2=[]:=by cases E2 with|nil=>rfl|cons _ _=>cases e1
  rw[List.append_nil] at e3;rw[e3];exact h5
noncomputable def F9 κ:=(W4 _).range 147 3 Kc (gRk κ) fun f=>iS f (176::LI)
abbrev Xy(a:oe) V m(i:Nat):=sp 68 [(11, .int m),(45, .ak 4 0 V.length),(46, .int V.length),(47, .int i)] (dr a.x a.L++[.row 2 V])
theorem xSu κ a V m i I N K:(vc (F9 κ).E 12 147 none 4 (ad (Pr κ).toProgram 147 13) (Xy a V m i) (bh (F9 κ).E 147 13 4 I N K))=(
 letI b:=IntKind.wrap IntKind.i64
 letI c:=Obj.row
 letI d:=(↑i:Int)<(↑(V.length):Int)
 aq (decide d) (aW (true&&decide d) (∃(e0:Nat),e0<N/\I e0 (sp 68 [(11,AV.int (b (m+toInt (nth V (0+Int.toNat (↑i:
 Int)))))),(45,AV.ak 4 0 V.length),(46,AV.int (↑(V.length):Int)),(47,AV.int (b ((↑i:Int)+(1:Int))))] [Obj.box 160 (u0 a.x
 (AV.ak 3 0 a.L.length)),c 3 (ints a.x.od),c 51 a.x.ins,c 70 (rws a.L),c 2 V]))) (K (Exit.exit 3) (sp 68 [(11,AV.int m)] (dr a.x
 a.L)))):=by kernel_rfl
def VO m(l:List _):=l.foldl (fun m x=>IntKind.wrap .i64 (m+toInt x)) m
structure ASu where
 a:oe
 V:List AV
 m:Int
 i:Nat
abbrev TJ(x:ASu):S:=Xy x.a x.V x.m x.i
def PB(x:ASu):=x.i<=x.V.length/\x.V.length<=100000000
def SH(x:ASu):Out (Exit×S):= .one (.exit 3,sp 68 [(11, .int (VO x.m (x.V.drop x.i)))] (dr x.a.x x.a.L))
theorem lSu κ:aR (F9 κ).E 12 147 13 (aG 4 TJ PB SH):=by
 refine aD (fun x=>x.V.length - x.i) ?_;rintro⟨a,V,m,i⟩ K ⟨h1,h2⟩ ho;simp only at h1 h2;rw[show(F9 κ).E.P=Pr κ from rfl];refine Eq.mpr (xSu κ a V m i _ _ K) ?_;simp only[Nat.zero_add,Int.toNat_natCast];rw[ae,an2,an4];simp only[SH,Out.run] at ho;refine⟨fun h=>ai.2 ⟨by simp;omega,_,?_,⟨a,V,IntKind.wrap .i64 (m+toInt (nth V i)),i+1⟩,?_,⟨by simp only;omega,h2⟩,rfl,?_⟩,fun h=>?_⟩
 ·simp only;omega
 ·grind [az]
 ·have hi:i<V.length:=by omega
  rw[ao3 hi,←aX V i hi] at ho;exact ho
 ·rw[ao0 (by omega)] at ho
  exact ho
noncomputable def BSu κ:=(F9 κ).loop (lSu _)
theorem yRk κ a K:(a7 (BSu κ).E 12 147 [.ptr 0 0 [] 0,Ll a,cK a.e] (dr a.x a.L) K)=(
 letI b:=AV.ptr 0 0 []
 letI c:=AV.int
 letI d:=AV.ptr
 letI e:=AV.bool
 letI f:=Obj.box
 letI g:=Obj.row
 letI l:=Pg.toProgram (Env.P (EB.E (F9 κ)))
 ∃(e2:W8),letI m:=u0 e2.x (AV.ak 3 0 e2.L.length);([b 0,u5 a.rel a.l],dr a.x a.L)=zc e2/\ua e2/\(f 160 m=f 160 (u0 a.x (AV.ak 3 0 a.L.length))/\f 80 (Ll a)=f 80 (Ll a)/\f 194 AV.nil=f 194 AV.nil/\True)/\∃(e1:oe),letI k:=iA (oe.fJ e1);letI i:=List.length k;letI h:=List.take i (List.drop 0 k);letI j:=dr e1.x e1.L;([d 8 0 [] 0,d 6 0 [] 0,d 7 0 [] 0],[f 160 m,g 3 (ints e2.x.od),g 51 e2.x.ins,g 70 (rws e2.L),f 80 (Ll a),f 194 AV.nil,f 162 (cK a.e),f 45 (u5 a.rel a.l),f 51 (AV.ah 70 (xI.at e2.x e2.rel)),Dn.Obj.loop (iO Tryz.prog 147 3 LoopState.ready none (ik (bO 68) [(0,b 0),(1,Ll a),(2,cK a.e),(4,d 4 0 [] 0),(6,c 0),(7,e false),(8,d 5 0 [] 0),(14,cK a.e),(15,d 4 0 [1] 1),(16,u5 a.rel a.l),(17,b 0),(18,d 4 0 [1] 1),(19,u5 a.rel a.l),(20,AV.ah 70 (xI.at e2.x e2.rel)),(21,AV.bm 176 [d 8 0 [] 0,d 6 0 [] 0,d 7 0 [] 0])]))])=([d 8 0 [] 0,d 6 0 [] 0,d 7 0 [] 0],uX e1)/\QS e1/\aq (e1.op==(7:Int)) (K (AV.aJ [c (↑i:Int),e true]) j) (aq (e1.op==(8:Int)) (ad l 147 13=ad l 147 13/\∃(e0:ASu),sp 68 [(11,c 0),(45,AV.ak 4 0 i),(46,c (↑i:Int)),(47,c 0)] [f 160 (u0 e1.x (AV.ak 3 0 e1.L.length)),g 3 (ints e1.x.od),g 51 e1.x.ins,g 70 (rws e1.L),g 2 k]=TJ e0/\PB e0/\K (AV.aJ [c (VO e0.m (List.drop e0.i e0.V)),e true]) (dr e0.a.x e0.a.L)) (aq ((↑i:Int)==(0:Int)) (K (AV.aJ [c 0,e false]) j) (aq (e1.op==(9:Int)) (aW (decide (1<=List.length h)&&decide (List.length h<=100000000)) (K (AV.aJ [c (LZ (toInt (nth h 0)) (List.drop 1 h)),e true]) j)) (aW (decide (1<=List.length h)&&decide (List.length h<=100000000)) (K (AV.aJ [c (Od (toInt (nth h 0)) (List.drop 1 h)),e true]) j)))))):=by kernel_rfl
def nU(op:Int)(V:List AV):Int:=bif op==7 then V.length else bif op==8 then VO 0 V else bif (V.length:Int)==0 then 0 else bif op==9 then LZ (toInt (nth V 0)) (V.drop 1) else Od (toInt (nth V 0)) (V.drop 1)
def oS(op:Int)(V:List AV):=op==7||(op==8|| !(V.length:Int)==0)
def Qf a:=([.ptr 0 0 [] 0,Ll a,cK a.e],dr a.x a.L)
structure Ht(a:oe):Prop where
 d:a.x.ds.length<=aU
 f0:0<=bH a.rel a.x.ds
 f1:bH a.rel a.x.ds<a.x.ins.length
 k:QS a
def T9(a:oe):Out (AV×List Dn.Obj):= .one (.aJ [.int (nU a.op (iA a.fJ)), .bool (oS a.op (iA a.fJ))],dr a.x a.L)
theorem rF{a}(h:QS a):(iA a.fJ).length<=100000000:=by
 rw[jm,oe.fJ,List.length_map];exact Nat.le_trans (wM _ _ _) h.m.n
theorem cRk κ:bg (BSu κ).E 12 147 (aO Qf Ht T9):=by
 refine aQ ?_;intro a K hs ho
 replace ho:K (.aJ [.int (nU a.op (iA a.fJ)), .bool (oS a.op (iA a.fJ))]) (dr a.x a.L):=ho
 refine Eq.mpr (yRk κ a K) ?_;refine⟨⟨a.x,a.L,a.rel,a.l⟩,rfl,⟨hs.d,hs.f0,hs.f1⟩,⟨rfl,rfl,rfl,trivial⟩,a,rfl,hs.k,?_⟩;have hv:=rF hs.k;have ht:(iA a.fJ).take (iA a.fJ).length=iA a.fJ:=List.take_length;rw[ao2,ht];unfold nU oS at ho;have hm:((((iA a.fJ).length:Int)==0)=false)->(decide (1<=(iA a.fJ).length)&&decide ((iA a.fJ).length<=100000000))=true:=fun h0=>by
  grind
 refine ae.2 ⟨fun e7=>?_,fun e7=>ae.2 ⟨fun e8=>⟨rfl,⟨a,iA a.fJ,0,0⟩,rfl,⟨Nat.zero_le _,hv⟩,?_⟩,fun e8=>ae.2 ⟨fun e0=>?_,fun e0=>ae.2 ⟨fun e9=>ai.2 ⟨hm e0,?_⟩,fun e9=>ai.2 ⟨hm e0,?_⟩⟩⟩⟩⟩
 ·rw[e7] at ho;exact ho
 ·rw[e7,e8] at ho;exact ho
 ·rw[e7,e8,e0] at ho;exact ho
 ·rw[e7,e8,e0,e9] at ho;exact ho
 ·rw[e7,e8,e0,e9] at ho;exact ho
noncomputable def CB κ:=((BSu κ).call (cRk _)).calm [147]
structure AHr where
 x:xI
 L:RL
 e:dF
 i:Nat
def ji(hl:List _) e:=hl.map fun t=>eZ (bK e (eE t).tm)
abbrev Vq(a:AHr) V:=sp 191 [(2,cK a.e),(3, .ptr 4 0 [] 0),(6, .ak 5 0 V.length),(26, .ah 38 a.x.r.hl),(27, .int a.x.r.hl.length),(28, .int a.i)] (dr a.x a.L++[.box 158 (.ptr 0 0 [] 0), .row 72 V])
theorem xHr κ a V I N K:(vc (CB κ).E 12 98 none 4 (ad (Pr κ).toProgram 98 4) (Vq a V) (bh (CB κ).E 98 4 4 I N K))=(
 letI b:=Obj.box
 letI c:=Obj.row
 letI d:=dh.hl a.x.r
 letI e:=nth d (Int.toNat (↑(a.i):Int))
 letI f:=(↑(a.i):Int)<(↑(List.length d):Int)
 letI g:=u0 a.x (AV.ak 3 0 a.L.length)
 aq (decide f) (aW (true&&decide f) (∃(e1:gD),([cK a.e,AV.agg [AV.int (toInt (af e 0)),AV.str (toStr (af e 1)),AV.int (toInt (af e 2)),AV.ah 38
 (ag (af e 3))]],[])=dR e1/\bL (AT.tm e1.t)=true/\aW (decide ((V.length+1+1)*33<=70368744177664)) (∃(e0:Nat),e0<N/\I e0 (sp 191 [(2,cK
 a.e),(3,AV.ptr 4 0 [] 0),(6,AV.ak 5 0 (V.length+1)),(26,AV.ah 38 d),(27,AV.int (↑(List.length d):Int)),(28,AV.int (IntKind.wrap IntKind.i64
 ((↑(a.i):Int)+(1:Int))))] [b 160 g,c 3 (ints a.x.od),c 51 a.x.ins,c 70 (rws a.L),b 158 (AV.ptr 0 0 [] 0),c 72
 (List.take V.length V++[eZ (bK e1.e (AT.tm e1.t))])])))) (K (Exit.exit 0) (sp 191 [(3,AV.ptr 4 0 [] 0),(6,AV.ak 5 0 V.length)] [b 160 g,c 3
 (ints a.x.od),c 51 a.x.ins,c 70 (rws a.L),b 158 (AV.ptr 0 0 [] 0),c 72 V]))):=by kernel_rfl
abbrev MS a:=Vq a (ji (a.x.r.hl.take a.i) a.e)
def Nw(a:AHr):=a.i<=a.x.r.hl.length/\a.x.r.hl.length<=100000/\∀t,t∈a.x.r.hl->bL (eE t).tm=true
def Zz(a:AHr):Out (Exit×S):= .one (.exit 0,sp 191 [(3, .ptr 4 0 [] 0),(6, .ak 5 0 (ji a.x.r.hl a.e).length)] (dr a.x a.L++[.box 158 (.ptr 0 0 [] 0), .row 72 (ji a.x.r.hl a.e)]))
theorem lHr κ:aR (CB κ).E 12 98 4 (aG 4 MS Nw Zz):=by
 refine aD (fun a=>a.x.r.hl.length - a.i) ?_;rintro⟨x,L,e,i⟩ K ⟨h1,h2,h3⟩ ho;simp only at h1 h2 h3;rw[show(CB κ).E.P=Pr κ from rfl];refine Eq.mpr (xHr κ ⟨x,L,e,i⟩ _ _ _ K) ?_;simp only[Int.toNat_natCast];rw[ae,an2,an4];refine⟨fun h=>?_,fun h=>?_⟩
 ·have hi:i<x.r.hl.length:=by omega
  have hm:nth x.r.hl i∈x.r.hl:=by rw[aX _ i hi];exact List.getElem_mem _
  have hs:ji (x.r.hl.take (i+1)) e=ji (x.r.hl.take i) e++[eZ (bK e (eE (nth x.r.hl i)).tm)]:=by
   rw[List.take_add_one,ji,ji,List.map_append,aX _ i hi];simp[hi]
  have hl:(ji (x.r.hl.take i) e).length<=100000:=by rw[ji,List.length_map,List.length_take];omega
  refine ai.2 ⟨by simp;omega,⟨e,eE (nth x.r.hl i)⟩,rfl,h3 _ hm,ai.2 ⟨by rw[an2];omega,_,?_,⟨x,L,e,i+1⟩,?_,⟨hi,h2,h3⟩,rfl,ho⟩⟩
  ·simp only;omega
  ·simp only[MS,Vq,hs,List.take_length,ao7,List.length_singleton]
   rw[az (n:=(i:Int)+1) (by omega) (by omega)];rfl
 ·have ht:x.r.hl.take i=x.r.hl:=List.take_of_length_le (by omega)
  simp only[ht];exact ho
noncomputable def BHr κ:=(CB κ).loop (lHr _)
theorem He{b p q p' q'}(h1:p->p')(h2:q->q')(h:aq b p q):aq b p' q':=by
 cases b
 ·exact h2 h
 ·exact h1 h
def EB.Ws(b:EB){f:Nat}{sp:dc}(hm:sp.gw)(h: ∀args st K,sp args st K->b.E.call f args st K):EB:=⟨_,b.ok.fV fun a s K hh=>b.ok.call _ _ _ _ (h a s K hh),b.mono.aw hm⟩
def ah0(st:List Dn.Obj)(i:Nat)(k:AV->Prop):Prop:=match ay st i with| .box _ a=>k a|_=>False
def ak9(st:List Dn.Obj)(i:Nat)(k:List AV->Prop):Prop:=match ay st i with| .row _ l=>k l|_=>False
def dsK(a:AV)(k:List AV->Prop):=match a with| .agg (.agg (.ah _ ds::_)::_)=>k ds|_=>False
def ae9(l:List AV)(k:ByteArray->Prop):=match l with|[_, .agg [.lit (.string s),_]]=>k s|_=>False
def O6:dc:=fun args st K=>(∃a,(args,st)=zc a/\ua a)/\ae9 args fun rel=>ah0 st 0 fun b=>dsK b fun ds=>ak9 st 2 fun ins=>K (.ah 70 (ag (nth ins (bH rel ds).toNat))) st
theorem E5:O6.gw:=fun args st K K' hK h=>by
 obtain⟨⟨a,h1,h2⟩,h3⟩:=h;obtain⟨rfl,rfl⟩:=Prod.mk.inj h1;exact⟨by grind,hK _ _ h3⟩
theorem Wo args st K(h:O6 args st K):aO zc ua S6 args st K:=by
 obtain⟨⟨a,h1,h2⟩,h3⟩:=h;obtain⟨rfl,rfl⟩:=Prod.mk.inj h1;exact⟨a,rfl,h2,h3⟩
def LW:dc:=fun args st K=>∃a,(args,st)=Qf a/\Ht a/\K (.aJ [.int (nU a.op (iA a.fJ)), .bool (oS a.op (iA a.fJ))]) st
theorem EH:LW.gw:=fun _ _ _ _ hK ⟨a,h1,h2,h3⟩=>⟨a,h1,h2,hK _ _ h3⟩
theorem Wj args st K(h:LW args st K):aO Qf Ht T9 args st K:=by
 obtain⟨a,h1,h2,h3⟩:=h;obtain⟨rfl,rfl⟩:=Prod.mk.inj h1;exact⟨a,rfl,h2,h3⟩
theorem V6 κ args st K(h:O6 args st K):(BHr κ).E.call 143 args st K:=Wo _ _ K h
noncomputable def BGa κ:=EB.Ws _ E5 (V6 κ)
theorem SE κ args st K(h:LW args st K):(BGa κ).E.call 147 args st K:=Wj _ _ K h
noncomputable def BGb κ:=EB.Ws _ EH (SE κ)
structure bp where
 x:xI
 L:RL
 i:Nat
 e:dF
abbrev bp.j(a:bp):=0+Int.toNat a.i
abbrev bp.k(a:bp):=nth (ints a.x.od) a.j
abbrev bp.t(a:bp):=nth a.x.r.bl (toInt a.k).toNat
abbrev bp.rel(a:bp):=toStr (af (af a.t 1) 0)
abbrev bp.l(a:bp):=ag (af (af a.t 1) 1)
abbrev iX(x:AV):AV:= .agg [.int (toInt (af x 0)), .lit (.string (toStr (af x 1))), .int (toInt (af x 2)), .ah 38 (ag (af x 3))]
abbrev bp.lit(a:bp):AV:= .agg [.int (toInt (af a.t 0)),u5 a.rel a.l,iX (af a.t 2),iX (af a.t 3)]
noncomputable abbrev Fv(a:bp):Dn.Obj:=
 .loop (iO Tryz.prog 98 20 .ready none (ik (bO 191) [(0, .ptr 0 0 [] 0),(1, .int a.i),(2,cK a.e),(3, .ptr 4 0 [] 0),(4, .ptr 5 0 [] 0),(9, .ptr 6 0 [] 0),(10, .ptr 7 0 [] 0),(14, .int a.i),(15, .ptr 0 0 [] 0),(16, .ptr 0 0 [] 0),(17, .ptr 0 0 [2] 6),(18, .ak 1 0 a.x.od.length),(19, .int a.x.od.length),(20, .bool false),(49, .ptr 0 0 [] 0),(50, .ptr 0 0 [] 0),(51, .ptr 0 0 [1] 2),(52, .ptr 0 0 [1,1] 4),(53, .ah 80 a.x.r.bl),(54, .ptr 0 0 [] 0),(55, .ptr 0 0 [] 0),(56, .ptr 0 0 [2] 6),(57, .ak 1 0 a.x.od.length),(58, .int a.i),(59, .ptr 1 a.j [] 0),(60, .int (toInt a.k)),(61, .js 80 a.t),(62,a.lit),(63, .bm 141 [.ptr 4 0 [] 0, .ptr 5 0 [] 0]),(64, .ptr 6 0 [0] 0),(65, .int (toInt (af a.t 0))),(101, .bool true),(102, .bool (toInt (af a.t 0)==1)),(103,cK a.e),(104, .ptr 6 0 [1] 1),(105,u5 a.rel a.l),(106, .ptr 0 0 [] 0),(107, .ptr 6 0 [1] 1),(108,u5 a.rel a.l),(109, .ah 70 (a.x.at a.rel)),(110, .bm 176 [.ptr 10 0 [] 0, .ptr 8 0 [] 0, .ptr 9 0 [] 0])]))
noncomputable abbrev vb a:=dr a.x a.L++[.box 158 (.ptr 0 0 [] 0), .box 3 (.int a.i), .box 80 a.lit, .box 207 (.bm 141 [.ptr 4 0 [] 0, .ptr 5 0 [] 0]), .box 162 (cK a.e), .box 45 (u5 a.rel a.l), .box 51 (.ah 70 (a.x.at a.rel)),Fv a]
noncomputable abbrev Nr a L:=dr a.x L++[.box 158 (.ptr 0 0 [] 0), .box 3 (.int a.i), .box 80 a.lit, .box 207 (.bm 141 [.ptr 4 0 [] 0, .ptr 5 0 [] 0]), .dead, .dead, .dead,Fv a]
def tR(x:xI):List Nat->dF->RL
 |[],e=>[ji x.r.hl e]
 | k::ks,e=>
  let t:=nth x.r.bl k
  let op:=toInt (af t 0)
  let M:=nf (ag (af (af t 1) 1)) (x.at (toStr (af (af t 1) 0))) e
  let u:=eE (af t 2)
  let v:=eE (af t 3)
  bif op==1 then M.flatMap (tR x ks)
  else bif op==2 then(bif M.isEmpty then tR x ks e else[])
  else bif op==3||(op==4||(op==5||op==6)) then
   (bif op==3&&eO e u then tR x ks (e.put u.s (bK e v.tm))
    else bif op==3&&eO e v then tR x ks (e.put v.s (bK e u.tm))
    else bif ic op (bK e u.tm) (bK e v.tm) then tR x ks e else[])
  else
   let V:=iA (M.map (mr op v))
   (bif !oS op V then[]
    else bif eO e u then tR x ks (e.put u.s ⟨false,nU op V,ByteArray.mk #[]⟩)
    else bif (bK e u.tm).n==nU op V then tR x ks e else[])
abbrev ac8(a:bp):=ik (bO 191) [(0, .ptr 0 0 [] 0),(1, .int a.i),(2,cK a.e),(3, .ptr 4 0 [] 0),(4, .ptr 5 0 [] 0),(9, .ptr 6 0 [] 0),(10, .ptr 7 0 [] 0),(14, .int a.i),(15, .ptr 0 0 [] 0),(16, .ptr 0 0 [] 0),(17, .ptr 0 0 [2] 6),(18, .ak 1 0 a.x.od.length),(19, .int a.x.od.length),(20, .bool false),(49, .ptr 0 0 [] 0),(50, .ptr 0 0 [] 0),(51, .ptr 0 0 [1] 2),(52, .ptr 0 0 [1,1] 4),(53, .ah 80 a.x.r.bl),(54, .ptr 0 0 [] 0),(55, .ptr 0 0 [] 0),(56, .ptr 0 0 [2] 6),(57, .ak 1 0 a.x.od.length),(58, .int a.i),(59, .ptr 1 a.j [] 0),(60, .int (toInt a.k)),(61, .js 80 a.t),(62,a.lit),(63, .bm 141 [.ptr 4 0 [] 0, .ptr 5 0 [] 0]),(64, .ptr 6 0 [0] 0),(65, .int (toInt (af a.t 0))),(101, .bool false),(102, .bool (toInt (af a.t 0)==1)),(115, .bool true),(116, .bool (toInt (af a.t 0)==2)),(117,cK a.e),(118, .ptr 6 0 [1] 1),(119,u5 a.rel a.l),(120, .ptr 0 0 [] 0),(121, .ptr 6 0 [1] 1),(122,u5 a.rel a.l),(123, .ah 70 (a.x.at a.rel)),(124, .bm 176 [.ptr 10 0 [] 0, .ptr 8 0 [] 0, .ptr 9 0 [] 0])]
abbrev FP(a:bp)(s:LoopState)(p:Option Code):Dn.Obj:= .loop {state:=s,pending:=p,fn:=98,bB:=ac8 a,params:= #[125],assign:= .skip,body:= .block 7 .ret}
noncomputable abbrev Kk a L:=[.box 160 (u0 a.x (.ak 12 0 L.length)), .row 3 (ints a.x.od), .row 51 a.x.ins, .dead, .box 158 (.ptr 0 0 [] 0), .box 3 (.int a.i), .box 80 a.lit, .box 207 (.bm 141 [.ptr 4 0 [] 0, .ptr 5 0 [] 0]), .dead, .dead, .dead,Fv a, .row 70 (rws L)]
abbrev qf:List AV:=[.ptr 10 0 [] 0, .ptr 8 0 [] 0, .ptr 9 0 [] 0]
abbrev uO a:=dr a.x a.L++[.box 158 (.ptr 0 0 [] 0), .box 3 (.int a.i), .box 80 a.lit, .box 207 (.bm 141 [.ptr 4 0 [] 0, .ptr 5 0 [] 0]), .box 162 (cK a.e), .box 45 (u5 a.rel a.l), .box 51 (.ah 70 (a.x.at a.rel)),FP a .ready none]
abbrev K4(a:bp) o:=dr a.x a.L++[.box 158 (.ptr 0 0 [] 0), .box 3 (.int a.i), .box 80 a.lit, .box 207 (.bm 141 [.ptr 4 0 [] 0, .ptr 5 0 [] 0]), .dead, .dead, .dead,o]
def lD(op:Int):=op==1||(op==2|| !(op==3||(op==4||(op==5||op==6))))
structure Yq(x:xI)(t:AV):Prop where
 at0:lD (toInt (af t 0))=true->0<=bH (toStr (af (af t 1) 0)) x.ds/\bH (toStr (af (af t 1) 0)) x.ds<x.ins.length
 at1:lD (toInt (af t 0))=true->Ei (ag (af (af t 1) 1)) (x.at (toStr (af (af t 1) 0)))
 u:(toInt (af t 0)==1)=false->(toInt (af t 0)==2)=false->bL (eE (af t 2)).tm=true
 v:(toInt (af t 0)==1)=false->(toInt (af t 0)==2)=false->toInt (af t 0)≠7->bL (eE (af t 3)).tm=true
structure Sp(x:xI):Prop where
 d:x.ds.length<=aU
 n:x.od.length<=100000
 o: ∀k,k∈x.od->k<x.r.bl.length
 h:x.r.hl.length<=100000
 hv: ∀t,t∈x.r.hl->bL (eE t).tm=true
 t: ∀k,k∈x.od->Yq x (nth x.r.bl k)
def bp.out(a:bp):=tR a.x (a.x.od.drop a.i) a.e
def gk(a:bp):=([.ptr 0 0 [] 0, .int a.i,cK a.e],dr a.x a.L)
structure cy(a:bp):Prop where
 x:Sp a.x
 i:a.i<=a.x.od.length
 n:a.L.length+a.out.length<=100000000
abbrev n8(x:xI)(L:RL):List Dn.Obj:=[.box 160 (u0 x (.ak 4 0 L.length)), .row 3 (ints x.od), .row 51 x.ins, .dead, .row 70 (rws L)]
def Tq(a:bp):Out (AV×List Dn.Obj):= .aq a.out.isEmpty (.one (.aJ [],dr a.x a.L)) (.one (.aJ [],n8 a.x (a.L++a.out)))
def VB n:=aO gk (fun a=>cy a/\a.x.od.length - a.i=n) Tq
noncomputable def TO κ r:=(BGb κ).E.aw 98 fun args st K=>∃m,m<r/\VB m args st K
theorem sGm κ a Q:(tidy (Pr κ).toProgram 12 (dy (vb a) (b8 (vb a) qf)) Q)=(
 Q (Nr a a.L)):=by kernel_rfl
theorem rGm κ r a L g Q(K2:List Dn.Obj->Prop):(gu (vc (TO κ r) 12) 11 [cK g] (Nr a L) (fun r st''=>match r with| .lit (.bool true)=>tidy (Pr κ).toProgram 12 st'' Q| .lit (.bool false)=>K2 st''|_=>False))=(
 letI b:=AV.ptr 0 0 []
 letI c:=Obj.box
 letI d:=Obj.row
 letI e:=AV.bm 141 [AV.ptr 4 0 [] 0,AV.ptr 5 0 [] 0]
 letI f:=AV.int (↑(a.i):Int)
 ∃(e1:Nat),e1<r/\∃(e0:bp),([b 0,AV.int (IntKind.wrap IntKind.i64 ((↑(a.i):Int)+(1:Int))),cK g],dr a.x L)=gk e0/\(cy e0/\
 List.length e0.x.od - e0.i=e1)/\aq (List.isEmpty (bp.out e0)) (Q [c 160 (u0 e0.x (AV.ak 3 0 e0.L.length)),d 3 (ints e0.x.od),d 51
 e0.x.ins,d 70 (rws e0.L),c 158 (b 0),c 3 f,c 80 (bp.lit a),c 207 e,Obj.dead,Obj.dead,Obj.dead,Fv a]) (Q
 [c 160 (u0 e0.x (AV.ak 12 0 (List.length (e0.L++bp.out e0)))),d 3 (ints e0.x.od),d 51 e0.x.ins,Obj.dead,c 158 (b 0),
 c 3 f,c 80 (bp.lit a),c 207 e,Obj.dead,Obj.dead,Obj.dead,Fv a,d 70 (rws (e0.L++bp.out e0))])):=by kernel_rfl
theorem sGn κ a Q:(tidy (Pr κ).toProgram 12 (dy (uO a) (b8 (uO a) qf)) Q)=(
 Q (K4 a (FP a LoopState.ready none))):=by kernel_rfl
theorem rGd κ r a L g Q(K2:List Dn.Obj->Prop):(gu (vc (TO κ r) 12) 11 [cK g] (Kk a L) (fun r st''=>match r with| .lit (.bool true)=>tidy (Pr κ).toProgram 12 st'' Q| .lit (.bool false)=>K2 st''|_=>False))=(
 letI b:=AV.ptr
 letI c:=Obj.box
 letI d:=Obj.row
 letI e:=AV.bm 141 [b 4 0 [] 0,b 5 0 [] 0]
 letI f:=AV.int (↑(a.i):Int)
 ∃(e1:Nat),e1<r/\∃(e0:bp),([b 0 0 [] 0,AV.int (IntKind.wrap IntKind.i64 ((↑(a.i):Int)+(1:Int))),cK g],dr a.x L)=gk e0/\(cy e0/\
 List.length e0.x.od - e0.i=e1)/\aq (List.isEmpty (bp.out e0)) (Q [c 160 (u0 e0.x (AV.ak 12 0 e0.L.length)),d 3 (ints e0.x.od),d 51
 e0.x.ins,Obj.dead,c 158 (b 0 0 [] 0),c 3 f,c 80 (bp.lit a),c 207 e,Obj.dead,Obj.dead,Obj.dead,Fv a,d 70 (rws
 e0.L)]) (Q [c 160 (u0 e0.x (AV.ak 12 0 (List.length (e0.L++bp.out e0)))),d 3 (ints e0.x.od),d 51 e0.x.ins,Obj.dead,c 158 (b 0
 0 [] 0),c 3 f,c 80 (bp.lit a),c 207 e,Obj.dead,Obj.dead,Obj.dead,Fv a,d 70 (rws (e0.L++bp.out e0))])):=by kernel_rfl
def M0(a:bp):=nf a.l (a.x.at a.rel) a.e
def uT(a:bp):=tR a.x (a.x.od.drop (a.i+1))
structure Mv(a:bp)(r:Nat):Prop where
 x:Sp a.x
 i:a.i<a.x.od.length
 r:a.x.od.length - a.i=r
 m:Ei a.l (a.x.at a.rel)
 n:a.L.length+((M0 a).flatMap (uT a)).length<=100000000
def bp.all(a:bp):RL:=(M0 a).flatMap (uT a)
noncomputable def U7(r:Nat):eH:=fun caps st K=>∃a,(caps,st)=(qf,vb a)/\Mv a r/\aq a.all.isEmpty (K (Nr a a.L)) (K (Kk a (a.L++a.all)))
theorem KX r:(U7 r).gw:=by
 rintro caps st K K' hK ⟨a,h1,h2,h3⟩;exact⟨a,h1,h2,He (hK _) (hK _) h3⟩
noncomputable def ZQ a R:=bif R.isEmpty then Nr a a.L else Kk a (a.L++R)
theorem P6 a R T(Q:List _->Prop)(h:Q (ZQ a (R++T))):bif R.isEmpty then aq T.isEmpty (Q (Nr a a.L)) (Q (Kk a (a.L++T))) else aq T.isEmpty (Q (Kk a (a.L++R))) (Q (Kk a (a.L++R++T))):=by
 cases R with
 |nil=>cases T<;>exact h
 |cons b R=>
  cases T with
  |nil=>rw[List.append_nil] at h;exact h
  |cons c T=>rw[List.append_assoc];exact h
theorem oGm a:my (vb a) qf=true:=by kernel_rfl
theorem kGm a xs:(AV.cf 0::fP (iW (b8 (vb a) qf)) qf,Obj.ext (some xs)::gx (iW (b8 (vb a) qf)) (gz (vb a) (b8 (vb a) qf)))=([.cf 0, .ptr 1 0 [] 0, .ptr 2 0 [] 0, .ptr 3 0 [] 0], .ext (some xs)::Lh a.rel a.l (a.x.at a.rel) a.e):=by kernel_rfl
theorem Vi κ r args st K(h:aO P8 AE I6 args st K):(TO κ r).call 176 args st K:=h
theorem gGm κ r:jb (TO κ r) 12 176 (U7 r):=by
 rintro caps st K ⟨a,h1,hf,h5⟩;obtain⟨rfl,rfl⟩:=Prod.mk.inj (show(caps,st)=(qf,vb a) from h1);refine⟨EM (M0 a),fun items st'=>∃E1 E2:List dF,items=EM E2/\st'=ZQ a (E1.flatMap (uT a))/\E1++E2=M0 a,⟨oGm a,?_,?_,?_,?_⟩⟩
 ·refine Vi κ r _ _ _ ⟨⟨a.rel,a.l,a.x.at a.rel,a.e⟩,?_,hf.m,fun st' h=>h⟩
  rw[kGm];rfl
 ·rw[show(TO κ r).P=Pr κ from rfl,show(vb a).length=12 from rfl,sGm]
  exact⟨[],_,rfl,rfl,List.nil_append _⟩
 ·rintro us rest st' ⟨E1,E2,e1,rfl,e3⟩
  cases E2 with
  |nil=>cases e1
  | cons g E2=>
   obtain⟨hu,rfl⟩:=List.cons.inj e1;obtain rfl:=AV.aJ.inj hu;rw[show(TO κ r).P=Pr κ from rfl,show(vb a).length=12 from rfl,show(12:Nat) - 1=11 from rfl];have hi:=hf.i;have hx:=hf.x.n;have hn:=hf.n;have hr:=hf.r;rw[←e3,List.flatMap_append,List.flatMap_cons] at hn;simp only[ao7] at hn;have fin:=P6 a (E1.flatMap (uT a)) (uT a g) (fun st'=>∃F1 F2:List dF,EM E2=EM F2/\st'=ZQ a (F1.flatMap (uT a))/\F1++F2=M0 a) ⟨E1++[g],E2,rfl,by rw[List.flatMap_append,List.flatMap_cons,List.flatMap_nil,List.append_nil],by rw[←e3];simp⟩;have hw:=az (n:=(a.i:Int)+1) (by omega) (by omega);unfold ZQ;cases hE:(E1.flatMap (uT a)).isEmpty with
   | true=>
    rw[hE] at fin;refine Eq.mpr (rGm κ r a a.L g _ K) ⟨a.x.od.length - (a.i+1),by omega,⟨a.x,a.L,a.i+1,g⟩,?_,⟨⟨hf.x,hi,?_⟩,rfl⟩,fin⟩
    ·rw[hw];rfl
    ·show a.L.length+(uT a g).length<=100000000
     omega
   | false=>
    rw[hE] at fin;refine Eq.mpr (rGd κ r a (a.L++E1.flatMap (uT a)) g _ K) ⟨a.x.od.length - (a.i+1),by omega,⟨a.x,a.L++E1.flatMap (uT a),a.i+1,g⟩,?_,⟨⟨hf.x,hi,?_⟩,rfl⟩,fin⟩
    ·rw[hw];rfl
    ·show(a.L++E1.flatMap (uT a)).length+(uT a g).length<=100000000
     rw[ao7];omega
 ·rintro st' ⟨E1,E2,e1,rfl,e3⟩
  obtain rfl:E2=[]:=by cases E2 with|nil=>rfl|cons _ _=>cases e1
  rw[List.append_nil] at e3;rw[e3];unfold ZQ;unfold bp.all at h5;cases hE:((M0 a).flatMap (uT a)).isEmpty with
  |true=>rw[hE] at h5;exact h5
  |false=>rw[hE] at h5;exact h5
noncomputable def Tp κ r:=((TO κ r).addRange 98 20 176 (U7 r)).cO fun f=>iS f (176::LI)
theorem rGn κ r a g Q(K2:List Dn.Obj->Prop):(gu (vc (Tp κ r) 12) 11 [cK g] (K4 a (FP a .ready none)) (fun r st''=>match r with| .lit (.bool true)=>tidy (Pr κ).toProgram 12 st'' Q| .lit (.bool false)=>K2 st''|_=>False))=(
 K2 (K4 a (FP a LoopState.done (some Code.ret)))):=by kernel_rfl
def Vp:eH:=fun caps st K=>∃a,(caps,st)=(qf,uO a)/\Ei a.l (a.x.at a.rel)/\aq (M0 a).isEmpty (K (K4 a (FP a .ready none))) (K (K4 a (FP a .done (some .ret))))
theorem JZ:Vp.gw:=by
 rintro caps st K K' hK ⟨a,h1,h2,h3⟩;exact⟨a,h1,h2,He (hK _) (hK _) h3⟩
theorem oGn a:my (uO a) qf=true:=by kernel_rfl
theorem kGn a xs:(AV.cf 0::fP (iW (b8 (uO a) qf)) qf,Obj.ext (some xs)::gx (iW (b8 (uO a) qf)) (gz (uO a) (b8 (uO a) qf)))=([.cf 0, .ptr 1 0 [] 0, .ptr 2 0 [] 0, .ptr 3 0 [] 0], .ext (some xs)::Lh a.rel a.l (a.x.at a.rel) a.e):=by kernel_rfl
theorem Uv κ r args st K(h:aO P8 AE I6 args st K):(Tp κ r).call 176 args st K:=h
theorem gGn κ r:jb (Tp κ r) 12 176 Vp:=by
 rintro caps st K ⟨a,h1,hf,h5⟩;obtain⟨rfl,rfl⟩:=Prod.mk.inj (show(caps,st)=(qf,uO a) from h1);refine⟨EM (M0 a),fun items st'=>items=EM (M0 a)/\st'=K4 a (FP a .ready none),⟨oGn a,?_,?_,?_,?_⟩⟩
 ·refine Uv κ r _ _ _ ⟨⟨a.rel,a.l,a.x.at a.rel,a.e⟩,?_,hf,fun st' h=>h⟩
  rw[kGn];rfl
 ·rw[show(Tp κ r).P=Pr κ from rfl,show(uO a).length=12 from rfl,sGn]
  exact⟨rfl,rfl⟩
 ·rintro us rest st' ⟨e1,rfl⟩
  cases hM:M0 a with
  |nil=>rw[hM] at e1;cases e1
  |cons g E2=>
   rw[hM] at e1 h5;obtain⟨hu,rfl⟩:=List.cons.inj e1;obtain rfl:=AV.aJ.inj hu;rw[show(Tp κ r).P=Pr κ from rfl,show(uO a).length=12 from rfl,show(12:Nat) - 1=11 from rfl];exact Eq.mpr (rGn κ r a g _ K) h5
 ·rintro st' ⟨e1,rfl⟩
  cases hM:M0 a with
  |nil=>rw[hM] at h5;exact h5
  |cons g E2=>rw[hM] at e1;cases e1
noncomputable def EGm κ r:=((Tp κ r).addRange 98 0 176 Vp).cO fun f=>iS f (176::LI)
theorem eGm κ r(hp: ∀args st K,(∃m,m<r/\VB m args st K)->b6 (Pr κ) 98 args st K):aE (EGm κ r)/\aj (EGm κ r)/\(EGm κ r).P=Pr κ:=by
 have ok1:=(BGb κ).ok.fV hp;have mo1:aj (TO κ r):=(BGb _).mono.aw fun _ _ _ _ hK ⟨m,h1,h2⟩=>⟨m,h1,aH _ _ _ _ hK h2⟩
 have ok2:aE (Tp κ r):=(ok1.addRange mo1 (gGm _ r)).cO _;have mo2:aj (Tp κ r):=(mo1.addRange (KX r)).cO _;exact⟨(ok2.addRange mo2 (gGn _ r)).cO _,(mo2.addRange JZ).cO _,rfl⟩
theorem yGo(κ:Kp)(r:Nat)(a:bp) K:(a7 (EGm κ r) 12 98 [.ptr 0 0 [] 0, .int a.i,cK a.e] (dr a.x a.L) K)=(
 letI b:=IntKind.wrap IntKind.i64
 letI c:=AV.ptr 0 0 []
 letI d:=AV.int
 letI e:=AV.ptr
 letI f:=AV.bool
 letI g:=AV.lit
 letI h:=Obj.box
 letI i:=Obj.row
 letI j:=AV.aJ
 letI k:=AV.ah
 letI l:=AV.ak
 letI z:=Value.int IntKind.i64 (b ((↑(a.i):Int)+(1:Int)))
 letI G:=∃(e1:Nat),e1<r/\∃(e0:bp),([c 0,g z,cK a.e],dr a.x a.L)=gk e0/\(cy e0/\List.length e0.x.od - e0.i=e1)/\aq
  (List.isEmpty (bp.out e0)) (K (j []) (dr e0.x e0.L)) (K (j []) (n8 e0.x (e0.L++bp.out e0)))
 letI C:=AV.bm 141 [e 4 0 [] 0,e 5 0 [] 0]
 letI t:=af (bp.t a) 0
 letI n:=List.length a.x.od
 letI p:=u0 a.x (l 3 0 a.L.length)
 letI m:=af (bp.t a) 2
 letI A:=∃(e0:W8),([c 0,u5 (bp.rel a) (bp.l a)],dr a.x a.L)=zc e0/\ua e0
 letI q:=toInt t==(3:Int)
 letI u:=d (↑(a.i):Int)
 letI o:=af (bp.t a) 3
 letI H:=∃(e3:gD),([cK a.e,iX o],[])=dR e3/\bL (AT.tm e3.t)=true/\∃(e2:Ew),([cK a.e,AV.str (toStr (af m 1)),eZ (bK e3.e (AT.tm e3.t))],
  [])=qP e2/\True/\∃(e1:Nat),e1<r/\∃(e0:bp),([c 0,g z,cK (dF.put e2.e e2.s e2.v)],dr a.x a.L)=gk e0/\(cy e0/\List.length
  e0.x.od - e0.i=e1)/\aq (List.isEmpty (bp.out e0)) (K (j []) (dr e0.x e0.L)) (K (j []) (n8 e0.x (e0.L++bp.out e0)))
 letI v:=xI.at a.x (bp.rel a)
 letI s:=c 0
 letI I:=h 160 p=h 160 p/\h 158 s=h 158 s/\h 3 u=h 3 u/\h 80 (bp.lit a)=h 80 (bp.lit a)
  /\h 207 C=h 207 C/\True
 letI w:=K (j []) (dr a.x a.L)
 letI D:=∃(e4:gD),([cK a.e,iX m],[])=dR e4/\bL (AT.tm e4.t)=true/\∃(e3:gD),([cK a.e,iX o],[])=dR e3/\bL (AT.tm e3.t)=true/\∃(e2:
  Ci),([d (toInt t),eZ (bK e4.e (AT.tm e4.t)),eZ (bK e3.e (AT.tm e3.t))],[])=oH e2/\True/\aq (ic e2.op e2.x e2.y) G w
 letI E:=aq q (∃(e5:gD),([cK a.e,iX o],[])=rf e5/\True/\aq (eO e5.e e5.t) (∃(e3:gD),([cK a.e,iX m],[])=dR e3/\bL (AT.tm e3.t)=true
  /\∃(e2:Ew),([cK a.e,AV.str (toStr (af o 1)),eZ (bK e3.e (AT.tm e3.t))],[])=qP e2/\True/\∃(e1:Nat),e1<r/\∃(e0:bp),([c 0,
  g z,cK (dF.put e2.e e2.s e2.v)],dr a.x a.L)=gk e0/\(cy e0/\List.length e0.x.od - e0.i=e1)/\aq (List.isEmpty (bp.out e0)) (K (j []) (dr e0.x
  e0.L)) (K (j []) (n8 e0.x (e0.L++bp.out e0)))) D) D
 letI F:=aq q (∃(e6:gD),([cK a.e,iX m],[])=rf e6/\True/\aq (eO e6.e e6.t) H (aq q (∃(e5:gD),([cK a.e,iX o],[])=rf e5/\True/\aq
  (eO e5.e e5.t) (∃(e3:gD),([cK a.e,iX m],[])=dR e3/\bL (AT.tm e3.t)=true/\∃(e2:Ew),([cK a.e,g (Value.string (toStr (af o 1))),eZ (bK
  e3.e (AT.tm e3.t))],[])=qP e2/\True/\∃(e1:Nat),e1<r/\∃(e0:bp),([c 0,g z,cK (dF.put e2.e e2.s e2.v)],dr a.x a.L)=gk e0/\
  (cy e0/\List.length e0.x.od - e0.i=e1)/\aq (List.isEmpty (bp.out e0)) (K (j []) (dr e0.x e0.L)) (K (j []) (n8 e0.x (e0.L++bp.out e0)))) D) D))
  E
 letI x:=toInt t==(1:Int)
 letI B:=Pg.toProgram (Env.P (EB.E (CB κ)))
 aq ((↑(a.i):Int)==(↑n:Int)) (ad B 98 4=ad B 98 4/\∃(e0:AHr),sp 191 [(2,cK a.e),(3,e 4 0 [] 0),(6,l 5 0 0),(26,k 38 (dh.hl a.x.r)),(27,d (↑(List.length (dh.hl a.x.r)):Int)),(28,d 0)] [h 160 p,i 3 (ints a.x.od),i 51 a.x.ins,i 70 (rws a.L),h 158 s,i 72 []]=MS e0/\Nw e0/\aW (decide ((e0.L.length+1+1)*25<=70368744177664)) (K (j []) [h 160 (u0 e0.x (l 4 0 (e0.L.length+1))),i 3 (ints e0.x.od),i 51 e0.x.ins,Obj.dead,i 70 (List.take e0.L.length (rws e0.L)++[k 72 (List.take (List.length (ji (dh.hl e0.x.r) e0.e)) (List.drop 0 (ji (dh.hl e0.x.r) e0.e)))])])) (aW (true&&decide ((↑(a.i):Int)<(↑n:Int))) (aW (decide ((0:Int)<=toInt (bp.k a))&&decide (toInt (bp.k a)<(↑(List.length (dh.bl a.x.r)):Int))) (aq x (A/\I/\∃(e0:bp),([e 10 0 [] 0,e 8 0 [] 0,e 9 0 [] 0],[h 160 p,i 3 (ints a.x.od),i 51 a.x.ins,i 70 (rws a.L),h 158 s,h 3 u,h 80 (bp.lit a),h 207 C,h 162 (cK a.e),h 45 (u5 (bp.rel a) (bp.l a)),h 51 (k 70 v),Dn.Obj.loop (iO Tryz.prog 98 20 LoopState.ready none (ik (bO 191) [(0,c 0),(1,d (↑(a.i):Int)),(2,cK a.e),(3,e 4 0 [] 0),(4,e 5 0 [] 0),(9,e 6 0 [] 0),(10,e 7 0 [] 0),(14,d (↑(a.i):Int)),(15,c 0),(16,c 0),(17,e 0 0 [2] 6),(18,l 1 0 n),(19,d (↑n:Int)),(20,f false),(49,c 0),(50,c 0),(51,e 0 0 [1] 2),(52,e 0 0 [1,1] 4),(53,k 80 (dh.bl a.x.r)),(54,c 0),(55,c 0),(56,e 0 0 [2] 6),(57,l 1 0 n),(58,d (↑(a.i):Int)),(59,e 1 (bp.j a) [] 0),(60,d (toInt (bp.k a))),(61,AV.js 80 (bp.t a)),(62,bp.lit a),(63,AV.bm 141 [e 4 0 [] 0,e 5 0 [] 0]),(64,e 6 0 [0] 0),(65,d (toInt t)),(101,f true),(102,f x),(103,cK a.e),(104,e 6 0 [1] 1),(105,u5 (bp.rel a) (bp.l a)),(106,c 0),(107,e 6 0 [1] 1),(108,u5 (bp.rel a) (bp.l a)),(109,k 70 v),(110,AV.bm 176 [e 10 0 [] 0,e 8 0 [] 0,e 9 0 [] 0])]))])=([e 10 0 [] 0,e 8 0 [] 0,e 9 0 [] 0],vb e0)/\Mv e0 r/\aq (List.isEmpty (bp.all e0)) (K (j []) (dr e0.x e0.L)) (K (j []) (n8 e0.x (e0.L++bp.all e0)))) (aq (toInt t==(2:Int)) (A/\I/\∃(e2:bp),([e 10 0 [] 0,e 8 0 [] 0,e 9 0 [] 0],[h 160 p,i 3 (ints a.x.od),i 51 a.x.ins,i 70 (rws a.L),h 158 s,h 3 u,h 80 (bp.lit a),h 207 C,h 162 (cK a.e),h 45 (u5 (bp.rel a) (bp.l a)),h 51 (k 70 v),Dn.Obj.loop {state:=LoopState.ready,pending:=none,fn:=98,bB:=ik (bO 191) [(0,c 0),(1,d (↑(a.i):Int)),(2,cK a.e),(3,e 4 0 [] 0),(4,e 5 0 [] 0),(9,e 6 0 [] 0),(10,e 7 0 [] 0),(14,d (↑(a.i):Int)),(15,c 0),(16,c 0),(17,e 0 0 [2] 6),(18,l 1 0 n),(19,d (↑n:Int)),(20,f false),(49,c 0),(50,c 0),(51,e 0 0 [1] 2),(52,e 0 0 [1,1] 4),(53,k 80 (dh.bl a.x.r)),(54,c 0),(55,c 0),(56,e 0 0 [2] 6),(57,l 1 0 n),(58,d (↑(a.i):Int)),(59,e 1 (bp.j a) [] 0),(60,d (toInt (bp.k a))),(61,AV.js 80 (bp.t a)),(62,bp.lit a),(63,AV.bm 141 [e 4 0 [] 0,e 5 0 [] 0]),(64,e 6 0 [0] 0),(65,d (toInt t)),(101,f false),(102,f x),(115,f true),(116,f (toInt t==(2:Int))),(117,cK a.e),(118,e 6 0 [1] 1),(119,u5 (bp.rel a) (bp.l a)),(120,c 0),(121,e 6 0 [1] 1),(122,u5 (bp.rel a) (bp.l a)),(123,k 70 v),(124,AV.bm 176 [e 10 0 [] 0,e 8 0 [] 0,e 9 0 [] 0])],params:={toList:=[125]},assign:=Code.skip,body:=Code.block 7 Code.ret}])=([e 10 0 [] 0,e 8 0 [] 0,e 9 0 [] 0],uO e2)/\Ei (bp.l e2) (xI.at e2.x (bp.rel e2))/\aq (List.isEmpty (M0 e2)) (∃(e1:Nat),e1<r/\∃(e0:bp),([c 0,g (Value.int IntKind.i64 (b ((↑(e2.i):Int)+(1:Int)))),cK a.e],dr e2.x e2.L)=gk e0/\(cy e0/\List.length e0.x.od - e0.i=e1)/\aq (List.isEmpty (bp.out e0)) (K (j []) (dr e0.x e0.L)) (K (j []) (n8 e0.x (e0.L++bp.out e0)))) (K (j []) (dr e2.x e2.L))) (aq q (aq q (∃(e6:gD),([cK a.e,iX m],[])=rf e6/\True/\aq (eO e6.e e6.t) H E) E) (aq (toInt t==(4:Int)) F (aq (toInt t==(5:Int)) F (aq (toInt t==(6:Int)) F (∃(e4:oe),letI y:=iA (oe.fJ e4);([c 0,bp.lit a,cK a.e],dr a.x a.L)=Qf e4/\Ht e4/\aq (!oS e4.op y) w (∃(e3:gD),([cK a.e,iX m],[])=rf e3/\True/\aq (eO e3.e e3.t) (∃(e2:Ew),([cK a.e,AV.str (toStr (af m 1)),AV.agg [f false,d (nU e4.op y),AV.str {data:= #[]}]],[])=qP e2/\True/\∃(e1:Nat),e1<r/\∃(e0:bp),([c 0,g z,cK (dF.put e2.e e2.s e2.v)],dr a.x a.L)=gk e0/\(cy e0/\List.length e0.x.od - e0.i=e1)/\aq (List.isEmpty (bp.out e0)) (K (j []) (dr e0.x e0.L)) (K (j []) (n8 e0.x (e0.L++bp.out e0)))) (∃(e2:gD),([cK a.e,iX m],[])=dR e2/\bL (AT.tm e2.t)=true/\aq (eI.n (bK e2.e (AT.tm e2.t))==nU e4.op y) G w)))))))))))):=by kernel_rfl
end Go.Proofs.YtioeffnadipbaaaGreatDoor
