import Derived.Test.YtioeffnadipbaaaGreatDoorDePC
namespace Go.Proofs.YtioeffnadipbaaaGreatDoor
open Go Go.Dn Go.Rl Go.Proofs Go.Shelf
attribute [local irreducible] a0 vc
set_option maxRecDepth 20000
def FF:Go.Shelf.Ren:=⟨fun|5=>177|7=>165|n=>n,fun|23=>162|25=>9|3=>72|4=>4|20=>20|n=>n,fun n=>n⟩
theorem VV:SlLaysW.n5 Tryz.prog FF:={mixed:=by rfl,f5:=⟨ "maps.Clone[sorites/model.env,string,sorites/api.Val]",by rfl,Tryz.func177.trans (congrArg _ (by rfl))⟩,f7:=Tryz.func165.trans (congrArg _ (by rfl)),t4:=Tryz.underlying4,a4:=Tryz.isAgg4,z4:=Tryz.sizeOf4,v4:=Tryz.zeroValue4,t20:=Tryz.underlying20,a20:=Tryz.isAgg20,z20:=Tryz.sizeOf20,v20:=Tryz.zeroValue20,t23:=Tryz.underlying162,a23:=Tryz.isAgg162,z23:=Tryz.sizeOf162,v23:=Tryz.zeroValue162}
theorem Ws κ: ∀a st K,r9 (Pr κ).toProgram a st K->b7 (Pr κ) 177 a st K:=fun _ _ _ h=>JG   rfl ⟨_,Tryz.func177,rfl⟩ VV h
noncomputable def Uy κ:=(ag7 κ).Xy Fe (Ws _)
theorem ar0 κ ks vs s v K:(a0 (Uy κ).E 12 145 [.eO 9 72 ks vs, .lit (.string s),e6 v] [] K)=(
 K (AV.eO 9 72 (List.map (fun(x:Value×AV)=>x.1) (eE (List.zip ks vs) (Value.string s) (AV.agg [AV.bool v.y,AV.int v.n,AV.str v.s]))) (List.map (fun(x
 :Value×AV)=>x.2) (eE (List.zip ks vs) (Value.string s) (AV.agg [AV.bool v.y,AV.int v.n,AV.str v.s])))) []):=by kernel_rfl
theorem ah9 κ:bc (Uy κ).E 12 145 (aO qO (fun _=>True) aa8):=by
 refine aR ?_;rintro⟨e,s,v⟩ K _ a;refine Eq.mpr (ar0 _ _ _ s v K) ?_;rw[P4,PV,List.map_map,List.map_map];exact a
noncomputable def Qk κ:=((Uy κ).call (ah9 _)).calm [145,140,144]
noncomputable def L7 κ r:=(Qk κ).E.aw 140 fun a st K=>∃m,m<r/\Wy m a st K
theorem aq9 κ r ks vs t K:(a0 (L7 κ r) 12 140 [.eO 9 72 ks vs,dn t] [] K)=(
 letI a:=IntKind.wrap IntKind.i64
 letI b:=AV.int
 letI c:=AV.agg
 letI d:=AV.bool
 letI e:=AV.str
 letI f:=AV.lit
 letI k:=c6 (List.zip ks vs) (Value.string t.s) (c [d false,b 0,e {data:= #[]}])
 letI l:=true&&decide ((1:Int)<(↑(t.l.length):Int))
 letI m:=toInt (ag (nth t.l 0) 0)
 letI n:=toStr (ag (nth t.l 0) 1)
 letI o:=toInt (ag (nth t.l 0) 2)
 letI p:=toInt (ag (nth t.l 1) 0)
 letI q:=toStr (ag (nth t.l 1) 1)
 letI s:=toInt (ag (nth t.l 1) 2)
 aq (t.op==(1:Int)) (K (c [f (Value.bool (Dn.toBool (ag k 0))),f (Value.int IntKind.i64 (toInt (ag k 1))),f (Value.string (toStr (ag (c6 (List.zip ks vs) (Value.string t.s) (c [d false,b 0,e {data:= #[]}])) 2)))]) []) (aq (t.op==(2:Int)) (K (c [d false,b t.n,e {data:= #[]}]) []) (aq (t.op==(3:Int)) (K (c [d true,b 0,e t.s]) []) (aV (true&&decide ((0:Int)<(↑(t.l.length):Int))) ((∃(e3:Nat),e3<r/\∃(e2:gy),letI j:=bK e2.e (AT.tm e2.t);([AV.eO 9 72 ks vs,c [b m,e n,b o,AV.ah 38 (af (ag (nth t.l 0) 3))]],[])=dS e2/\qK e3 e2/\aV l (∃(e1:Nat),e1<r/\∃(e0:gy),letI g:=bK e0.e (AT.tm e0.t);([AV.eO 9 72 ks vs,c [b p,e q,b s,AV.ah 38 (af (ag (nth t.l 1) 3))]],[])=dS e0/\qK e1 e0/\aq (t.op==(5:Int)) (K (c [d false,f (Value.int IntKind.i64 (a (eU.n j+eU.n g))),e {data:= #[]}]) []) (aq (t.op==(6:Int)) (K (c [d false,f (Value.int IntKind.i64 (a (eU.n j - eU.n g))),e {data:= #[]}]) []) (K (c [d false,f (Value.int IntKind.i64 (a (eU.n j*eU.n g))),e {data:= #[]}]) []))))/\aV l (∃(e3:Nat),e3<r/\∃(e2:gy),letI h:=bK e2.e (AT.tm e2.t);([AV.eO 9 72 ks vs,c [b m,e n,b o,AV.ah 38 (af (ag (nth t.l 0) 3))]],[])=dS e2/\qK e3 e2/\∃(e1:Nat),e1<r/\∃(e0:gy),letI i:=bK e0.e (AT.tm e0.t);([AV.eO 9 72 ks vs,c [b p,e q,b s,AV.ah 38 (af (ag (nth t.l 1) 3))]],[])=dS e0/\qK e1 e0/\aq (t.op==(5:Int)) (K (c [d false,f (Value.int IntKind.i64 (a (eU.n h+eU.n i))),e {data:= #[]}]) []) (aq (t.op==(6:Int)) (K (c [d false,f (Value.int IntKind.i64 (a (eU.n h - eU.n i))),e {data:= #[]}]) []) (K (c [d false,f (Value.int IntKind.i64 (a (eU.n h*eU.n i))),e {data:= #[]}]) [])))))))):=by kernel_rfl
theorem al3 κ r(d: ∀a st K,(∃m,m<r/\Wy m a st K)->b7 (Pr κ) 140 a st K):aE (L7 κ r)/\aj (L7 κ r)/\(L7 κ r).P=Pr κ:=
 ⟨(Qk _).ok.fK d,(Qk _).mono.aw fun _ _ _ _ c ⟨m,e,b⟩=>⟨m,e,aI _ _ _ _ c b⟩,rfl⟩
theorem ah8 κ r:bc (L7 κ r) 12 140 (Wy r):=by
 refine aR ?_;rintro⟨e,t⟩ K ⟨v,x⟩ c;simp only at v x
 replace c:K (e6 (bK e t.tm)) []:=c
 refine Eq.mpr (aq9 κ r _ _ t K) ?_;rw[P4,show(AV.agg [.bool false, .int 0, .lit (.string (ByteArray.mk #[]))])=e6 ⟨false,0,ByteArray.mk #[]⟩ from rfl,MQ];have p:bK e t.tm=bif t.op==1 then e.get t.s else bif t.op==2 then⟨false,t.n,ByteArray.mk #[]⟩ else bif t.op==3 then⟨true,0,t.s⟩ else bK e t.tm:=by
  cases d:t.op==1 with
  |true=>rw[AT.tm,bK,d];rfl
  | false=>cases f:t.op==2 with
   |true=>rw[AT.tm,bK,d,f];rfl
   |false=>cases g:t.op==3 with
    |true=>rw[AT.tm,bK,d,f,g];rfl
    |false=>rfl
 refine ae.2 ⟨fun d=>?_,fun d=>ae.2 ⟨fun f=>?_,fun f=>ae.2 ⟨fun g=>?_,fun g=>?_⟩⟩⟩
 ·rw[p,d] at c;exact c
 ·rw[p,d,f] at c;exact c
 ·rw[p,d,f,g] at c;exact c
 ·obtain⟨a,b,y,C,A⟩:=MY d f g x
  obtain⟨i,s,n,l⟩:=t;simp only at y d f g;subst y;rw[PX e i s n a b d f g] at c;have z:(AT.mk i s n [a,b]).tm.mL=1+((cI a).mL+((cI b).mL+0)):=by
   simp only[AT.tm,aa,at3,List.map_nil,Tm.mL,bk]
  rw[z] at v;have w: ∀m,(cI a).mL=m->qK m ⟨e,eG a⟩:=fun m o=>⟨by rw[←o];simp only[iB],by simp only[iB];exact C⟩
  have q: ∀m,(cI b).mL=m->qK m ⟨e,eG b⟩:=fun m o=>⟨by rw[←o];simp only[iB],by simp only[iB];exact A⟩
  have B:(true&&decide (0<(([a,b]:List AV).length:Int)))=true:=by simp
  have u:(true&&decide (1<(([a,b]:List AV).length:Int)))=true:=by simp
  have h:aq (i==5) (K (e6 ⟨false,IntKind.wrap .i64 ((bK e (eG a).tm).n+(bK e (eG b).tm).n),ByteArray.mk #[]⟩) []) (aq (i==6) (K (e6 ⟨false,IntKind.wrap .i64 ((bK e (eG a).tm).n - (bK e (eG b).tm).n),ByteArray.mk #[]⟩) []) (K (e6 ⟨false,IntKind.wrap .i64 ((bK e (eG a).tm).n*(bK e (eG b).tm).n),ByteArray.mk #[]⟩) [])):=
   ae.2 ⟨fun j=>by rw[j] at c;exact c,fun j=>ae.2 ⟨fun k=>by rw[j,k] at c;exact c,fun k=>by rw[j,k] at c;exact c⟩⟩
  exact ai.2 ⟨B,⟨(cI a).mL,by omega,⟨e,eG a⟩,rfl,w _ rfl,ai.2 ⟨u,(cI b).mL,by omega,⟨e,eG b⟩,rfl,q _ rfl,h⟩⟩,ai.2 ⟨u,(cI a).mL,by omega,⟨e,eG a⟩,rfl,w _ rfl,(cI b).mL,by omega,⟨e,eG b⟩,rfl,q _ rfl,h⟩⟩
theorem an9 κ: ∀a st K,aO dS (fun x=>bL x.t.tm=true) TS a st K->b7 (Pr κ) 140 a st K:=by
 rintro a st K ⟨x,c,d,b⟩;exact aE.pj _ _ (al3 _) (ah8 _) _ _ _ K ⟨x,c,⟨rfl,d⟩,b⟩
noncomputable def Vd κ:=(Qk κ).Xy aI (an9 _)
theorem yFr κ ks vs t K:(a0 (Vd κ).E 12 144 [.eO 9 72 ks vs,dn t] [] K)=(
 aq (t.op==(1:Int)) (K (AV.lit (Value.bool !oz (List.zip ks vs) (Value.string t.s))) []) (K (AV.bool false) [])):=by kernel_rfl
def dG.has:dG->ByteArray->Bool
 |[],_=>false
 |(t,_)::e,s=>bif decide (s=t) then true else dG.has e s
theorem MZ s: ∀e,oz (prE e) (.string s)=e.has s
 |[]=>rfl
 |(t,w)::e=>by
  have a:=MZ s e
  grind [oz,VU,dG.has]
def eP(e:dG)(t:AT):=t.op==1&& !e.has t.s
def qN(x:gy):List AV×List Dn.Obj:=([cP x.e,dn x.t],[])
def ZK(x:gy):Out (AV×List Dn.Obj):= .one (.bool (eP x.e x.t),[])
theorem cFr κ:bc (Vd κ).E 12 144 (aO qN (fun _=>True) ZK):=by
 refine aR ?_;rintro⟨e,t⟩ K _ a
 replace a:K _ []:=a
 refine Eq.mpr (yFr _ _ _ t K) ?_
 grind [MZ,eP,ae]
noncomputable def BFr κ:=(Vd κ).call (cFr _)
theorem yHm κ op x y K:(a0 (BFr κ).E 12 146 [.int op,e6 x,e6 y] [] K)=(
 letI a:=AV.int
 letI b:=AV.agg
 letI c:=AV.bool
 letI d:=AV.str
 aq (op==(3:Int)) (K (c (bz [b [c x.y,a x.n,d x.s]] [b [c y.y,a y.n,d y.s]]==(0:Int))) []) (aq (op==
 (4:Int)) (K (c (bz [b [c x.y,a x.n,d x.s]] [b [c y.y,a y.n,d y.s]] != (0:Int))) []) (aq (op==(5:
 Int)) (K (c (decide (bz [b [c x.y,a x.n,d x.s]] [b [c y.y,a y.n,d y.s]]<(0:Int)))) []) (K (c
 (decide (bz [b [c x.y,a x.n,d x.s]] [b [c y.y,a y.n,d y.s]]<=(0:Int)))) [])))):=by kernel_rfl
def gU(a:Int) x y:=bif a==3 then bz [e6 x] [e6 y]==0 else bif a==4 then bz [e6 x] [e6 y] != 0 else bif a==5 then decide (bz [e6 x] [e6 y]<0) else decide (bz [e6 x] [e6 y]<=0)
structure B9 where
 op:Int
 x:eU
 y:eU
def o3(a:B9):List AV×List Dn.Obj:=([.int a.op,e6 a.x,e6 a.y],[])
def ZM(a:B9):Out (AV×List Dn.Obj):= .one (.bool (gU a.op a.x a.y),[])
theorem cHm κ:bc (BFr κ).E 12 146 (aO o3 (fun _=>True) ZM):=by
 refine aR ?_;rintro⟨b,x,y⟩ K _ a
 replace a:K _ _:=a
 refine Eq.mpr (yHm _ _ x y K) ?_
 grind [gU,ae]
noncomputable def UI κ:=((BFr κ).call (cHm _)).calm [146]
end Go.Proofs.YtioeffnadipbaaaGreatDoor
namespace Go.Proofs.YtioeffnadipbaaaGreatDoor
open Go Go.Dn Go.Rl Go.Proofs
attribute [local irreducible] a0 vc
set_option maxRecDepth 20000
abbrev Lu(b:ByteArray)(l a:List AV)(e:dG):List Dn.Obj:=[.box 51 (.ah 70 a), .box 162 (cP e), .box 45 (.agg [.lit (.string b), .ah 38 l])]
structure XI where
 rel:ByteArray
 l:List AV
 rows:List AV
 xs:List AV
 e:dG
 i:Nat
 row:List AV
 g:dG
 j:Nat
abbrev G0(x:XI):=sp 56 [(0, .cf 0),(2, .ptr 2 0 [] 0),(3, .ptr 3 0 [] 0),(6, .ah 72 x.row),(7,cP x.g),(10, .ah 70 x.rows),(11, .int x.rows.length),(12, .int x.i),(18, .ah 38 x.l),(19, .int x.l.length),(20, .int x.j)] (.ext (some x.xs)::Lu x.rel x.l x.rows x.e)
theorem xMi(κ:Kp)(x:XI) I(N:Nat) K:(vc (UI κ).E 12 176 none 4 (ad (Pr κ).toProgram 176 5) (G0 x) (bj (UI κ).E 176 5 4 I N K))=(
 letI a:=AV.int
 letI b:=AV.ptr
 letI c:=AV.agg
 letI d:=AV.bool
 letI e:=AV.str
 letI f:=Obj.box
 letI g:=Obj.ext
 letI h:=AV.ah
 letI i:=AV.cf
 letI j:=AV.eO
 letI B:=Int.toNat (↑(x.j):Int)
 letI l:=c [e x.rel,h 38 x.l]
 letI z:=IntKind.wrap IntKind.i64 ((↑(x.j):Int)+(1:Int))
 letI A:=true&&decide ((↑(x.j):Int)<(↑(x.row.length):Int))
 letI v:=nth x.l B
 letI m:=nth x.row B
 letI n:=h 70 x.rows
 letI o:=x.rows.length
 letI w:=x.l.length
 letI k:=toStr (ag v 1)
 letI y:=(↑(x.j):Int)<(↑w:Int)
 letI p:=toInt (ag v 0)
 letI q:=toInt (ag v 2)
 letI r:=toStr (ag m 2)
 letI s:=af (ag v 3)
 aq (decide y) (aV (true&&decide y) (aq (toInt (ag v 0)==(4:Int)) (∃(e1:Nat),e1<N/\I e1 (sp 56 [(0,i 0),(2,b 2 0 [] 0),(3,b 3 0 [] 0),(6,h 72 x.row),(7,j 9 72 (List.map (fun(e0:ByteArray×eU)=>Value.string e0.1) x.g) (List.map (fun(e0:ByteArray×eU)=>c [d e0.2.y,a e0.2.n,e e0.2.s]) x.g)),(10,h 70 x.rows),(11,a (↑o:Int)),(12,a (↑(x.i):Int)),(18,h 38 x.l),(19,a (↑w:Int)),(20,a z)] [g (some x.xs),f 51 n,f 162 (j 9 72 (List.map (fun(e0:ByteArray×eU)=>Value.string e0.1) x.e) (List.map (fun(e0:ByteArray×eU)=>c [d e0.2.y,a e0.2.n,e e0.2.s]) x.e)),f 45 l])) (∃(e3:gy),([j 9 72 (List.map (fun(e0:ByteArray×eU)=>Value.string e0.1) x.g) (List.map (fun(e0:ByteArray×eU)=>c [d e0.2.y,a e0.2.n,e e0.2.s]) x.g),c [a p,e k,a q,h 38 s]],[])=qN e3/\True/\aq (eP e3.e e3.t) (aV A (∃(e2:Ev),([j 9 72 (List.map (fun(e0:ByteArray×eU)=>Value.string e0.1) x.g) (List.map (fun(e0:ByteArray×eU)=>c [d e0.2.y,a e0.2.n,e e0.2.s]) x.g),e k,c [d (Dn.toBool (ag m 0)),a (toInt (ag m 1)),e r]],[])=qO e2/\True/\∃(e1:Nat),e1<N/\I e1 (sp 56 [(0,i 0),(2,b 2 0 [] 0),(3,b 3 0 [] 0),(6,h 72 x.row),(7,j 9 72 (List.map (fun(e0:ByteArray×eU)=>Value.string e0.1) (dG.put e2.e e2.s e2.v)) (List.map (fun(e0:ByteArray×eU)=>c [d e0.2.y,a e0.2.n,e e0.2.s]) (dG.put e2.e e2.s e2.v))),(10,h 70 x.rows),(11,a (↑o:Int)),(12,a (↑(x.i):Int)),(18,h 38 x.l),(19,a (↑w:Int)),(20,a z)] [g (some x.xs),f 51 n,f 162 (j 9 72 (List.map (fun(e0:ByteArray×eU)=>Value.string e0.1) x.e) (List.map (fun(e0:ByteArray×eU)=>c [d e0.2.y,a e0.2.n,e e0.2.s]) x.e)),f 45 l]))) ((∃(e2:gy),letI t:=bK e2.e (AT.tm e2.t);([j 9 72 (List.map (fun(e0:ByteArray×eU)=>Value.string e0.1) x.g) (List.map (fun(e0:ByteArray×eU)=>c [d e0.2.y,a e0.2.n,e e0.2.s]) x.g),c [a p,e k,a q,h 38 s]],[])=dS e2/\bL (AT.tm e2.t)=true/\aV A (aq (!(eU.y t==Dn.toBool (ag m 0)&&(eU.n t==toInt (ag m 1)&&(ByteArray.toList (eU.s t)==ByteArray.toList r&&true)))) (K (Exit.exit 1) (sp 56 [(0,i 0),(2,b 2 0 [] 0),(3,b 3 0 [] 0),(10,h 70 x.rows),(11,a (↑o:Int)),(12,a (↑(x.i):Int))] [g (some x.xs),f 51 n,f 162 (j 9 72 (List.map (fun(e0:ByteArray×eU)=>Value.string e0.1) x.e) (List.map (fun(e0:ByteArray×eU)=>c [d e0.2.y,a e0.2.n,e e0.2.s]) x.e)),f 45 l])) (∃(e1:Nat),e1<N/\I e1 (sp 56 [(0,i 0),(2,b 2 0 [] 0),(3,b 3 0 [] 0),(6,h 72 x.row),(7,j 9 72 (List.map (fun(e0:ByteArray×eU)=>Value.string e0.1) x.g) (List.map (fun(e0:ByteArray×eU)=>c [d e0.2.y,a e0.2.n,e e0.2.s]) x.g)),(10,h 70 x.rows),(11,a (↑o:Int)),(12,a (↑(x.i):Int)),(18,h 38 x.l),(19,a (↑w:Int)),(20,a z)] [g (some x.xs),f 51 n,f 162 (j 9 72 (List.map (fun(e0:ByteArray×eU)=>Value.string e0.1) x.e) (List.map (fun(e0:ByteArray×eU)=>c [d e0.2.y,a e0.2.n,e e0.2.s]) x.e)),f 45 l]))))/\aV A (∃(e2:gy),letI u:=bK e2.e (AT.tm e2.t);([j 9 72 (List.map (fun(e0:ByteArray×eU)=>Value.string e0.1) x.g) (List.map (fun(e0:ByteArray×eU)=>c [d e0.2.y,a e0.2.n,e e0.2.s]) x.g),c [a p,e k,a q,h 38 s]],[])=dS e2/\bL (AT.tm e2.t)=true/\aq (!(eU.y u==Dn.toBool (ag m 0)&&(eU.n u==toInt (ag m 1)&&(ByteArray.toList (eU.s u)==ByteArray.toList r&&true)))) (K (Exit.exit 1) (sp 56 [(0,i 0),(2,b 2 0 [] 0),(3,b 3 0 [] 0),(10,h 70 x.rows),(11,a (↑o:Int)),(12,a (↑(x.i):Int))] [g (some x.xs),f 51 n,f 162 (j 9 72 (List.map (fun(e0:ByteArray×eU)=>Value.string e0.1) x.e) (List.map (fun(e0:ByteArray×eU)=>c [d e0.2.y,a e0.2.n,e e0.2.s]) x.e)),f 45 l])) (∃(e1:Nat),e1<N/\I e1 (sp 56 [(0,i 0),(2,b 2 0 [] 0),(3,b 3 0 [] 0),(6,h 72 x.row),(7,j 9 72 (List.map (fun(e0:ByteArray×eU)=>Value.string e0.1) x.g) (List.map (fun(e0:ByteArray×eU)=>c [d e0.2.y,a e0.2.n,e e0.2.s]) x.g)),(10,h 70 x.rows),(11,a (↑o:Int)),(12,a (↑(x.i):Int)),(18,h 38 x.l),(19,a (↑w:Int)),(20,a z)] [g (some x.xs),f 51 n,f 162 (j 9 72 (List.map (fun(e0:ByteArray×eU)=>Value.string e0.1) x.e) (List.map (fun(e0:ByteArray×eU)=>c [d e0.2.y,a e0.2.n,e e0.2.s]) x.e)),f 45 l]))))))) (K (Exit.exit 2) (sp 56 [(0,i 0),(2,b 2 0 [] 0),(3,b 3 0 [] 0),(7,j 9 72 (List.map (fun(e0:ByteArray×eU)=>Value.string e0.1) x.g) (List.map (fun(e0:ByteArray×eU)=>c [d e0.2.y,a e0.2.n,e e0.2.s]) x.g)),(10,h 70 x.rows),(11,a (↑o:Int)),(12,a (↑(x.i):Int))] [g (some x.xs),f 51 n,f 162 (j 9 72 (List.map (fun(e0:ByteArray×eU)=>Value.string e0.1) x.e) (List.map (fun(e0:ByteArray×eU)=>c [d e0.2.y,a e0.2.n,e e0.2.s]) x.e)),f 45 l]))):=by kernel_rfl
def Gu(a:eU) v:=a.y==toBool (ag v 0)&&(a.n==toInt (ag v 1)&&(a.s.toList==(toStr (ag v 2)).toList&&true))
def nQ(a:List AV):List AV->Nat->dG->Option dG
 |[],_,g=>some g
 |t::b,j,g=>bif toInt (ag t 0)==4 then nQ a b (j+1) g
  else bif eP g (eG t) then nQ a b (j+1) (g.put (eG t).s ⟨toBool (ag (nth a j) 0),toInt (ag (nth a j) 1),toStr (ag (nth a j) 2)⟩)
  else bif !Gu (bK g (eG t).tm) (nth a j) then none else nQ a b (j+1) g
def fZ(l:List _):=∀t,t∈l->toInt (ag t 0)≠4->bL (eG t).tm=true
def BM(x:XI):=x.j<=x.l.length/\x.l.length<=100000/\x.row.length=x.l.length/\fZ x.l
def rN(x:XI):Out (Exit×S):= .aq (nQ x.row (x.l.drop x.j) x.j x.g).isSome
 (.one (.exit 2,sp 56 [(0, .cf 0),(2, .ptr 2 0 [] 0),(3, .ptr 3 0 [] 0),(7,cP ((nQ x.row (x.l.drop x.j) x.j x.g).getD [])),(10, .ah 70 x.rows),(11, .int x.rows.length),(12, .int x.i)] (.ext (some x.xs)::Lu x.rel x.l x.rows x.e)))
 (.one (.exit 1,sp 56 [(0, .cf 0),(2, .ptr 2 0 [] 0),(3, .ptr 3 0 [] 0),(10, .ah 70 x.rows),(11, .int x.rows.length),(12, .int x.i)] (.ext (some x.xs)::Lu x.rel x.l x.rows x.e)))
theorem lMi κ:aU (UI κ).E 12 176 5 (aG 4 G0 BM rN):=by
 refine aC (fun x=>x.l.length - x.j) ?_;rintro⟨d,l,a,xs,e,i,b,g,j⟩ K ⟨B,z,A,q⟩ c;simp only at B z A q;rw[show(UI κ).E.P=Pr κ from rfl];refine Eq.mpr (xMi κ ⟨d,l,a,xs,e,i,b,g,j⟩ _ _ K) ?_;simp only[Int.toNat_natCast];rw[ae,ar4,ar6];refine⟨fun h=>?_,fun h=>?_⟩
 ·have o:j<l.length:=by omega
  have hd:l.drop j=nth l j::l.drop (j+1):=by rw[as5 o,←aM l j o]
  have v:nth l j∈l:=by rw[aM l j o];exact List.getElem_mem _
  have C:(true&&decide ((j:Int)<(l.length:Int)))=true:=by simp;omega
  have u:(true&&decide ((j:Int)<(b.length:Int)))=true:=by simp;omega
  have f: ∀p,((rN ⟨d,l,a,xs,e,i,b,p,j+1⟩).run fun y=>K y.1 y.2)->∃m,m<l.length - j/\ep G0 BM rN (fun x=>x.l.length - x.j) K m (G0 ⟨d,l,a,xs,e,i,b,p,j+1⟩):=fun p F=>
   ⟨_,by simp only;omega,⟨d,l,a,xs,e,i,b,p,j+1⟩,rfl,⟨o,z,A,q⟩,rfl,F⟩
  have D:IntKind.wrap .i64 ((j:Int)+1)=((j+1:Nat):Int):=by rw[az (by omega) (by omega)];omega
  rw[D];refine ai.2 ⟨C,ae.2 ⟨fun k=>f g ?_,fun k=>⟨⟨g,eG (nth l j)⟩,rfl,trivial,?_⟩⟩⟩
  ·unfold rN at c⊢
   simp only[hd,nQ] at c;rw[k] at c;exact c
  ·simp only
   have w:toInt (ag (nth l j) 0)≠4:=by simpa using k
   refine ae.2 ⟨fun t=>ai.2 ⟨u,⟨g,(eG (nth l j)).s,⟨toBool (ag (nth b j) 0),toInt (ag (nth b j) 1),toStr (ag (nth b j) 2)⟩⟩,rfl,trivial,f _ ?_⟩,fun t=>?_⟩
   ·unfold rN at c⊢
    simp only[hd,nQ] at c;rw[k,t] at c;exact c
   ·have n:aq (!Gu (bK g (eG (nth l j)).tm) (nth b j)) (K (.exit 1) (sp 56 [(0, .cf 0),(2, .ptr 2 0 [] 0),(3, .ptr 3 0 [] 0),(10, .ah 70 a),(11, .int a.length),(12, .int i)] (.ext (some xs)::Lu d l a e))) (∃m,m<l.length - j/\ep G0 BM rN (fun x=>x.l.length - x.j) K m (G0 ⟨d,l,a,xs,e,i,b,g,j+1⟩)):=by
     unfold rN at c;simp only[hd,nQ] at c;rw[k,t] at c;refine ae.2 ⟨fun r=>?_,fun r=>f g ?_⟩
     ·rw[r] at c;exact c
     ·rw[r] at c;exact c
    exact⟨⟨⟨g,eG (nth l j)⟩,rfl,q _ v w,ai.2 ⟨u,n⟩⟩,ai.2 ⟨u,⟨g,eG (nth l j)⟩,rfl,q _ v w,n⟩⟩
 ·rw[show rN ⟨d,l,a,xs,e,i,b,g,j⟩=_ from rfl] at c
  unfold rN at c;simp only at c;rw[as2 (by omega)] at c;exact c
noncomputable def UR κ:=(UI κ).loop (lMi _)
structure XJ where
 rel:ByteArray
 l:List AV
 rows:List AV
 xs:List AV
 e:dG
 i:Nat
abbrev PJ(x:XJ):=sp 56 [(0, .cf 0),(2, .ptr 2 0 [] 0),(3, .ptr 3 0 [] 0),(10, .ah 70 x.rows),(11, .int x.rows.length),(12, .int x.i)] (.ext (some x.xs)::Lu x.rel x.l x.rows x.e)
theorem xMr(κ:Kp)(x:XJ)(I:Nat->S->Prop)(N:Nat)(K:Exit->S->Prop):(vc (UR κ).E 12 176 none 4 (ad (Pr κ).toProgram 176 1) (PJ x) (bj (UR κ).E 176 1 4 I N K))=(
 letI b:=AV.int
 letI c:=AV.agg
 letI d:=AV.bool
 letI e:=AV.str
 letI f:=Obj.box
 letI g:=Obj.ext
 letI h:=AV.ah
 letI i:=AV.eO
 aq (decide ((↑(x.i):Int)<(↑(x.rows.length):Int))) (aV (true&&decide ((↑(x.i):Int)<(↑(x.rows.length):Int))) (ad (Pg.toProgram (Env.P (EB.E (UI κ)))) 176 5=ad (Pg.toProgram (Env.P (EB.E (UI κ)))) 176 5/\∃(a:XI),letI n:=[(0,AV.cf 0),(2,AV.ptr 2 0 [] 0),(3,AV.ptr 3 0 [] 0),(10,h 70 a.rows),(11,b (↑(a.rows.length):Int)),(12,b (IntKind.wrap IntKind.i64 ((↑(a.i):Int)+(1:Int))))];letI j:=nQ a.row (List.drop a.j a.l) a.j a.g;letI k:=c [e a.rel,h 38 a.l];letI l:=h 70 a.rows;sp 56 [(0,AV.cf 0),(2,AV.ptr 2 0 [] 0),(3,AV.ptr 3 0 [] 0),(6,h 72 (af (nth x.rows (Int.toNat (↑(x.i):Int))))),(7,i 9 72 (List.map (fun(x:ByteArray×eU)=>Value.string x.1) x.e) (List.map (fun(x:ByteArray×eU)=>c [d x.2.y,b x.2.n,e x.2.s]) x.e)),(10,h 70 x.rows),(11,b (↑(x.rows.length):Int)),(12,b (↑(x.i):Int)),(18,h 38 x.l),(19,b (↑(x.l.length):Int)),(20,b 0)] [g (some x.xs),f 51 (h 70 x.rows),f 162 (i 9 72 (List.map (fun(x:ByteArray×eU)=>Value.string x.1) x.e) (List.map (fun(x:ByteArray×eU)=>c [d x.2.y,b x.2.n,e x.2.s]) x.e)),f 45 (c [e x.rel,h 38 x.l])]=G0 a/\BM a/\aq (Option.isSome j) (∃(a_1:List AV),a.xs=AV.aH [i 9 72 (List.map (fun(x:ByteArray×eU)=>Value.string x.1) (Option.getD j [])) (List.map (fun(x:ByteArray×eU)=>c [d x.2.y,b x.2.n,e x.2.s]) (Option.getD j []))]::a_1/\(∃(m:Nat),m<N/\I m (sp 56 n [g (some a_1),f 51 l,f 162 (i 9 72 (List.map (fun(x:ByteArray×eU)=>Value.string x.1) a.e) (List.map (fun(x:ByteArray×eU)=>c [d x.2.y,b x.2.n,e x.2.s]) a.e)),f 45 k]))/\K Exit.ret (sp 56 [] [g none,f 51 l,f 162 (i 9 72 (List.map (fun(x:ByteArray×eU)=>Value.string x.1) a.e) (List.map (fun(x:ByteArray×eU)=>c [d x.2.y,b x.2.n,e x.2.s]) a.e)),f 45 k])) (∃(m:Nat),m<N/\I m (sp 56 n [g (some a.xs),f 51 l,f 162 (i 9 72 (List.map (fun(x:ByteArray×eU)=>Value.string x.1) a.e) (List.map (fun(x:ByteArray×eU)=>c [d x.2.y,b x.2.n,e x.2.s]) a.e)),f 45 k])))) (K (Exit.exit 0) (sp 56 [] [g (some x.xs),f 51 (h 70 x.rows),f 162 (i 9 72 (List.map (fun(x:ByteArray×eU)=>Value.string x.1) x.e) (List.map (fun(x:ByteArray×eU)=>c [d x.2.y,b x.2.n,e x.2.s]) x.e)),f 45 (c [e x.rel,h 38 x.l])]))):=by kernel_rfl
def ni l(a:List _) e:=a.filterMap fun r=>nQ (af r) l 0 e
def FC(L:List dG):List AV:=L.map fun g=> .aH [cP g]
structure Cc(l rows:List AV):Prop where
 n:rows.length<=100000000
 k:l.length<=100000
 h:fZ l
 w: ∀r,r∈rows->(af r).length=l.length
def GK(x:XJ):=x.i<=x.rows.length/\Cc x.l x.rows/\x.xs=FC (ni x.l (x.rows.drop x.i) x.e)
def TH(x:XJ):Out (Exit×S):= .all (fun _=>True) fun b=> .aq b
 (.one (.exit 0,sp 56 [] (.ext (some [])::Lu x.rel x.l x.rows x.e)))
 (.one (.ret,sp 56 [] (.ext none::Lu x.rel x.l x.rows x.e)))
theorem Km l a(e:dG)(i:Nat)(h:i<a.length):ni l (a.drop i) e=(match nQ (af (nth a i)) l 0 e with|some g=>g::ni l (a.drop (i+1)) e|none=>ni l (a.drop (i+1)) e):=by
 rw[as5 h,←aM _ i h,ni,List.filterMap_cons];cases nQ _ l 0 e<;>rfl
theorem lMr κ:aU (UR κ).E 12 176 1 (aG 4 PJ GK TH):=by
 refine aC (fun x=>x.rows.length - x.i) ?_;rintro⟨c,l,a,xs,e,i⟩ K ⟨v,f,b⟩ q;simp only at v f b;rw[show(UR κ).E.P=Pr κ from rfl];refine Eq.mpr (xMr κ ⟨c,l,a,xs,e,i⟩ _ _ K) ?_;have j:=q true trivial;have o:=q false trivial;simp only[Out.run,aq] at j o;simp only[Int.toNat_natCast];have z:=f.n;rw[ae,ar4,ar6];refine⟨fun h=>?_,fun h=>?_⟩
 ·have r:i<a.length:=by omega
  have t:nth a i∈a:=by rw[aM a i r];exact List.getElem_mem _
  rw[Km l a e i r] at b;have u:IntKind.wrap .i64 ((i:Int)+1)=((i+1:Nat):Int):=by rw[az (by omega) (by omega)];omega
  have d: ∀p,p=FC (ni l (a.drop (i+1)) e)->∃m,m<a.length - i/\ep PJ GK TH (fun x=>x.rows.length - x.i) K m (PJ ⟨c,l,a,p,e,i+1⟩):=fun p y=>
   ⟨_,by simp only;omega,⟨c,l,a,p,e,i+1⟩,rfl,⟨r,f,y⟩,rfl,q⟩
  refine ai.2 ⟨by simp;omega,trivial,⟨c,l,a,xs,e,i,af (nth a i),e,0⟩,rfl,⟨Nat.zero_le _,f.k,f.w _ t,f.h⟩,?_⟩;simp only[as4];rw[u];cases s:nQ (af (nth a i)) l 0 e with
  |some g=>
   rw[s] at b;exact⟨_,b,d _ rfl,o⟩
  |none=>
   rw[s] at b;exact d _ b
 ·rw[as2 (by omega)] at b
  have b:xs=[]:=b;subst b;exact j
noncomputable def BMr κ:=(UR κ).loop (lMr _)
theorem yMm κ rel l rows xs e K:(a0 (BMr κ).E 12 176 [.cf 0, .ptr 1 0 [] 0, .ptr 2 0 [] 0, .ptr 3 0 [] 0] (.ext (some xs)::Lu rel l rows e) K)=(
 letI b:=AV.int
 letI c:=AV.agg
 letI d:=AV.str
 letI f:=Obj.box
 letI g:=AV.ah
 ad (Pg.toProgram (Env.P (EB.E (UR κ)))) 176 1=ad (Pg.toProgram (Env.P (EB.E (UR κ)))) 176 1/\∃(a:XJ),letI h:=c [d a.rel,g 38 a.l];sp 56 [(0,AV.cf 0),(2,AV.ptr 2 0 [] 0),(3,AV.ptr 3 0 [] 0),(10,g 70 rows),(11,b (↑(rows.length):Int)),(12,b 0)] [Obj.ext (some xs),f 51 (g 70 rows),f 162 (AV.eO 9 72 (List.map (fun(x:ByteArray×eU)=>Value.string x.1) e) (List.map (fun(x:ByteArray×eU)=>c [AV.bool x.2.y,b x.2.n,d x.2.s]) e)),f 45 (c [d rel,g 38 l])]=PJ a/\GK a/\∀(y:Bool),True->aq y (K (AV.aH []) [Obj.ext (some []),f 51 (g 70 a.rows),f 162 (AV.eO 9 72 (List.map (fun(x:ByteArray×eU)=>Value.string x.1) a.e) (List.map (fun(x:ByteArray×eU)=>c [AV.bool x.2.y,b x.2.n,d x.2.s]) a.e)),f 45 h]) (K (AV.aH []) [Obj.ext none,f 51 (g 70 a.rows),f 162 (AV.eO 9 72 (List.map (fun(x:ByteArray×eU)=>Value.string x.1) a.e) (List.map (fun(x:ByteArray×eU)=>c [AV.bool x.2.y,b x.2.n,d x.2.s]) a.e)),f 45 h])):=by kernel_rfl
structure AMm where
 rel:ByteArray
 l:List AV
 rows:List AV
 e:dG
def Sx(x:AMm):List AV×List Dn.Obj:=([.cf 0, .ptr 1 0 [] 0, .ptr 2 0 [] 0, .ptr 3 0 [] 0], .ext (some (FC (ni x.l x.rows x.e)))::Lu x.rel x.l x.rows x.e)
def BN(x:AMm):Prop:=Cc x.l x.rows
def Im(_:AMm):Out (AV×List Dn.Obj):= .all (fun st'=>se st') fun st'=> .one (.aH [],st')
theorem cMm κ:bc (BMr κ).E 12 176 (aO Sx BN Im):=by
 refine aR ?_;rintro⟨b,l,a,e⟩ K d c;refine Eq.mpr (yMm κ b l a _ e K) ?_;refine⟨rfl,⟨b,l,a,_,e,0⟩,rfl,⟨Nat.zero_le _,d,rfl⟩,fun y _=>?_⟩;cases y
 ·exact c _ trivial
 ·exact c _ trivial
noncomputable def BMm κ:=(BMr κ).call (cMm _)
structure uQ where
 ds:List AV
 rs:List AV
 r:dh
 od:List Nat
 ins:List AV
abbrev uN(x:uQ)(o:AV):AV:= .agg [eH x.ds x.rs,au x.r, .ak 1 0 x.od.length, .ak 2 0 x.ins.length,o]
abbrev dv(x:uQ)(L:RL):List Dn.Obj:=[.box 160 (uN x (.ak 3 0 L.length)), .row 3 (ints x.od), .row 51 x.ins, .row 70 (rws L)]
abbrev uy(a:ByteArray)(l:List AV):AV:= .agg [.lit (.string a), .ah 38 l]
theorem yRm κ x L rel l K:(a0 (BMm κ).E 12 143 [.ptr 0 0 [] 0,uy rel l] (dv x L) K)=(
 ∃(a:List AV×ByteArray),([AV.ah 43 x.ds,AV.str rel],[])=I6 a/\ix a/\aV (decide ((0:Int)<=bx a.2 a.1)&&decide (bx a.2 a.1<
 (↑(x.ins.length):Int))) (K (AV.ah 70 (af (nth x.ins (0+Int.toNat (bx a.2 a.1))))) (dv x L))):=by kernel_rfl
structure Xf where
 x:uQ
 L:RL
 rel:ByteArray
 l:List AV
def uQ.at(x:uQ) a:=af (nth x.ins (bx a x.ds).toNat)
def zO(a:Xf):=([.ptr 0 0 [] 0,uy a.rel a.l],dv a.x a.L)
def tz(a:Xf):=a.x.ds.length<=aW/\0<=bx a.rel a.x.ds/\bx a.rel a.x.ds<a.x.ins.length
def TO(a:Xf):Out (AV×List Dn.Obj):= .one (.ah 70 (a.x.at a.rel),dv a.x a.L)
theorem cRm κ:bc (BMm κ).E 12 143 (aO zO tz TO):=by
 refine aR ?_;rintro⟨x,L,a,l⟩ K ⟨c,d,e⟩ b;refine Eq.mpr (yRm _ x L _ l K) ⟨(x.ds,a),rfl,c,ai.2 ⟨?_,by rw[Nat.zero_add];exact b⟩⟩
 grind
noncomputable def Xl κ:=EB.inline (((BMm κ).call (cRm _)).calm [143]) [142,141]
structure nS where
 x:uQ
 L:RL
 op:Int
 rel:ByteArray
 l:List AV
 u:AT
 v:AT
 e:dG
abbrev Lx(a:nS):AV:= .agg [.int a.op,uy a.rel a.l,dn a.u,dn a.v]
noncomputable abbrev Np(a:nS):Dn.Obj:=
 .loop (iG Tryz.prog 147 3 .ready none (hG (bM 68) [(0, .ptr 0 0 [] 0),(1,Lx a),(2,cP a.e),(4, .ptr 4 0 [] 0),(6, .int 0),(7, .bool false),(8, .ptr 5 0 [] 0),(14,cP a.e),(15, .ptr 4 0 [1] 1),(16,uy a.rel a.l),(17, .ptr 0 0 [] 0),(18, .ptr 4 0 [1] 1),(19,uy a.rel a.l),(20, .ah 70 (a.x.at a.rel)),(21, .bm 176 [.ptr 8 0 [] 0, .ptr 6 0 [] 0, .ptr 7 0 [] 0])]))
noncomputable abbrev uM a:=dv a.x a.L++[.box 80 (Lx a), .box 194 .nil, .box 162 (cP a.e), .box 45 (uy a.rel a.l), .box 51 (.ah 70 (a.x.at a.rel)),Np a]
noncomputable abbrev Gm a V:=dv a.x a.L++[.box 80 (Lx a), .box 194 (.ak 10 0 V.length), .dead, .dead, .dead,Np a, .row 2 V]
theorem sRk κ a Q:(tidy (Pr κ).toProgram 10 (dt (uM a) (bV (uM a) [.ptr 8 0 [] 0, .ptr 6 0 [] 0, .ptr 7 0 [] 0])) Q)=(
 letI b:=Obj.row
 Q [Obj.box 160 (uN a.x (AV.ak 3 0 a.L.length)),b 3 (ints a.x.od),b 51 a.x.ins,b 70 (rws a.L),Obj.box 80 (Lx a),Obj.box 194 (AV.ak 10 0
 0),Obj.dead,Obj.dead,Obj.dead,Np a,b 2 []]):=by kernel_rfl
theorem rRk κ a V g Q(K2:List Dn.Obj->Prop):(fQ (vc (Xl κ).E 12) 9 [cP g] (Gm a V) (fun r st''=>match r with| .lit (.bool true)=>tidy (Pr κ).toProgram 10 st'' Q| .lit (.bool false)=>K2 st''|_=>False))=(
 letI b:=Obj.box
 letI c:=Obj.row
 letI d:=decide ((V.length+1+1)*9<=70368744177664)
 letI e:=uN a.x (AV.ak 3 0 a.L.length)
 letI f:=AV.ak 10 0 (V.length+1)
 aq (a.op != (7:Int)) (∃(e0:gy),([cP g,dn a.v],[])=dS e0/\bL (AT.tm e0.t)=true/\aV d (Q [b 160 e,c 3 (ints a.x.od),c 51
 a.x.ins,c 70 (rws a.L),b 80 (Lx a),b 194 f,Obj.dead,Obj.dead,Obj.dead,Np a,c 2 (List.take V.length V++[AV.int (eU.n (bK e0.e
 (AT.tm e0.t)))])])) (aV d (Q [b 160 e,c 3 (ints a.x.od),c 51 a.x.ins,c 70 (rws a.L),b 80 (Lx a),b 194 f,Obj.dead,
 Obj.dead,Obj.dead,Np a,c 2 (List.take V.length V++[AV.int 0])]))):=by kernel_rfl
abbrev Fa:List AV:=[.ptr 8 0 [] 0, .ptr 6 0 [] 0, .ptr 7 0 [] 0]
theorem oRk a:lD (uM a) Fa=true:=by kernel_rfl
theorem kRk a xs:(AV.cf 0::fE (ij (bV (uM a) Fa)) Fa,Obj.ext (some xs)::gg (ij (bV (uM a) Fa)) (fY (uM a) (bV (uM a) Fa)))=([.cf 0, .ptr 1 0 [] 0, .ptr 2 0 [] 0, .ptr 3 0 [] 0], .ext (some xs)::Lu a.rel a.l (a.x.at a.rel) a.e):=by kernel_rfl
def mH(a:Int)(v:AT) g:=bif a != 7 then(bK g v.tm).n else 0
structure QS(a:nS):Prop where
 m:Cc a.l (a.x.at a.rel)
 v:a.op≠7->bL a.v.tm=true
def nS.fF(a:nS):=(ni a.l (a.x.at a.rel) a.e).map (mH a.op a.v)
noncomputable def ab7:ee:=fun b st K=>∃a,(b,st)=(Fa,uM a)/\QS a/\K (Gm a (iA a.fF))
theorem KZ:ab7.fU:=by
 rintro b st K g e ⟨a,d,f,c⟩;exact⟨a,d,f,e _ c⟩
theorem VD κ a st K(h:aO Sx BN Im a st K):(Xl κ).E.call 176 a st K:=h
theorem w6 l a e:(ni l a e).length<=a.length:=List.length_filterMap_le _ _
theorem gRk κ:ir (Xl κ).E 12 176 ab7:=by
 rintro i st K ⟨a,u,q,t⟩;obtain⟨rfl,rfl⟩:=Prod.mk.inj (show(i,st)=(Fa,uM a) from u);have A:=Nat.le_trans (w6 a.l (a.x.at a.rel) a.e) q.m.n;refine⟨FC (ni a.l (a.x.at a.rel) a.e),fun f st'=>∃d b:List dG,f=FC b/\st'=Gm a (iA (d.map (mH a.op a.v)))/\d++b=ni a.l (a.x.at a.rel) a.e,⟨oRk a,?_,?_,?_,?_⟩⟩
 ·refine VD κ _ _ _ ⟨⟨a.rel,a.l,a.x.at a.rel,a.e⟩,?_,q.m,fun st' h=>h⟩
  rw[kRk];rfl
 ·rw[show(Xl κ).E.P=Pr κ from rfl,show(uM a).length=10 from rfl,sRk]
  exact Exists.intro [] (Exists.intro _ (And.intro (Eq.refl _) (And.intro (Eq.refl _) (List.nil_append _))))
 ·rintro y r st' ⟨d,b,p,rfl,k⟩
  cases b with
  |nil=>cases p
  | cons g b=>
   obtain⟨w,rfl⟩:=List.cons.inj p;obtain rfl:=AV.aH.inj w;rw[show(Xl κ).E.P=Pr κ from rfl,show(uM a).length=10 from rfl,show(10:Nat) - 1=9 from rfl];refine Eq.mpr (rRk κ a (iA (d.map (mH a.op a.v))) g (fun st'=>∃j o:List dG,FC b=FC o/\st'=Gm a (iA (j.map (mH a.op a.v)))/\j++o=ni a.l (a.x.at a.rel) a.e) K) ?_;have z:d.length<=(ni a.l (a.x.at a.rel) a.e).length:=by rw[←k];simp
   have s:decide (((iA (d.map (mH a.op a.v))).length+1+1)*9<=70368744177664)=true:=by rw[ar4,jd,List.length_map];omega
   have c: ∀n:Int,n=mH a.op a.v g->∃j o:List dG,FC b=FC o/\Gm a (iA (d.map (mH a.op a.v))++[AV.int n])=Gm a (iA (j.map (mH a.op a.v)))/\j++o=ni a.l (a.x.at a.rel) a.e:=fun n h=>
    ⟨d++[g],b,rfl,by rw[h,List.map_append,wD];rfl,by rw[←k];simp⟩
   simp only[Gm,as9,List.length_singleton] at c;rw[List.take_length];refine ae.2 ⟨fun e7=>⟨⟨g,a.v⟩,rfl,q.v (by simpa using e7),ai.2 ⟨s,c _ (by unfold mH;rw[e7];rfl)⟩⟩,fun e7=>ai.2 ⟨s,c _ (by unfold mH;rw[e7];rfl)⟩⟩
 ·rintro st' ⟨d,b,p,rfl,k⟩
  obtain rfl:b=[]:=by cases b with|nil=>rfl|cons _ _=>cases p
  rw[List.append_nil] at k;rw[k];exact t
noncomputable def ED κ:=(Xl _).range 147 3 KZ (gRk κ) fun f=>iH f (176::JS)
abbrev af5(a:nS) V m(i:Nat):=sp 68 [(11, .int m),(45, .ak 4 0 V.length),(46, .int V.length),(47, .int i)] (dv a.x a.L++[.row 2 V])
theorem xSu κ a V m i I N K:(vc (ED κ).E 12 147 none 4 (ad (Pr κ).toProgram 147 13) (af5 a V m i) (bj (ED κ).E 147 13 4 I N K))=(
 letI b:=IntKind.wrap IntKind.i64
 letI c:=Obj.row
 letI d:=(↑i:Int)<(↑(V.length):Int)
 aq (decide d) (aV (true&&decide d) (∃(e0:Nat),e0<N/\I e0 (sp 68 [(11,AV.int (b (m+toInt (nth V (0+Int.toNat (↑i:
 Int)))))),(45,AV.ak 4 0 V.length),(46,AV.int (↑(V.length):Int)),(47,AV.int (b ((↑i:Int)+(1:Int))))] [Obj.box 160 (uN a.x
 (AV.ak 3 0 a.L.length)),c 3 (ints a.x.od),c 51 a.x.ins,c 70 (rws a.L),c 2 V]))) (K (Exit.exit 3) (sp 68 [(11,AV.int m)] (dv a.x
 a.L)))):=by kernel_rfl
def W4 m(l:List _):=l.foldl (fun m x=>IntKind.wrap .i64 (m+toInt x)) m
structure ASu where
 a:nS
 V:List AV
 m:Int
 i:Nat
abbrev Ua(x:ASu):S:=af5 x.a x.V x.m x.i
def Pa(x:ASu):=x.i<=x.V.length/\x.V.length<=100000000
def TR(x:ASu):Out (Exit×S):= .one (.exit 3,sp 68 [(11, .int (W4 x.m (x.V.drop x.i)))] (dv x.a.x x.a.L))
theorem lSu κ:aU (ED κ).E 12 147 13 (aG 4 Ua Pa TR):=by
 refine aC (fun x=>x.V.length - x.i) ?_;rintro⟨a,V,m,i⟩ K ⟨e,d⟩ b;simp only at e d;rw[show(ED κ).E.P=Pr κ from rfl];refine Eq.mpr (xSu κ a V m i _ _ K) ?_;simp only[Nat.zero_add,Int.toNat_natCast];rw[ae,ar4,ar6];simp only[TR,Out.run] at b;refine⟨fun h=>ai.2 ⟨by simp;omega,_,?_,⟨a,V,IntKind.wrap .i64 (m+toInt (nth V i)),i+1⟩,?_,⟨by simp only;omega,d⟩,rfl,?_⟩,fun h=>?_⟩
 ·simp only;omega
 ·grind [az]
 ·have c:i<V.length:=by omega
  rw[as5 c,←aM V i c] at b;exact b
 ·rw[as2 (by omega)] at b
  exact b
noncomputable def BSu κ:=(ED κ).loop (lSu _)
theorem yRk κ a K:(a0 (BSu κ).E 12 147 [.ptr 0 0 [] 0,Lx a,cP a.e] (dv a.x a.L) K)=(
 letI b:=AV.ptr 0 0 []
 letI c:=AV.int
 letI d:=AV.ptr
 letI e:=AV.bool
 letI f:=Obj.box
 letI g:=Obj.row
 letI l:=Pg.toProgram (Env.P (EB.E (ED κ)))
 ∃(e2:Xf),letI m:=uN e2.x (AV.ak 3 0 e2.L.length);([b 0,uy a.rel a.l],dv a.x a.L)=zO e2/\tz e2/\(f 160 m=f 160 (uN a.x (AV.ak 3 0 a.L.length))/\f 80 (Lx a)=f 80 (Lx a)/\f 194 AV.nil=f 194 AV.nil/\True)/\∃(e1:nS),letI k:=iA (nS.fF e1);letI i:=List.length k;letI h:=List.take i (List.drop 0 k);letI j:=dv e1.x e1.L;([d 8 0 [] 0,d 6 0 [] 0,d 7 0 [] 0],[f 160 m,g 3 (ints e2.x.od),g 51 e2.x.ins,g 70 (rws e2.L),f 80 (Lx a),f 194 AV.nil,f 162 (cP a.e),f 45 (uy a.rel a.l),f 51 (AV.ah 70 (uQ.at e2.x e2.rel)),Dn.Obj.loop (iG Tryz.prog 147 3 LoopState.ready none (hG (bM 68) [(0,b 0),(1,Lx a),(2,cP a.e),(4,d 4 0 [] 0),(6,c 0),(7,e false),(8,d 5 0 [] 0),(14,cP a.e),(15,d 4 0 [1] 1),(16,uy a.rel a.l),(17,b 0),(18,d 4 0 [1] 1),(19,uy a.rel a.l),(20,AV.ah 70 (uQ.at e2.x e2.rel)),(21,AV.bm 176 [d 8 0 [] 0,d 6 0 [] 0,d 7 0 [] 0])]))])=([d 8 0 [] 0,d 6 0 [] 0,d 7 0 [] 0],uM e1)/\QS e1/\aq (e1.op==(7:Int)) (K (AV.aH [c (↑i:Int),e true]) j) (aq (e1.op==(8:Int)) (ad l 147 13=ad l 147 13/\∃(e0:ASu),sp 68 [(11,c 0),(45,AV.ak 4 0 i),(46,c (↑i:Int)),(47,c 0)] [f 160 (uN e1.x (AV.ak 3 0 e1.L.length)),g 3 (ints e1.x.od),g 51 e1.x.ins,g 70 (rws e1.L),g 2 k]=Ua e0/\Pa e0/\K (AV.aH [c (W4 e0.m (List.drop e0.i e0.V)),e true]) (dv e0.a.x e0.a.L)) (aq ((↑i:Int)==(0:Int)) (K (AV.aH [c 0,e false]) j) (aq (e1.op==(9:Int)) (aV (decide (1<=List.length h)&&decide (List.length h<=100000000)) (K (AV.aH [c (Nx (toInt (nth h 0)) (List.drop 1 h)),e true]) j)) (aV (decide (1<=List.length h)&&decide (List.length h<=100000000)) (K (AV.aH [c (Nu (toInt (nth h 0)) (List.drop 1 h)),e true]) j)))))):=by kernel_rfl
def nH(a:Int)(V:List AV):Int:=bif a==7 then V.length else bif a==8 then W4 0 V else bif (V.length:Int)==0 then 0 else bif a==9 then Nx (toInt (nth V 0)) (V.drop 1) else Nu (toInt (nth V 0)) (V.drop 1)
def oS(a:Int)(V:List AV):=a==7||(a==8|| !(V.length:Int)==0)
def SD a:=([.ptr 0 0 [] 0,Lx a,cP a.e],dv a.x a.L)
structure Hn(a:nS):Prop where
 d:a.x.ds.length<=aW
 f0:0<=bx a.rel a.x.ds
 f1:bx a.rel a.x.ds<a.x.ins.length
 k:QS a
def TN(a:nS):Out (AV×List Dn.Obj):= .one (.aH [.int (nH a.op (iA a.fF)), .bool (oS a.op (iA a.fF))],dv a.x a.L)
theorem sm{a}(h:QS a):(iA a.fF).length<=100000000:=by
 rw[jd,nS.fF,List.length_map];exact Nat.le_trans (w6 _ _ _) h.m.n
theorem cRk κ:bc (BSu κ).E 12 147 (aO SD Hn TN):=by
 refine aR ?_;intro a K c b
 replace b:K (.aH [.int (nH a.op (iA a.fF)), .bool (oS a.op (iA a.fF))]) (dv a.x a.L):=b
 refine Eq.mpr (yRk κ a K) ?_;refine⟨⟨a.x,a.L,a.rel,a.l⟩,rfl,⟨c.d,c.f0,c.f1⟩,⟨rfl,rfl,rfl,trivial⟩,a,rfl,c.k,?_⟩;have g:=sm c.k;have h:(iA a.fF).take (iA a.fF).length=iA a.fF:=List.take_length;rw[as4,h];unfold nH oS at b;have f:((((iA a.fF).length:Int)==0)=false)->(decide (1<=(iA a.fF).length)&&decide ((iA a.fF).length<=100000000))=true:=fun i=>by
  grind
 refine ae.2 ⟨fun e7=>?_,fun e7=>ae.2 ⟨fun e8=>⟨rfl,⟨a,iA a.fF,0,0⟩,rfl,⟨Nat.zero_le _,g⟩,?_⟩,fun e8=>ae.2 ⟨fun e0=>?_,fun e0=>ae.2 ⟨fun e=>ai.2 ⟨f e0,?_⟩,fun e=>ai.2 ⟨f e0,?_⟩⟩⟩⟩⟩
 ·rw[e7] at b;exact b
 ·rw[e7,e8] at b;exact b
 ·rw[e7,e8,e0] at b;exact b
 ·rw[e7,e8,e0,e] at b;exact b
 ·rw[e7,e8,e0,e] at b;exact b
noncomputable def Cb κ:=((BSu κ).call (cRk _)).calm [147]
structure AHr where
 x:uQ
 L:RL
 e:dG
 i:Nat
def jc(a:List _) e:=a.map fun t=>e6 (bK e (eG t).tm)
abbrev WL(a:AHr) V:=sp 191 [(2,cP a.e),(3, .ptr 4 0 [] 0),(6, .ak 5 0 V.length),(26, .ah 38 a.x.r.hl),(27, .int a.x.r.hl.length),(28, .int a.i)] (dv a.x a.L++[.box 158 (.ptr 0 0 [] 0), .row 72 V])
theorem xHr κ a V I N K:(vc (Cb κ).E 12 98 none 4 (ad (Pr κ).toProgram 98 4) (WL a V) (bj (Cb κ).E 98 4 4 I N K))=(
 letI b:=Obj.box
 letI c:=Obj.row
 letI d:=dh.hl a.x.r
 letI e:=nth d (Int.toNat (↑(a.i):Int))
 letI f:=(↑(a.i):Int)<(↑(List.length d):Int)
 letI g:=uN a.x (AV.ak 3 0 a.L.length)
 aq (decide f) (aV (true&&decide f) (∃(v1:gy),([cP a.e,AV.agg [AV.int (toInt (ag e 0)),AV.str (toStr (ag e 1)),AV.int (toInt (ag e 2)),AV.ah 38
 (af (ag e 3))]],[])=dS v1/\bL (AT.tm v1.t)=true/\aV (decide ((V.length+1+1)*33<=70368744177664)) (∃(v0:Nat),v0<N/\I v0 (sp 191 [(2,cP
 a.e),(3,AV.ptr 4 0 [] 0),(6,AV.ak 5 0 (V.length+1)),(26,AV.ah 38 d),(27,AV.int (↑(List.length d):Int)),(28,AV.int (IntKind.wrap IntKind.i64
 ((↑(a.i):Int)+(1:Int))))] [b 160 g,c 3 (ints a.x.od),c 51 a.x.ins,c 70 (rws a.L),b 158 (AV.ptr 0 0 [] 0),c 72
 (List.take V.length V++[e6 (bK v1.e (AT.tm v1.t))])])))) (K (Exit.exit 0) (sp 191 [(3,AV.ptr 4 0 [] 0),(6,AV.ak 5 0 V.length)] [b 160 g,c 3
 (ints a.x.od),c 51 a.x.ins,c 70 (rws a.L),b 158 (AV.ptr 0 0 [] 0),c 72 V]))):=by kernel_rfl
abbrev PF a:=WL a (jc (a.x.r.hl.take a.i) a.e)
def OT(a:AHr):=a.i<=a.x.r.hl.length/\a.x.r.hl.length<=100000/\∀t,t∈a.x.r.hl->bL (eG t).tm=true
def ZN(a:AHr):Out (Exit×S):= .one (.exit 0,sp 191 [(3, .ptr 4 0 [] 0),(6, .ak 5 0 (jc a.x.r.hl a.e).length)] (dv a.x a.L++[.box 158 (.ptr 0 0 [] 0), .row 72 (jc a.x.r.hl a.e)]))
theorem lHr κ:aU (Cb κ).E 12 98 4 (aG 4 PF OT ZN):=by
 refine aC (fun a=>a.x.r.hl.length - a.i) ?_;rintro⟨x,L,e,i⟩ K ⟨k,f,c⟩ d;simp only at k f c;rw[show(Cb κ).E.P=Pr κ from rfl];refine Eq.mpr (xHr κ ⟨x,L,e,i⟩ _ _ _ K) ?_;simp only[Int.toNat_natCast];rw[ae,ar4,ar6];refine⟨fun h=>?_,fun h=>?_⟩
 ·have b:i<x.r.hl.length:=by omega
  have j:nth x.r.hl i∈x.r.hl:=by rw[aM _ i b];exact List.getElem_mem _
  have l:jc (x.r.hl.take (i+1)) e=jc (x.r.hl.take i) e++[e6 (bK e (eG (nth x.r.hl i)).tm)]:=by
   rw[List.take_add_one,jc,jc,List.map_append,aM _ i b];simp[b]
  have m:(jc (x.r.hl.take i) e).length<=100000:=by rw[jc,List.length_map,List.length_take];omega
  refine ai.2 ⟨by simp;omega,⟨e,eG (nth x.r.hl i)⟩,rfl,c _ j,ai.2 ⟨by rw[ar4];omega,_,?_,⟨x,L,e,i+1⟩,?_,⟨b,f,c⟩,rfl,d⟩⟩
  ·simp only;omega
  ·simp only[PF,WL,l,List.take_length,as9,List.length_singleton]
   rw[az (n:=(i:Int)+1) (by omega) (by omega)];rfl
 ·have g:x.r.hl.take i=x.r.hl:=List.take_of_length_le (by omega)
  simp only[g];exact d
noncomputable def BHr κ:=(Cb κ).loop (lHr _)
theorem Hu{b p q p' a}(d:p->p')(c:q->a)(h:aq b p q):aq b p' a:=by
 cases b
 ·exact c h
 ·exact d h
def EB.W7(b:EB){f:Nat}{sp:dL}(e:sp.fU)(h: ∀c st K,sp c st K->b.E.call f c st K):EB:=⟨_,b.ok.fK fun a s K d=>b.ok.call _ _ _ _ (h a s K d),b.mono.aw e⟩
def ah1(st:List Dn.Obj)(i:Nat)(k:AV->Prop):Prop:=match ay st i with| .box _ a=>k a|_=>False
def ao3(st:List Dn.Obj)(i:Nat)(k:List AV->Prop):Prop:=match ay st i with| .row _ l=>k l|_=>False
def dsK(a:AV)(k:List AV->Prop):=match a with| .agg (.agg (.ah _ ds::_)::_)=>k ds|_=>False
def ao1(l:List AV)(k:ByteArray->Prop):=match l with|[_, .agg [.lit (.string s),_]]=>k s|_=>False
def Pp:dL:=fun c st K=>(∃a,(c,st)=zO a/\tz a)/\ao1 c fun d=>ah1 st 0 fun b=>dsK b fun ds=>ao3 st 2 fun e=>K (.ah 70 (af (nth e (bx d ds).toNat))) st
theorem GX:Pp.fU:=fun b st K f e h=>by
 obtain⟨⟨a,d,g⟩,c⟩:=h;obtain⟨rfl,rfl⟩:=Prod.mk.inj d;exact⟨by grind,e _ _ c⟩
theorem Wm b st K(h:Pp b st K):aO zO tz TO b st K:=by
 obtain⟨⟨a,d,e⟩,c⟩:=h;obtain⟨rfl,rfl⟩:=Prod.mk.inj d;exact⟨a,rfl,e,c⟩
def Po:dL:=fun b st K=>∃a,(b,st)=SD a/\Hn a/\K (.aH [.int (nH a.op (iA a.fF)), .bool (oS a.op (iA a.fF))]) st
theorem GW:Po.fU:=fun _ _ _ _ c ⟨a,d,e,b⟩=>⟨a,d,e,c _ _ b⟩
theorem Wl b st K(h:Po b st K):aO SD Hn TN b st K:=by
 obtain⟨a,d,e,c⟩:=h;obtain⟨rfl,rfl⟩:=Prod.mk.inj d;exact⟨a,rfl,e,c⟩
theorem VE κ a st K(h:Pp a st K):(BHr κ).E.call 143 a st K:=Wm _ _ K h
noncomputable def BGa κ:=EB.W7 _ GX (VE κ)
theorem Q2 κ a st K(h:Po a st K):(BGa κ).E.call 147 a st K:=Wl _ _ K h
noncomputable def BGb κ:=EB.W7 _ GW (Q2 κ)
structure bp where
 x:uQ
 L:RL
 i:Nat
 e:dG
abbrev bp.j(a:bp):=0+Int.toNat a.i
abbrev bp.k(a:bp):=nth (ints a.x.od) a.j
abbrev bp.t(a:bp):=nth a.x.r.bl (toInt a.k).toNat
abbrev bp.rel(a:bp):=toStr (ag (ag a.t 1) 0)
abbrev bp.l(a:bp):=af (ag (ag a.t 1) 1)
abbrev iT(x:AV):AV:= .agg [.int (toInt (ag x 0)), .lit (.string (toStr (ag x 1))), .int (toInt (ag x 2)), .ah 38 (af (ag x 3))]
abbrev bp.lit(a:bp):AV:= .agg [.int (toInt (ag a.t 0)),uy a.rel a.l,iT (ag a.t 2),iT (ag a.t 3)]
noncomputable abbrev FO(a:bp):Dn.Obj:=
 .loop (iG Tryz.prog 98 20 .ready none (hG (bM 191) [(0, .ptr 0 0 [] 0),(1, .int a.i),(2,cP a.e),(3, .ptr 4 0 [] 0),(4, .ptr 5 0 [] 0),(9, .ptr 6 0 [] 0),(10, .ptr 7 0 [] 0),(14, .int a.i),(15, .ptr 0 0 [] 0),(16, .ptr 0 0 [] 0),(17, .ptr 0 0 [2] 6),(18, .ak 1 0 a.x.od.length),(19, .int a.x.od.length),(20, .bool false),(49, .ptr 0 0 [] 0),(50, .ptr 0 0 [] 0),(51, .ptr 0 0 [1] 2),(52, .ptr 0 0 [1,1] 4),(53, .ah 80 a.x.r.bl),(54, .ptr 0 0 [] 0),(55, .ptr 0 0 [] 0),(56, .ptr 0 0 [2] 6),(57, .ak 1 0 a.x.od.length),(58, .int a.i),(59, .ptr 1 a.j [] 0),(60, .int (toInt a.k)),(61, .jj 80 a.t),(62,a.lit),(63, .bm 141 [.ptr 4 0 [] 0, .ptr 5 0 [] 0]),(64, .ptr 6 0 [0] 0),(65, .int (toInt (ag a.t 0))),(101, .bool true),(102, .bool (toInt (ag a.t 0)==1)),(103,cP a.e),(104, .ptr 6 0 [1] 1),(105,uy a.rel a.l),(106, .ptr 0 0 [] 0),(107, .ptr 6 0 [1] 1),(108,uy a.rel a.l),(109, .ah 70 (a.x.at a.rel)),(110, .bm 176 [.ptr 10 0 [] 0, .ptr 8 0 [] 0, .ptr 9 0 [] 0])]))
noncomputable abbrev uC a:=dv a.x a.L++[.box 158 (.ptr 0 0 [] 0), .box 3 (.int a.i), .box 80 a.lit, .box 207 (.bm 141 [.ptr 4 0 [] 0, .ptr 5 0 [] 0]), .box 162 (cP a.e), .box 45 (uy a.rel a.l), .box 51 (.ah 70 (a.x.at a.rel)),FO a]
noncomputable abbrev MU a L:=dv a.x L++[.box 158 (.ptr 0 0 [] 0), .box 3 (.int a.i), .box 80 a.lit, .box 207 (.bm 141 [.ptr 4 0 [] 0, .ptr 5 0 [] 0]), .dead, .dead, .dead,FO a]
def pQ(x:uQ):List Nat->dG->RL
 |[],e=>[jc x.r.hl e]
 | k::b,e=>
  let t:=nth x.r.bl k
  let a:=toInt (ag t 0)
  let M:=ni (af (ag (ag t 1) 1)) (x.at (toStr (ag (ag t 1) 0))) e
  let u:=eG (ag t 2)
  let v:=eG (ag t 3)
  bif a==1 then M.flatMap (pQ x b)
  else bif a==2 then(bif M.isEmpty then pQ x b e else[])
  else bif a==3||(a==4||(a==5||a==6)) then
   (bif a==3&&eP e u then pQ x b (e.put u.s (bK e v.tm))
    else bif a==3&&eP e v then pQ x b (e.put v.s (bK e u.tm))
    else bif gU a (bK e u.tm) (bK e v.tm) then pQ x b e else[])
  else
   let V:=iA (M.map (mH a v))
   (bif !oS a V then[]
    else bif eP e u then pQ x b (e.put u.s ⟨false,nH a V,ByteArray.mk #[]⟩)
    else bif (bK e u.tm).n==nH a V then pQ x b e else[])
abbrev ao2(a:bp):=hG (bM 191) [(0, .ptr 0 0 [] 0),(1, .int a.i),(2,cP a.e),(3, .ptr 4 0 [] 0),(4, .ptr 5 0 [] 0),(9, .ptr 6 0 [] 0),(10, .ptr 7 0 [] 0),(14, .int a.i),(15, .ptr 0 0 [] 0),(16, .ptr 0 0 [] 0),(17, .ptr 0 0 [2] 6),(18, .ak 1 0 a.x.od.length),(19, .int a.x.od.length),(20, .bool false),(49, .ptr 0 0 [] 0),(50, .ptr 0 0 [] 0),(51, .ptr 0 0 [1] 2),(52, .ptr 0 0 [1,1] 4),(53, .ah 80 a.x.r.bl),(54, .ptr 0 0 [] 0),(55, .ptr 0 0 [] 0),(56, .ptr 0 0 [2] 6),(57, .ak 1 0 a.x.od.length),(58, .int a.i),(59, .ptr 1 a.j [] 0),(60, .int (toInt a.k)),(61, .jj 80 a.t),(62,a.lit),(63, .bm 141 [.ptr 4 0 [] 0, .ptr 5 0 [] 0]),(64, .ptr 6 0 [0] 0),(65, .int (toInt (ag a.t 0))),(101, .bool false),(102, .bool (toInt (ag a.t 0)==1)),(115, .bool true),(116, .bool (toInt (ag a.t 0)==2)),(117,cP a.e),(118, .ptr 6 0 [1] 1),(119,uy a.rel a.l),(120, .ptr 0 0 [] 0),(121, .ptr 6 0 [1] 1),(122,uy a.rel a.l),(123, .ah 70 (a.x.at a.rel)),(124, .bm 176 [.ptr 10 0 [] 0, .ptr 8 0 [] 0, .ptr 9 0 [] 0])]
abbrev FN(a:bp)(s:LoopState)(p:Option Code):Dn.Obj:= .loop {state:=s,pending:=p,fn:=98,bC:=ao2 a,params:= #[125],assign:= .skip,body:= .block 7 .ret}
noncomputable abbrev JT a L:=[.box 160 (uN a.x (.ak 12 0 L.length)), .row 3 (ints a.x.od), .row 51 a.x.ins, .dead, .box 158 (.ptr 0 0 [] 0), .box 3 (.int a.i), .box 80 a.lit, .box 207 (.bm 141 [.ptr 4 0 [] 0, .ptr 5 0 [] 0]), .dead, .dead, .dead,FO a, .row 70 (rws L)]
abbrev pP:List AV:=[.ptr 10 0 [] 0, .ptr 8 0 [] 0, .ptr 9 0 [] 0]
abbrev uB a:=dv a.x a.L++[.box 158 (.ptr 0 0 [] 0), .box 3 (.int a.i), .box 80 a.lit, .box 207 (.bm 141 [.ptr 4 0 [] 0, .ptr 5 0 [] 0]), .box 162 (cP a.e), .box 45 (uy a.rel a.l), .box 51 (.ah 70 (a.x.at a.rel)),FN a .ready none]
abbrev JU(a:bp) o:=dv a.x a.L++[.box 158 (.ptr 0 0 [] 0), .box 3 (.int a.i), .box 80 a.lit, .box 207 (.bm 141 [.ptr 4 0 [] 0, .ptr 5 0 [] 0]), .dead, .dead, .dead,o]
def il(a:Int):=a==1||(a==2|| !(a==3||(a==4||(a==5||a==6))))
structure Yq(x:uQ)(t:AV):Prop where
 at0:il (toInt (ag t 0))=true->0<=bx (toStr (ag (ag t 1) 0)) x.ds/\bx (toStr (ag (ag t 1) 0)) x.ds<x.ins.length
 at1:il (toInt (ag t 0))=true->Cc (af (ag (ag t 1) 1)) (x.at (toStr (ag (ag t 1) 0)))
 u:(toInt (ag t 0)==1)=false->(toInt (ag t 0)==2)=false->bL (eG (ag t 2)).tm=true
 v:(toInt (ag t 0)==1)=false->(toInt (ag t 0)==2)=false->toInt (ag t 0)≠7->bL (eG (ag t 3)).tm=true
structure QT(x:uQ):Prop where
 d:x.ds.length<=aW
 n:x.od.length<=100000
 o: ∀k,k∈x.od->k<x.r.bl.length
 h:x.r.hl.length<=100000
 hv: ∀t,t∈x.r.hl->bL (eG t).tm=true
 t: ∀k,k∈x.od->Yq x (nth x.r.bl k)
def bp.out(a:bp):=pQ a.x (a.x.od.drop a.i) a.e
def gi(a:bp):=([.ptr 0 0 [] 0, .int a.i,cP a.e],dv a.x a.L)
structure cy(a:bp):Prop where
 x:QT a.x
 i:a.i<=a.x.od.length
 n:a.L.length+a.out.length<=100000000
abbrev nR(x:uQ)(L:RL):List Dn.Obj:=[.box 160 (uN x (.ak 4 0 L.length)), .row 3 (ints x.od), .row 51 x.ins, .dead, .row 70 (rws L)]
def Tu(a:bp):Out (AV×List Dn.Obj):= .aq a.out.isEmpty (.one (.aH [],dv a.x a.L)) (.one (.aH [],nR a.x (a.L++a.out)))
def Wu n:=aO gi (fun a=>cy a/\a.x.od.length - a.i=n) Tu
noncomputable def S0 κ r:=(BGb κ).E.aw 98 fun a st K=>∃m,m<r/\Wu m a st K
theorem sGm κ a Q:(tidy (Pr κ).toProgram 12 (dt (uC a) (bV (uC a) pP)) Q)=(
 Q (MU a a.L)):=by kernel_rfl
theorem rGm κ r a L g Q(K2:List Dn.Obj->Prop):(fQ (vc (S0 κ r) 12) 11 [cP g] (MU a L) (fun r st''=>match r with| .lit (.bool true)=>tidy (Pr κ).toProgram 12 st'' Q| .lit (.bool false)=>K2 st''|_=>False))=(
 letI b:=AV.ptr 0 0 []
 letI c:=Obj.box
 letI d:=Obj.row
 letI e:=AV.bm 141 [AV.ptr 4 0 [] 0,AV.ptr 5 0 [] 0]
 letI f:=AV.int (↑(a.i):Int)
 ∃(e1:Nat),e1<r/\∃(e0:bp),([b 0,AV.int (IntKind.wrap IntKind.i64 ((↑(a.i):Int)+(1:Int))),cP g],dv a.x L)=gi e0/\(cy e0/\
 List.length e0.x.od - e0.i=e1)/\aq (List.isEmpty (bp.out e0)) (Q [c 160 (uN e0.x (AV.ak 3 0 e0.L.length)),d 3 (ints e0.x.od),d 51
 e0.x.ins,d 70 (rws e0.L),c 158 (b 0),c 3 f,c 80 (bp.lit a),c 207 e,Obj.dead,Obj.dead,Obj.dead,FO a]) (Q
 [c 160 (uN e0.x (AV.ak 12 0 (List.length (e0.L++bp.out e0)))),d 3 (ints e0.x.od),d 51 e0.x.ins,Obj.dead,c 158 (b 0),
 c 3 f,c 80 (bp.lit a),c 207 e,Obj.dead,Obj.dead,Obj.dead,FO a,d 70 (rws (e0.L++bp.out e0))])):=by kernel_rfl
theorem sGn κ a Q:(tidy (Pr κ).toProgram 12 (dt (uB a) (bV (uB a) pP)) Q)=(
 Q (JU a (FN a LoopState.ready none))):=by kernel_rfl
theorem rGd κ r a L g Q(K2:List Dn.Obj->Prop):(fQ (vc (S0 κ r) 12) 11 [cP g] (JT a L) (fun r st''=>match r with| .lit (.bool true)=>tidy (Pr κ).toProgram 12 st'' Q| .lit (.bool false)=>K2 st''|_=>False))=(
 letI b:=AV.ptr
 letI c:=Obj.box
 letI d:=Obj.row
 letI e:=AV.bm 141 [b 4 0 [] 0,b 5 0 [] 0]
 letI f:=AV.int (↑(a.i):Int)
 ∃(e1:Nat),e1<r/\∃(e0:bp),([b 0 0 [] 0,AV.int (IntKind.wrap IntKind.i64 ((↑(a.i):Int)+(1:Int))),cP g],dv a.x L)=gi e0/\(cy e0/\
 List.length e0.x.od - e0.i=e1)/\aq (List.isEmpty (bp.out e0)) (Q [c 160 (uN e0.x (AV.ak 12 0 e0.L.length)),d 3 (ints e0.x.od),d 51
 e0.x.ins,Obj.dead,c 158 (b 0 0 [] 0),c 3 f,c 80 (bp.lit a),c 207 e,Obj.dead,Obj.dead,Obj.dead,FO a,d 70 (rws
 e0.L)]) (Q [c 160 (uN e0.x (AV.ak 12 0 (List.length (e0.L++bp.out e0)))),d 3 (ints e0.x.od),d 51 e0.x.ins,Obj.dead,c 158 (b 0
 0 [] 0),c 3 f,c 80 (bp.lit a),c 207 e,Obj.dead,Obj.dead,Obj.dead,FO a,d 70 (rws (e0.L++bp.out e0))])):=by kernel_rfl
def M0(a:bp):=ni a.l (a.x.at a.rel) a.e
def uJ(a:bp):=pQ a.x (a.x.od.drop (a.i+1))
structure Mf(a:bp)(r:Nat):Prop where
 x:QT a.x
 i:a.i<a.x.od.length
 r:a.x.od.length - a.i=r
 m:Cc a.l (a.x.at a.rel)
 n:a.L.length+((M0 a).flatMap (uJ a)).length<=100000000
def bp.all(a:bp):RL:=(M0 a).flatMap (uJ a)
noncomputable def Wv(r:Nat):ee:=fun b st K=>∃a,(b,st)=(pP,uC a)/\Mf a r/\aq a.all.isEmpty (K (MU a a.L)) (K (JT a (a.L++a.all)))
theorem KV r:(Wv r).fU:=by
 rintro c st K g b ⟨a,d,f,e⟩;exact⟨a,d,f,Hu (b _) (b _) e⟩
noncomputable def YW a R:=bif R.isEmpty then MU a a.L else JT a (a.L++R)
theorem Rt a R T(Q:List _->Prop)(h:Q (YW a (R++T))):bif R.isEmpty then aq T.isEmpty (Q (MU a a.L)) (Q (JT a (a.L++T))) else aq T.isEmpty (Q (JT a (a.L++R))) (Q (JT a (a.L++R++T))):=by
 cases R with
 |nil=>cases T<;>exact h
 |cons b R=>
  cases T with
  |nil=>rw[List.append_nil] at h;exact h
  |cons c T=>rw[List.append_assoc];exact h
theorem oGm a:lD (uC a) pP=true:=by kernel_rfl
theorem kGm a xs:(AV.cf 0::fE (ij (bV (uC a) pP)) pP,Obj.ext (some xs)::gg (ij (bV (uC a) pP)) (fY (uC a) (bV (uC a) pP)))=([.cf 0, .ptr 1 0 [] 0, .ptr 2 0 [] 0, .ptr 3 0 [] 0], .ext (some xs)::Lu a.rel a.l (a.x.at a.rel) a.e):=by kernel_rfl
theorem Vy κ r a st K(h:aO Sx BN Im a st K):(S0 κ r).call 176 a st K:=h
theorem gGm κ r:ir (S0 κ r) 12 176 (Wv r):=by
 rintro k st K ⟨a,A,f,q⟩;obtain⟨rfl,rfl⟩:=Prod.mk.inj (show(k,st)=(pP,uC a) from A);refine⟨FC (M0 a),fun j st'=>∃c b:List dG,j=FC b/\st'=YW a (c.flatMap (uJ a))/\c++b=M0 a,⟨oGm a,?_,?_,?_,?_⟩⟩
 ·refine Vy κ r _ _ _ ⟨⟨a.rel,a.l,a.x.at a.rel,a.e⟩,?_,f.m,fun st' h=>h⟩
  rw[kGm];rfl
 ·rw[show(S0 κ r).P=Pr κ from rfl,show(uC a).length=12 from rfl,sGm]
  exact⟨[],_,rfl,rfl,List.nil_append _⟩
 ·rintro C z st' ⟨c,b,s,rfl,o⟩
  cases b with
  |nil=>cases s
  | cons g b=>
   obtain⟨B,rfl⟩:=List.cons.inj s;obtain rfl:=AV.aH.inj B;rw[show(S0 κ r).P=Pr κ from rfl,show(uC a).length=12 from rfl,show(12:Nat) - 1=11 from rfl];have u:=f.i;have D:=f.x.n;have t:=f.n;have E:=f.r;rw[←o,List.flatMap_append,List.flatMap_cons] at t;simp only[as9] at t;have d:=Rt a (c.flatMap (uJ a)) (uJ a g) (fun st'=>∃v w:List dG,FC b=FC w/\st'=YW a (v.flatMap (uJ a))/\v++w=M0 a) ⟨c++[g],b,rfl,by rw[List.flatMap_append,List.flatMap_cons,List.flatMap_nil,List.append_nil],by rw[←o];simp⟩;have y:=az (n:=(a.i:Int)+1) (by omega) (by omega);unfold YW;cases p:(c.flatMap (uJ a)).isEmpty with
   | true=>
    rw[p] at d;refine Eq.mpr (rGm κ r a a.L g _ K) ⟨a.x.od.length - (a.i+1),by omega,⟨a.x,a.L,a.i+1,g⟩,?_,⟨⟨f.x,u,?_⟩,rfl⟩,d⟩
    ·rw[y];rfl
    ·show a.L.length+(uJ a g).length<=100000000
     omega
   | false=>
    rw[p] at d;refine Eq.mpr (rGd κ r a (a.L++c.flatMap (uJ a)) g _ K) ⟨a.x.od.length - (a.i+1),by omega,⟨a.x,a.L++c.flatMap (uJ a),a.i+1,g⟩,?_,⟨⟨f.x,u,?_⟩,rfl⟩,d⟩
    ·rw[y];rfl
    ·show(a.L++c.flatMap (uJ a)).length+(uJ a g).length<=100000000
     rw[as9];omega
 ·rintro st' ⟨c,b,s,rfl,o⟩
  obtain rfl:b=[]:=by cases b with|nil=>rfl|cons _ _=>cases s
  rw[List.append_nil] at o;rw[o];unfold YW;unfold bp.all at q;cases p:((M0 a).flatMap (uJ a)).isEmpty with
  |true=>rw[p] at q;exact q
  |false=>rw[p] at q;exact q
noncomputable def S1 κ r:=((S0 κ r).addRange 98 20 176 (Wv r)).cV fun f=>iH f (176::JS)
theorem rGn κ r a g Q(K2:List Dn.Obj->Prop):(fQ (vc (S1 κ r) 12) 11 [cP g] (JU a (FN a .ready none)) (fun r st''=>match r with| .lit (.bool true)=>tidy (Pr κ).toProgram 12 st'' Q| .lit (.bool false)=>K2 st''|_=>False))=(
 K2 (JU a (FN a LoopState.done (some Code.ret)))):=by kernel_rfl
def Ww:ee:=fun b st K=>∃a,(b,st)=(pP,uB a)/\Cc a.l (a.x.at a.rel)/\aq (M0 a).isEmpty (K (JU a (FN a .ready none))) (K (JU a (FN a .done (some .ret))))
theorem KW:Ww.fU:=by
 rintro c st K g b ⟨a,d,f,e⟩;exact⟨a,d,f,Hu (b _) (b _) e⟩
theorem oGn a:lD (uB a) pP=true:=by kernel_rfl
theorem kGn a xs:(AV.cf 0::fE (ij (bV (uB a) pP)) pP,Obj.ext (some xs)::gg (ij (bV (uB a) pP)) (fY (uB a) (bV (uB a) pP)))=([.cf 0, .ptr 1 0 [] 0, .ptr 2 0 [] 0, .ptr 3 0 [] 0], .ext (some xs)::Lu a.rel a.l (a.x.at a.rel) a.e):=by kernel_rfl
theorem Vz κ r a st K(h:aO Sx BN Im a st K):(S1 κ r).call 176 a st K:=h
theorem gGn κ r:ir (S1 κ r) 12 176 Ww:=by
 rintro d st K ⟨a,n,m,i⟩;obtain⟨rfl,rfl⟩:=Prod.mk.inj (show(d,st)=(pP,uB a) from n);refine⟨FC (M0 a),fun b st'=>b=FC (M0 a)/\st'=JU a (FN a .ready none),⟨oGn a,?_,?_,?_,?_⟩⟩
 ·refine Vz κ r _ _ _ ⟨⟨a.rel,a.l,a.x.at a.rel,a.e⟩,?_,m,fun st' h=>h⟩
  rw[kGn];rfl
 ·rw[show(S1 κ r).P=Pr κ from rfl,show(uB a).length=12 from rfl,sGn]
  exact⟨rfl,rfl⟩
 ·rintro p j st' ⟨c,rfl⟩
  cases f:M0 a with
  |nil=>rw[f] at c;cases c
  |cons g o=>
   rw[f] at c i;obtain⟨k,rfl⟩:=List.cons.inj c;obtain rfl:=AV.aH.inj k;rw[show(S1 κ r).P=Pr κ from rfl,show(uB a).length=12 from rfl,show(12:Nat) - 1=11 from rfl];exact Eq.mpr (rGn κ r a g _ K) i
 ·rintro st' ⟨c,rfl⟩
  cases f:M0 a with
  |nil=>rw[f] at i;exact i
  |cons g o=>rw[f] at c;cases c
noncomputable def X4 κ r:=((S1 κ r).addRange 98 0 176 Ww).cV fun f=>iH f (176::JS)
theorem eGm κ r(i: ∀a st K,(∃m,m<r/\Wu m a st K)->b7 (Pr κ) 98 a st K):aE (X4 κ r)/\aj (X4 κ r)/\(X4 κ r).P=Pr κ:=by
 have d:=(BGb κ).ok.fK i;have b:aj (S0 κ r):=(BGb _).mono.aw fun _ _ _ _ f ⟨m,g,h⟩=>⟨m,g,aI _ _ _ _ f h⟩
 have e:aE (S1 κ r):=(d.addRange b (gGm _ r)).cV _;have c:aj (S1 κ r):=(b.addRange (KV r)).cV _;exact⟨(e.addRange c (gGn _ r)).cV _,(c.addRange KW).cV _,rfl⟩
theorem yGo(κ:Kp)(r:Nat)(a:bp) K:(a0 (X4 κ r) 12 98 [.ptr 0 0 [] 0, .int a.i,cP a.e] (dv a.x a.L) K)=(
 letI b:=IntKind.wrap IntKind.i64
 letI c:=AV.ptr 0 0 []
 letI d:=AV.int
 letI e:=AV.ptr
 letI f:=AV.bool
 letI g:=AV.lit
 letI h:=Obj.box
 letI i:=Obj.row
 letI j:=AV.aH
 letI k:=AV.ah
 letI l:=AV.ak
 letI z:=Value.int IntKind.i64 (b ((↑(a.i):Int)+(1:Int)))
 letI G:=∃(v1:Nat),v1<r/\∃(v0:bp),([c 0,g z,cP a.e],dv a.x a.L)=gi v0/\(cy v0/\List.length v0.x.od - v0.i=v1)/\aq
  (List.isEmpty (bp.out v0)) (K (j []) (dv v0.x v0.L)) (K (j []) (nR v0.x (v0.L++bp.out v0)))
 letI C:=AV.bm 141 [e 4 0 [] 0,e 5 0 [] 0]
 letI t:=ag (bp.t a) 0
 letI n:=List.length a.x.od
 letI p:=uN a.x (l 3 0 a.L.length)
 letI m:=ag (bp.t a) 2
 letI A:=∃(v0:Xf),([c 0,uy (bp.rel a) (bp.l a)],dv a.x a.L)=zO v0/\tz v0
 letI q:=toInt t==(3:Int)
 letI u:=d (↑(a.i):Int)
 letI o:=ag (bp.t a) 3
 letI H:=∃(v3:gy),([cP a.e,iT o],[])=dS v3/\bL (AT.tm v3.t)=true/\∃(v2:Ev),([cP a.e,AV.str (toStr (ag m 1)),e6 (bK v3.e (AT.tm v3.t))],
  [])=qO v2/\True/\∃(v1:Nat),v1<r/\∃(v0:bp),([c 0,g z,cP (dG.put v2.e v2.s v2.v)],dv a.x a.L)=gi v0/\(cy v0/\List.length
  v0.x.od - v0.i=v1)/\aq (List.isEmpty (bp.out v0)) (K (j []) (dv v0.x v0.L)) (K (j []) (nR v0.x (v0.L++bp.out v0)))
 letI v:=uQ.at a.x (bp.rel a)
 letI s:=c 0
 letI I:=h 160 p=h 160 p/\h 158 s=h 158 s/\h 3 u=h 3 u/\h 80 (bp.lit a)=h 80 (bp.lit a)
  /\h 207 C=h 207 C/\True
 letI w:=K (j []) (dv a.x a.L)
 letI D:=∃(v4:gy),([cP a.e,iT m],[])=dS v4/\bL (AT.tm v4.t)=true/\∃(v3:gy),([cP a.e,iT o],[])=dS v3/\bL (AT.tm v3.t)=true/\∃(v2:
  B9),([d (toInt t),e6 (bK v4.e (AT.tm v4.t)),e6 (bK v3.e (AT.tm v3.t))],[])=o3 v2/\True/\aq (gU v2.op v2.x v2.y) G w
 letI E:=aq q (∃(v5:gy),([cP a.e,iT o],[])=qN v5/\True/\aq (eP v5.e v5.t) (∃(v3:gy),([cP a.e,iT m],[])=dS v3/\bL (AT.tm v3.t)=true
  /\∃(v2:Ev),([cP a.e,AV.str (toStr (ag o 1)),e6 (bK v3.e (AT.tm v3.t))],[])=qO v2/\True/\∃(v1:Nat),v1<r/\∃(v0:bp),([c 0,
  g z,cP (dG.put v2.e v2.s v2.v)],dv a.x a.L)=gi v0/\(cy v0/\List.length v0.x.od - v0.i=v1)/\aq (List.isEmpty (bp.out v0)) (K (j []) (dv v0.x
  v0.L)) (K (j []) (nR v0.x (v0.L++bp.out v0)))) D) D
 letI F:=aq q (∃(v6:gy),([cP a.e,iT m],[])=qN v6/\True/\aq (eP v6.e v6.t) H (aq q (∃(v5:gy),([cP a.e,iT o],[])=qN v5/\True/\aq
  (eP v5.e v5.t) (∃(v3:gy),([cP a.e,iT m],[])=dS v3/\bL (AT.tm v3.t)=true/\∃(v2:Ev),([cP a.e,g (Value.string (toStr (ag o 1))),e6 (bK
  v3.e (AT.tm v3.t))],[])=qO v2/\True/\∃(v1:Nat),v1<r/\∃(v0:bp),([c 0,g z,cP (dG.put v2.e v2.s v2.v)],dv a.x a.L)=gi v0/\
  (cy v0/\List.length v0.x.od - v0.i=v1)/\aq (List.isEmpty (bp.out v0)) (K (j []) (dv v0.x v0.L)) (K (j []) (nR v0.x (v0.L++bp.out v0)))) D) D))
  E
 letI x:=toInt t==(1:Int)
 letI B:=Pg.toProgram (Env.P (EB.E (Cb κ)))
 aq ((↑(a.i):Int)==(↑n:Int)) (ad B 98 4=ad B 98 4/\∃(v0:AHr),sp 191 [(2,cP a.e),(3,e 4 0 [] 0),(6,l 5 0 0),(26,k 38 (dh.hl a.x.r)),(27,d (↑(List.length (dh.hl a.x.r)):Int)),(28,d 0)] [h 160 p,i 3 (ints a.x.od),i 51 a.x.ins,i 70 (rws a.L),h 158 s,i 72 []]=PF v0/\OT v0/\aV (decide ((v0.L.length+1+1)*25<=70368744177664)) (K (j []) [h 160 (uN v0.x (l 4 0 (v0.L.length+1))),i 3 (ints v0.x.od),i 51 v0.x.ins,Obj.dead,i 70 (List.take v0.L.length (rws v0.L)++[k 72 (List.take (List.length (jc (dh.hl v0.x.r) v0.e)) (List.drop 0 (jc (dh.hl v0.x.r) v0.e)))])])) (aV (true&&decide ((↑(a.i):Int)<(↑n:Int))) (aV (decide ((0:Int)<=toInt (bp.k a))&&decide (toInt (bp.k a)<(↑(List.length (dh.bl a.x.r)):Int))) (aq x (A/\I/\∃(v0:bp),([e 10 0 [] 0,e 8 0 [] 0,e 9 0 [] 0],[h 160 p,i 3 (ints a.x.od),i 51 a.x.ins,i 70 (rws a.L),h 158 s,h 3 u,h 80 (bp.lit a),h 207 C,h 162 (cP a.e),h 45 (uy (bp.rel a) (bp.l a)),h 51 (k 70 v),Dn.Obj.loop (iG Tryz.prog 98 20 LoopState.ready none (hG (bM 191) [(0,c 0),(1,d (↑(a.i):Int)),(2,cP a.e),(3,e 4 0 [] 0),(4,e 5 0 [] 0),(9,e 6 0 [] 0),(10,e 7 0 [] 0),(14,d (↑(a.i):Int)),(15,c 0),(16,c 0),(17,e 0 0 [2] 6),(18,l 1 0 n),(19,d (↑n:Int)),(20,f false),(49,c 0),(50,c 0),(51,e 0 0 [1] 2),(52,e 0 0 [1,1] 4),(53,k 80 (dh.bl a.x.r)),(54,c 0),(55,c 0),(56,e 0 0 [2] 6),(57,l 1 0 n),(58,d (↑(a.i):Int)),(59,e 1 (bp.j a) [] 0),(60,d (toInt (bp.k a))),(61,AV.jj 80 (bp.t a)),(62,bp.lit a),(63,AV.bm 141 [e 4 0 [] 0,e 5 0 [] 0]),(64,e 6 0 [0] 0),(65,d (toInt t)),(101,f true),(102,f x),(103,cP a.e),(104,e 6 0 [1] 1),(105,uy (bp.rel a) (bp.l a)),(106,c 0),(107,e 6 0 [1] 1),(108,uy (bp.rel a) (bp.l a)),(109,k 70 v),(110,AV.bm 176 [e 10 0 [] 0,e 8 0 [] 0,e 9 0 [] 0])]))])=([e 10 0 [] 0,e 8 0 [] 0,e 9 0 [] 0],uC v0)/\Mf v0 r/\aq (List.isEmpty (bp.all v0)) (K (j []) (dv v0.x v0.L)) (K (j []) (nR v0.x (v0.L++bp.all v0)))) (aq (toInt t==(2:Int)) (A/\I/\∃(v2:bp),([e 10 0 [] 0,e 8 0 [] 0,e 9 0 [] 0],[h 160 p,i 3 (ints a.x.od),i 51 a.x.ins,i 70 (rws a.L),h 158 s,h 3 u,h 80 (bp.lit a),h 207 C,h 162 (cP a.e),h 45 (uy (bp.rel a) (bp.l a)),h 51 (k 70 v),Dn.Obj.loop {state:=LoopState.ready,pending:=none,fn:=98,bC:=hG (bM 191) [(0,c 0),(1,d (↑(a.i):Int)),(2,cP a.e),(3,e 4 0 [] 0),(4,e 5 0 [] 0),(9,e 6 0 [] 0),(10,e 7 0 [] 0),(14,d (↑(a.i):Int)),(15,c 0),(16,c 0),(17,e 0 0 [2] 6),(18,l 1 0 n),(19,d (↑n:Int)),(20,f false),(49,c 0),(50,c 0),(51,e 0 0 [1] 2),(52,e 0 0 [1,1] 4),(53,k 80 (dh.bl a.x.r)),(54,c 0),(55,c 0),(56,e 0 0 [2] 6),(57,l 1 0 n),(58,d (↑(a.i):Int)),(59,e 1 (bp.j a) [] 0),(60,d (toInt (bp.k a))),(61,AV.jj 80 (bp.t a)),(62,bp.lit a),(63,AV.bm 141 [e 4 0 [] 0,e 5 0 [] 0]),(64,e 6 0 [0] 0),(65,d (toInt t)),(101,f false),(102,f x),(115,f true),(116,f (toInt t==(2:Int))),(117,cP a.e),(118,e 6 0 [1] 1),(119,uy (bp.rel a) (bp.l a)),(120,c 0),(121,e 6 0 [1] 1),(122,uy (bp.rel a) (bp.l a)),(123,k 70 v),(124,AV.bm 176 [e 10 0 [] 0,e 8 0 [] 0,e 9 0 [] 0])],params:={toList:=[125]},assign:=Code.skip,body:=Code.block 7 Code.ret}])=([e 10 0 [] 0,e 8 0 [] 0,e 9 0 [] 0],uB v2)/\Cc (bp.l v2) (uQ.at v2.x (bp.rel v2))/\aq (List.isEmpty (M0 v2)) (∃(v1:Nat),v1<r/\∃(v0:bp),([c 0,g (Value.int IntKind.i64 (b ((↑(v2.i):Int)+(1:Int)))),cP a.e],dv v2.x v2.L)=gi v0/\(cy v0/\List.length v0.x.od - v0.i=v1)/\aq (List.isEmpty (bp.out v0)) (K (j []) (dv v0.x v0.L)) (K (j []) (nR v0.x (v0.L++bp.out v0)))) (K (j []) (dv v2.x v2.L))) (aq q (aq q (∃(v6:gy),([cP a.e,iT m],[])=qN v6/\True/\aq (eP v6.e v6.t) H E) E) (aq (toInt t==(4:Int)) F (aq (toInt t==(5:Int)) F (aq (toInt t==(6:Int)) F (∃(v4:nS),letI y:=iA (nS.fF v4);([c 0,bp.lit a,cP a.e],dv a.x a.L)=SD v4/\Hn v4/\aq (!oS v4.op y) w (∃(v3:gy),([cP a.e,iT m],[])=qN v3/\True/\aq (eP v3.e v3.t) (∃(v2:Ev),([cP a.e,AV.str (toStr (ag m 1)),AV.agg [f false,d (nH v4.op y),AV.str {data:= #[]}]],[])=qO v2/\True/\∃(v1:Nat),v1<r/\∃(v0:bp),([c 0,g z,cP (dG.put v2.e v2.s v2.v)],dv a.x a.L)=gi v0/\(cy v0/\List.length v0.x.od - v0.i=v1)/\aq (List.isEmpty (bp.out v0)) (K (j []) (dv v0.x v0.L)) (K (j []) (nR v0.x (v0.L++bp.out v0)))) (∃(v2:gy),([cP a.e,iT m],[])=dS v2/\bL (AT.tm v2.t)=true/\aq (eU.n (bK v2.e (AT.tm v2.t))==nH v4.op y) G w)))))))))))):=by kernel_rfl
end Go.Proofs.YtioeffnadipbaaaGreatDoor
