import Derived.Test.YtioeffnadipbaaaGreatDoorDePC
namespace Go.Proofs.YtioeffnadipbaaaGreatDoor
open Go Go.Dn Go.Rl Go.Proofs Go.Shelf
attribute [local irreducible] a0 vc
set_option maxRecDepth 20000
def F5:Go.Shelf.Ren:=⟨fun|5=>177|7=>165|n=>n,fun|23=>162|25=>9|3=>72|4=>4|20=>20|n=>n,fun n=>n⟩
theorem Vq:SlLaysW.n5 Tryz.prog F5:={mixed:=by rfl,f5:=⟨ "maps.Clone[sorites/model.env,string,sorites/api.Val]",by rfl,Tryz.func177.trans (congrArg _ (by rfl))⟩,f7:=Tryz.func165.trans (congrArg _ (by rfl)),t4:=Tryz.underlying4,a4:=Tryz.isAgg4,z4:=Tryz.sizeOf4,v4:=Tryz.zeroValue4,t20:=Tryz.underlying20,a20:=Tryz.isAgg20,z20:=Tryz.sizeOf20,v20:=Tryz.zeroValue20,t23:=Tryz.underlying162,a23:=Tryz.isAgg162,z23:=Tryz.sizeOf162,v23:=Tryz.zeroValue162}
theorem VO κ: ∀a st K,rF (Pr κ).toProgram a st K->b7 (Pr κ) 177 a st K:=fun _ _ _ h=>J9   rfl ⟨_,Tryz.func177,rfl⟩ Vq h
noncomputable def Vi κ:=(an9 κ).Xh FG (VO _)
theorem ao1 κ ks vs s v K:(a0 (Vi κ).E 12 145 [.eS 9 72 ks vs, .lit (.string s),e6 v] [] K)=(
 K (AV.eS 9 72 (List.map (fun(x:Value×AV)=>x.1) (eC (List.zip ks vs) (Value.string s) (AV.agg [AV.bool v.y,AV.int v.n,AV.str v.s]))) (List.map (fun(x
 :Value×AV)=>x.2) (eC (List.zip ks vs) (Value.string s) (AV.agg [AV.bool v.y,AV.int v.n,AV.str v.s])))) []):=by kernel_rfl
theorem ai3 κ:bd (Vi κ).E 12 145 (aO qu (fun _=>True) XW):=by
 refine aR ?_;rintro⟨e,s,v⟩ K _ a;refine Eq.mpr (ao1 _ _ _ s v K) ?_;rw[Mv,Py,List.map_map,List.map_map];exact a
noncomputable def Qb κ:=((Vi κ).call (ai3 _)).calm [145,140,144]
noncomputable def MY κ r:=(Qb κ).E.aw 140 fun a st K=>∃m,m<r/\VD m a st K
theorem an6 κ r ks vs t K:(a0 (MY κ r) 12 140 [.eS 9 72 ks vs,dn t] [] K)=(
 letI a:=IntKind.wrap IntKind.i64
 letI b:=AV.int
 letI c:=AV.agg
 letI d:=AV.bool
 letI e:=AV.str
 letI f:=AV.lit
 letI k:=c6 (List.zip ks vs) (Value.string t.s) (c [d false,b 0,e {data:= #[]}])
 letI l:=true&&decide ((1:Int)<(↑(t.l.length):Int))
 letI m:=toInt (ag (nth t.l 0) 0)
 letI n:=toStr (ag (nth t.l 0) 1)
 letI o:=toInt (ag (nth t.l 0) 2)
 letI p:=toInt (ag (nth t.l 1) 0)
 letI q:=toStr (ag (nth t.l 1) 1)
 letI s:=toInt (ag (nth t.l 1) 2)
 aq (t.op==(1:Int)) (K (c [f (Value.bool (Dn.toBool (ag k 0))),f (Value.int IntKind.i64 (toInt (ag k 1))),f (Value.string (toStr (ag (c6 (List.zip ks vs) (Value.string t.s) (c [d false,b 0,e {data:= #[]}])) 2)))]) []) (aq (t.op==(2:Int)) (K (c [d false,b t.n,e {data:= #[]}]) []) (aq (t.op==(3:Int)) (K (c [d true,b 0,e t.s]) []) (aV (true&&decide ((0:Int)<(↑(t.l.length):Int))) ((∃(e3:Nat),e3<r/\∃(e2:gy),letI j:=bK e2.e (AT.tm e2.t);([AV.eS 9 72 ks vs,c [b m,e n,b o,AV.ah 38 (af (ag (nth t.l 0) 3))]],[])=dT e2/\qp e3 e2/\aV l (∃(e1:Nat),e1<r/\∃(e0:gy),letI g:=bK e0.e (AT.tm e0.t);([AV.eS 9 72 ks vs,c [b p,e q,b s,AV.ah 38 (af (ag (nth t.l 1) 3))]],[])=dT e0/\qp e1 e0/\aq (t.op==(5:Int)) (K (c [d false,f (Value.int IntKind.i64 (a (eU.n j+eU.n g))),e {data:= #[]}]) []) (aq (t.op==(6:Int)) (K (c [d false,f (Value.int IntKind.i64 (a (eU.n j - eU.n g))),e {data:= #[]}]) []) (K (c [d false,f (Value.int IntKind.i64 (a (eU.n j*eU.n g))),e {data:= #[]}]) []))))/\aV l (∃(e3:Nat),e3<r/\∃(e2:gy),letI h:=bK e2.e (AT.tm e2.t);([AV.eS 9 72 ks vs,c [b m,e n,b o,AV.ah 38 (af (ag (nth t.l 0) 3))]],[])=dT e2/\qp e3 e2/\∃(e1:Nat),e1<r/\∃(e0:gy),letI i:=bK e0.e (AT.tm e0.t);([AV.eS 9 72 ks vs,c [b p,e q,b s,AV.ah 38 (af (ag (nth t.l 1) 3))]],[])=dT e0/\qp e1 e0/\aq (t.op==(5:Int)) (K (c [d false,f (Value.int IntKind.i64 (a (eU.n h+eU.n i))),e {data:= #[]}]) []) (aq (t.op==(6:Int)) (K (c [d false,f (Value.int IntKind.i64 (a (eU.n h - eU.n i))),e {data:= #[]}]) []) (K (c [d false,f (Value.int IntKind.i64 (a (eU.n h*eU.n i))),e {data:= #[]}]) [])))))))):=by kernel_rfl
theorem ak6 κ r(d: ∀a st K,(∃m,m<r/\VD m a st K)->b7 (Pr κ) 140 a st K):aE (MY κ r)/\aj (MY κ r)/\(MY κ r).P=Pr κ:=
 ⟨(Qb _).ok.fT d,(Qb _).mono.aw fun _ _ _ _ c ⟨m,e,b⟩=>⟨m,e,aJ _ _ _ _ c b⟩,rfl⟩
theorem ao2 κ r:bd (MY κ r) 12 140 (VD r):=by
 refine aR ?_;rintro⟨e,t⟩ K ⟨v,x⟩ c;simp only at v x
 replace c:K (e6 (bK e t.tm)) []:=c
 refine Eq.mpr (an6 κ r _ _ t K) ?_;rw[Mv,show(AV.agg [.bool false, .int 0, .lit (.string (ByteArray.mk #[]))])=e6 ⟨false,0,ByteArray.mk #[]⟩ from rfl,Pm];have p:bK e t.tm=bif t.op==1 then e.get t.s else bif t.op==2 then⟨false,t.n,ByteArray.mk #[]⟩ else bif t.op==3 then⟨true,0,t.s⟩ else bK e t.tm:=by
  cases d:t.op==1 with
  |true=>rw[AT.tm,bK,d];rfl
  | false=>cases f:t.op==2 with
   |true=>rw[AT.tm,bK,d,f];rfl
   |false=>cases g:t.op==3 with
    |true=>rw[AT.tm,bK,d,f,g];rfl
    |false=>rfl
 refine ae.2 ⟨fun d=>?_,fun d=>ae.2 ⟨fun f=>?_,fun f=>ae.2 ⟨fun g=>?_,fun g=>?_⟩⟩⟩
 ·rw[p,d] at c;exact c
 ·rw[p,d,f] at c;exact c
 ·rw[p,d,f,g] at c;exact c
 ·obtain⟨a,b,y,C,A⟩:=Ly d f g x
  obtain⟨i,s,n,l⟩:=t;simp only at y d f g;subst y;rw[O8 e i s n a b d f g] at c;have z:(AT.mk i s n [a,b]).tm.mL=1+((cI a).mL+((cI b).mL+0)):=by
   simp only[AT.tm,aa,ar3,List.map_nil,Tm.mL,bk]
  rw[z] at v;have w: ∀m,(cI a).mL=m->qp m ⟨e,eH a⟩:=fun m o=>⟨by rw[←o];simp only[iE],by simp only[iE];exact C⟩
  have q: ∀m,(cI b).mL=m->qp m ⟨e,eH b⟩:=fun m o=>⟨by rw[←o];simp only[iE],by simp only[iE];exact A⟩
  have B:(true&&decide (0<(([a,b]:List AV).length:Int)))=true:=by simp
  have u:(true&&decide (1<(([a,b]:List AV).length:Int)))=true:=by simp
  have h:aq (i==5) (K (e6 ⟨false,IntKind.wrap .i64 ((bK e (eH a).tm).n+(bK e (eH b).tm).n),ByteArray.mk #[]⟩) []) (aq (i==6) (K (e6 ⟨false,IntKind.wrap .i64 ((bK e (eH a).tm).n - (bK e (eH b).tm).n),ByteArray.mk #[]⟩) []) (K (e6 ⟨false,IntKind.wrap .i64 ((bK e (eH a).tm).n*(bK e (eH b).tm).n),ByteArray.mk #[]⟩) [])):=
   ae.2 ⟨fun j=>by rw[j] at c;exact c,fun j=>ae.2 ⟨fun k=>by rw[j,k] at c;exact c,fun k=>by rw[j,k] at c;exact c⟩⟩
  exact ai.2 ⟨B,⟨(cI a).mL,by omega,⟨e,eH a⟩,rfl,w _ rfl,ai.2 ⟨u,(cI b).mL,by omega,⟨e,eH b⟩,rfl,q _ rfl,h⟩⟩,ai.2 ⟨u,(cI a).mL,by omega,⟨e,eH a⟩,rfl,w _ rfl,(cI b).mL,by omega,⟨e,eH b⟩,rfl,q _ rfl,h⟩⟩
theorem am8 κ: ∀a st K,aO dT (fun x=>bL x.t.tm=true) S4 a st K->b7 (Pr κ) 140 a st K:=by
 rintro a st K ⟨x,c,d,b⟩;exact aE.ph _ _ (ak6 _) (ao2 _) _ _ _ K ⟨x,c,⟨rfl,d⟩,b⟩
noncomputable def Uo κ:=(Qb κ).Xh aJ (am8 _)
theorem yFr κ ks vs t K:(a0 (Uo κ).E 12 144 [.eS 9 72 ks vs,dn t] [] K)=(
 aq (t.op==(1:Int)) (K (AV.lit (Value.bool !o9 (List.zip ks vs) (Value.string t.s))) []) (K (AV.bool false) [])):=by kernel_rfl
def dG.has:dG->ByteArray->Bool
 |[],_=>false
 |(t,_)::e,s=>bif decide (s=t) then true else dG.has e s
theorem Pl s: ∀e,o9 (Zo e) (.string s)=e.has s
 |[]=>rfl
 |(t,w)::e=>by
  have a:=Pl s e
  grind [o9,V3,dG.has]
def eP(e:dG)(t:AT):=t.op==1&& !e.has t.s
def qK(x:gy):List AV×List Dn.Obj:=([cR x.e,dn x.t],[])
def Yd(x:gy):Out (AV×List Dn.Obj):= .one (.bool (eP x.e x.t),[])
theorem cFr κ:bd (Uo κ).E 12 144 (aO qK (fun _=>True) Yd):=by
 refine aR ?_;rintro⟨e,t⟩ K _ a
 replace a:K _ []:=a
 refine Eq.mpr (yFr _ _ _ t K) ?_
 grind [Pl,eP,ae]
noncomputable def BFr κ:=(Uo κ).call (cFr _)
theorem yHm κ op x y K:(a0 (BFr κ).E 12 146 [.int op,e6 x,e6 y] [] K)=(
 letI a:=AV.int
 letI b:=AV.agg
 letI c:=AV.bool
 letI d:=AV.str
 aq (op==(3:Int)) (K (c (bz [b [c x.y,a x.n,d x.s]] [b [c y.y,a y.n,d y.s]]==(0:Int))) []) (aq (op==
 (4:Int)) (K (c (bz [b [c x.y,a x.n,d x.s]] [b [c y.y,a y.n,d y.s]] != (0:Int))) []) (aq (op==(5:
 Int)) (K (c (decide (bz [b [c x.y,a x.n,d x.s]] [b [c y.y,a y.n,d y.s]]<(0:Int)))) []) (K (c
 (decide (bz [b [c x.y,a x.n,d x.s]] [b [c y.y,a y.n,d y.s]]<=(0:Int)))) [])))):=by kernel_rfl
def gV(a:Int) x y:=bif a==3 then bz [e6 x] [e6 y]==0 else bif a==4 then bz [e6 x] [e6 y] != 0 else bif a==5 then decide (bz [e6 x] [e6 y]<0) else decide (bz [e6 x] [e6 y]<=0)
structure B2 where
 op:Int
 x:eU
 y:eU
def oa(a:B2):List AV×List Dn.Obj:=([.int a.op,e6 a.x,e6 a.y],[])
def Y8(a:B2):Out (AV×List Dn.Obj):= .one (.bool (gV a.op a.x a.y),[])
theorem cHm κ:bd (BFr κ).E 12 146 (aO oa (fun _=>True) Y8):=by
 refine aR ?_;rintro⟨b,x,y⟩ K _ a
 replace a:K _ _:=a
 refine Eq.mpr (yHm _ _ x y K) ?_
 grind [gV,ae]
noncomputable def Ux κ:=((BFr κ).call (cHm _)).calm [146]
end Go.Proofs.YtioeffnadipbaaaGreatDoor
namespace Go.Proofs.YtioeffnadipbaaaGreatDoor
open Go Go.Dn Go.Rl Go.Proofs
attribute [local irreducible] a0 vc
set_option maxRecDepth 20000
abbrev Lp(b:ByteArray)(l a:List AV)(e:dG):List Dn.Obj:=[.box 51 (.ah 70 a), .box 162 (cR e), .box 45 (.agg [.lit (.string b), .ah 38 l])]
structure X7 where
 rel:ByteArray
 l:List AV
 rows:List AV
 xs:List AV
 e:dG
 i:Nat
 row:List AV
 g:dG
 j:Nat
abbrev FL(x:X7):=sp 56 [(0, .cf 0),(2, .ptr 2 0 [] 0),(3, .ptr 3 0 [] 0),(6, .ah 72 x.row),(7,cR x.g),(10, .ah 70 x.rows),(11, .int x.rows.length),(12, .int x.i),(18, .ah 38 x.l),(19, .int x.l.length),(20, .int x.j)] (.ext (some x.xs)::Lp x.rel x.l x.rows x.e)
theorem xMi(κ:Kp)(x:X7) I(N:Nat) K:(vc (Ux κ).E 12 176 none 4 (ad (Pr κ).toProgram 176 5) (FL x) (bj (Ux κ).E 176 5 4 I N K))=(
 letI a:=AV.int
 letI b:=AV.ptr
 letI c:=AV.agg
 letI d:=AV.bool
 letI e:=AV.str
 letI f:=Obj.box
 letI g:=Obj.ext
 letI h:=AV.ah
 letI i:=AV.cf
 letI j:=AV.eS
 letI B:=Int.toNat (↑(x.j):Int)
 letI l:=c [e x.rel,h 38 x.l]
 letI z:=IntKind.wrap IntKind.i64 ((↑(x.j):Int)+(1:Int))
 letI A:=true&&decide ((↑(x.j):Int)<(↑(x.row.length):Int))
 letI v:=nth x.l B
 letI m:=nth x.row B
 letI n:=h 70 x.rows
 letI o:=x.rows.length
 letI w:=x.l.length
 letI k:=toStr (ag v 1)
 letI y:=(↑(x.j):Int)<(↑w:Int)
 letI p:=toInt (ag v 0)
 letI q:=toInt (ag v 2)
 letI r:=toStr (ag m 2)
 letI s:=af (ag v 3)
 aq (decide y) (aV (true&&decide y) (aq (toInt (ag v 0)==(4:Int)) (∃(e1:Nat),e1<N/\I e1 (sp 56 [(0,i 0),(2,b 2 0 [] 0),(3,b 3 0 [] 0),(6,h 72 x.row),(7,j 9 72 (List.map (fun(e0:ByteArray×eU)=>Value.string e0.1) x.g) (List.map (fun(e0:ByteArray×eU)=>c [d e0.2.y,a e0.2.n,e e0.2.s]) x.g)),(10,h 70 x.rows),(11,a (↑o:Int)),(12,a (↑(x.i):Int)),(18,h 38 x.l),(19,a (↑w:Int)),(20,a z)] [g (some x.xs),f 51 n,f 162 (j 9 72 (List.map (fun(e0:ByteArray×eU)=>Value.string e0.1) x.e) (List.map (fun(e0:ByteArray×eU)=>c [d e0.2.y,a e0.2.n,e e0.2.s]) x.e)),f 45 l])) (∃(e3:gy),([j 9 72 (List.map (fun(e0:ByteArray×eU)=>Value.string e0.1) x.g) (List.map (fun(e0:ByteArray×eU)=>c [d e0.2.y,a e0.2.n,e e0.2.s]) x.g),c [a p,e k,a q,h 38 s]],[])=qK e3/\True/\aq (eP e3.e e3.t) (aV A (∃(e2:Ep),([j 9 72 (List.map (fun(e0:ByteArray×eU)=>Value.string e0.1) x.g) (List.map (fun(e0:ByteArray×eU)=>c [d e0.2.y,a e0.2.n,e e0.2.s]) x.g),e k,c [d (Dn.toBool (ag m 0)),a (toInt (ag m 1)),e r]],[])=qu e2/\True/\∃(e1:Nat),e1<N/\I e1 (sp 56 [(0,i 0),(2,b 2 0 [] 0),(3,b 3 0 [] 0),(6,h 72 x.row),(7,j 9 72 (List.map (fun(e0:ByteArray×eU)=>Value.string e0.1) (dG.put e2.e e2.s e2.v)) (List.map (fun(e0:ByteArray×eU)=>c [d e0.2.y,a e0.2.n,e e0.2.s]) (dG.put e2.e e2.s e2.v))),(10,h 70 x.rows),(11,a (↑o:Int)),(12,a (↑(x.i):Int)),(18,h 38 x.l),(19,a (↑w:Int)),(20,a z)] [g (some x.xs),f 51 n,f 162 (j 9 72 (List.map (fun(e0:ByteArray×eU)=>Value.string e0.1) x.e) (List.map (fun(e0:ByteArray×eU)=>c [d e0.2.y,a e0.2.n,e e0.2.s]) x.e)),f 45 l]))) ((∃(e2:gy),letI t:=bK e2.e (AT.tm e2.t);([j 9 72 (List.map (fun(e0:ByteArray×eU)=>Value.string e0.1) x.g) (List.map (fun(e0:ByteArray×eU)=>c [d e0.2.y,a e0.2.n,e e0.2.s]) x.g),c [a p,e k,a q,h 38 s]],[])=dT e2/\bL (AT.tm e2.t)=true/\aV A (aq (!(eU.y t==Dn.toBool (ag m 0)&&(eU.n t==toInt (ag m 1)&&(ByteArray.toList (eU.s t)==ByteArray.toList r&&true)))) (K (Exit.exit 1) (sp 56 [(0,i 0),(2,b 2 0 [] 0),(3,b 3 0 [] 0),(10,h 70 x.rows),(11,a (↑o:Int)),(12,a (↑(x.i):Int))] [g (some x.xs),f 51 n,f 162 (j 9 72 (List.map (fun(e0:ByteArray×eU)=>Value.string e0.1) x.e) (List.map (fun(e0:ByteArray×eU)=>c [d e0.2.y,a e0.2.n,e e0.2.s]) x.e)),f 45 l])) (∃(e1:Nat),e1<N/\I e1 (sp 56 [(0,i 0),(2,b 2 0 [] 0),(3,b 3 0 [] 0),(6,h 72 x.row),(7,j 9 72 (List.map (fun(e0:ByteArray×eU)=>Value.string e0.1) x.g) (List.map (fun(e0:ByteArray×eU)=>c [d e0.2.y,a e0.2.n,e e0.2.s]) x.g)),(10,h 70 x.rows),(11,a (↑o:Int)),(12,a (↑(x.i):Int)),(18,h 38 x.l),(19,a (↑w:Int)),(20,a z)] [g (some x.xs),f 51 n,f 162 (j 9 72 (List.map (fun(e0:ByteArray×eU)=>Value.string e0.1) x.e) (List.map (fun(e0:ByteArray×eU)=>c [d e0.2.y,a e0.2.n,e e0.2.s]) x.e)),f 45 l]))))/\aV A (∃(e2:gy),letI u:=bK e2.e (AT.tm e2.t);([j 9 72 (List.map (fun(e0:ByteArray×eU)=>Value.string e0.1) x.g) (List.map (fun(e0:ByteArray×eU)=>c [d e0.2.y,a e0.2.n,e e0.2.s]) x.g),c [a p,e k,a q,h 38 s]],[])=dT e2/\bL (AT.tm e2.t)=true/\aq (!(eU.y u==Dn.toBool (ag m 0)&&(eU.n u==toInt (ag m 1)&&(ByteArray.toList (eU.s u)==ByteArray.toList r&&true)))) (K (Exit.exit 1) (sp 56 [(0,i 0),(2,b 2 0 [] 0),(3,b 3 0 [] 0),(10,h 70 x.rows),(11,a (↑o:Int)),(12,a (↑(x.i):Int))] [g (some x.xs),f 51 n,f 162 (j 9 72 (List.map (fun(e0:ByteArray×eU)=>Value.string e0.1) x.e) (List.map (fun(e0:ByteArray×eU)=>c [d e0.2.y,a e0.2.n,e e0.2.s]) x.e)),f 45 l])) (∃(e1:Nat),e1<N/\I e1 (sp 56 [(0,i 0),(2,b 2 0 [] 0),(3,b 3 0 [] 0),(6,h 72 x.row),(7,j 9 72 (List.map (fun(e0:ByteArray×eU)=>Value.string e0.1) x.g) (List.map (fun(e0:ByteArray×eU)=>c [d e0.2.y,a e0.2.n,e e0.2.s]) x.g)),(10,h 70 x.rows),(11,a (↑o:Int)),(12,a (↑(x.i):Int)),(18,h 38 x.l),(19,a (↑w:Int)),(20,a z)] [g (some x.xs),f 51 n,f 162 (j 9 72 (List.map (fun(e0:ByteArray×eU)=>Value.string e0.1) x.e) (List.map (fun(e0:ByteArray×eU)=>c [d e0.2.y,a e0.2.n,e e0.2.s]) x.e)),f 45 l]))))))) (K (Exit.exit 2) (sp 56 [(0,i 0),(2,b 2 0 [] 0),(3,b 3 0 [] 0),(7,j 9 72 (List.map (fun(e0:ByteArray×eU)=>Value.string e0.1) x.g) (List.map (fun(e0:ByteArray×eU)=>c [d e0.2.y,a e0.2.n,e e0.2.s]) x.g)),(10,h 70 x.rows),(11,a (↑o:Int)),(12,a (↑(x.i):Int))] [g (some x.xs),f 51 n,f 162 (j 9 72 (List.map (fun(e0:ByteArray×eU)=>Value.string e0.1) x.e) (List.map (fun(e0:ByteArray×eU)=>c [d e0.2.y,a e0.2.n,e e0.2.s]) x.e)),f 45 l]))):=by kernel_rfl
def GS(a:eU) v:=a.y==toBool (ag v 0)&&(a.n==toInt (ag v 1)&&(a.s.toList==(toStr (ag v 2)).toList&&true))
def nO(a:List AV):List AV->Nat->dG->Option dG
 |[],_,g=>some g
 |t::b,j,g=>bif toInt (ag t 0)==4 then nO a b (j+1) g
  else bif eP g (eH t) then nO a b (j+1) (g.put (eH t).s ⟨toBool (ag (nth a j) 0),toInt (ag (nth a j) 1),toStr (ag (nth a j) 2)⟩)
  else bif !GS (bK g (eH t).tm) (nth a j) then none else nO a b (j+1) g
def gi(l:List _):=∀t,t∈l->toInt (ag t 0)≠4->bL (eH t).tm=true
def Ac(x:X7):=x.j<=x.l.length/\x.l.length<=100000/\x.row.length=x.l.length/\gi x.l
def rf(x:X7):Out (Exit×S):= .aq (nO x.row (x.l.drop x.j) x.j x.g).isSome
 (.one (.exit 2,sp 56 [(0, .cf 0),(2, .ptr 2 0 [] 0),(3, .ptr 3 0 [] 0),(7,cR ((nO x.row (x.l.drop x.j) x.j x.g).getD [])),(10, .ah 70 x.rows),(11, .int x.rows.length),(12, .int x.i)] (.ext (some x.xs)::Lp x.rel x.l x.rows x.e)))
 (.one (.exit 1,sp 56 [(0, .cf 0),(2, .ptr 2 0 [] 0),(3, .ptr 3 0 [] 0),(10, .ah 70 x.rows),(11, .int x.rows.length),(12, .int x.i)] (.ext (some x.xs)::Lp x.rel x.l x.rows x.e)))
theorem lMi κ:aU (Ux κ).E 12 176 5 (aG 4 FL Ac rf):=by
 refine aC (fun x=>x.l.length - x.j) ?_;rintro⟨d,l,a,xs,e,i,b,g,j⟩ K ⟨B,z,A,q⟩ c;simp only at B z A q;rw[show(Ux κ).E.P=Pr κ from rfl];refine Eq.mpr (xMi κ ⟨d,l,a,xs,e,i,b,g,j⟩ _ _ K) ?_;simp only[Int.toNat_natCast];rw[ae,ap6,ap8];refine⟨fun h=>?_,fun h=>?_⟩
 ·have o:j<l.length:=by omega
  have hd:l.drop j=nth l j::l.drop (j+1):=by rw[aq7 o,←aM l j o]
  have v:nth l j∈l:=by rw[aM l j o];exact List.getElem_mem _
  have C:(true&&decide ((j:Int)<(l.length:Int)))=true:=by simp;omega
  have u:(true&&decide ((j:Int)<(b.length:Int)))=true:=by simp;omega
  have f: ∀p,((rf ⟨d,l,a,xs,e,i,b,p,j+1⟩).run fun y=>K y.1 y.2)->∃m,m<l.length - j/\et FL Ac rf (fun x=>x.l.length - x.j) K m (FL ⟨d,l,a,xs,e,i,b,p,j+1⟩):=fun p F=>
   ⟨_,by simp only;omega,⟨d,l,a,xs,e,i,b,p,j+1⟩,rfl,⟨o,z,A,q⟩,rfl,F⟩
  have D:IntKind.wrap .i64 ((j:Int)+1)=((j+1:Nat):Int):=by rw[az (by omega) (by omega)];omega
  rw[D];refine ai.2 ⟨C,ae.2 ⟨fun k=>f g ?_,fun k=>⟨⟨g,eH (nth l j)⟩,rfl,trivial,?_⟩⟩⟩
  ·unfold rf at c⊢
   simp only[hd,nO] at c;rw[k] at c;exact c
  ·simp only
   have w:toInt (ag (nth l j) 0)≠4:=by simpa using k
   refine ae.2 ⟨fun t=>ai.2 ⟨u,⟨g,(eH (nth l j)).s,⟨toBool (ag (nth b j) 0),toInt (ag (nth b j) 1),toStr (ag (nth b j) 2)⟩⟩,rfl,trivial,f _ ?_⟩,fun t=>?_⟩
   ·unfold rf at c⊢
    simp only[hd,nO] at c;rw[k,t] at c;exact c
   ·have n:aq (!GS (bK g (eH (nth l j)).tm) (nth b j)) (K (.exit 1) (sp 56 [(0, .cf 0),(2, .ptr 2 0 [] 0),(3, .ptr 3 0 [] 0),(10, .ah 70 a),(11, .int a.length),(12, .int i)] (.ext (some xs)::Lp d l a e))) (∃m,m<l.length - j/\et FL Ac rf (fun x=>x.l.length - x.j) K m (FL ⟨d,l,a,xs,e,i,b,g,j+1⟩)):=by
     unfold rf at c;simp only[hd,nO] at c;rw[k,t] at c;refine ae.2 ⟨fun r=>?_,fun r=>f g ?_⟩
     ·rw[r] at c;exact c
     ·rw[r] at c;exact c
    exact⟨⟨⟨g,eH (nth l j)⟩,rfl,q _ v w,ai.2 ⟨u,n⟩⟩,ai.2 ⟨u,⟨g,eH (nth l j)⟩,rfl,q _ v w,n⟩⟩
 ·rw[show rf ⟨d,l,a,xs,e,i,b,g,j⟩=_ from rfl] at c
  unfold rf at c;simp only at c;rw[aq4 (by omega)] at c;exact c
noncomputable def Wv κ:=(Ux κ).loop (lMi _)
structure AMr where
 rel:ByteArray
 l:List AV
 rows:List AV
 xs:List AV
 e:dG
 i:Nat
abbrev Pe(x:AMr):=sp 56 [(0, .cf 0),(2, .ptr 2 0 [] 0),(3, .ptr 3 0 [] 0),(10, .ah 70 x.rows),(11, .int x.rows.length),(12, .int x.i)] (.ext (some x.xs)::Lp x.rel x.l x.rows x.e)
theorem xMr κ x I N K:(vc (Wv κ).E 12 176 none 4 (ad (Pr κ).toProgram 176 1) (Pe x) (bj (Wv κ).E 176 1 4 I N K))=(
 letI b:=AV.int
 letI c:=AV.agg
 letI d:=AV.bool
 letI e:=AV.str
 letI f:=Obj.box
 letI g:=Obj.ext
 letI h:=AV.ah
 letI i:=AV.eS
 aq (decide ((↑(x.i):Int)<(↑(x.rows.length):Int))) (aV (true&&decide ((↑(x.i):Int)<(↑(x.rows.length):Int))) (ad (Pg.toProgram (Env.P (EB.E (Ux κ)))) 176 5=ad (Pg.toProgram (Env.P (EB.E (Ux κ)))) 176 5/\∃(a:X7),letI n:=[(0,AV.cf 0),(2,AV.ptr 2 0 [] 0),(3,AV.ptr 3 0 [] 0),(10,h 70 a.rows),(11,b (↑(a.rows.length):Int)),(12,b (IntKind.wrap IntKind.i64 ((↑(a.i):Int)+(1:Int))))];letI j:=nO a.row (List.drop a.j a.l) a.j a.g;letI k:=c [e a.rel,h 38 a.l];letI l:=h 70 a.rows;sp 56 [(0,AV.cf 0),(2,AV.ptr 2 0 [] 0),(3,AV.ptr 3 0 [] 0),(6,h 72 (af (nth x.rows (Int.toNat (↑(x.i):Int))))),(7,i 9 72 (List.map (fun(x:ByteArray×eU)=>Value.string x.1) x.e) (List.map (fun(x:ByteArray×eU)=>c [d x.2.y,b x.2.n,e x.2.s]) x.e)),(10,h 70 x.rows),(11,b (↑(x.rows.length):Int)),(12,b (↑(x.i):Int)),(18,h 38 x.l),(19,b (↑(x.l.length):Int)),(20,b 0)] [g (some x.xs),f 51 (h 70 x.rows),f 162 (i 9 72 (List.map (fun(x:ByteArray×eU)=>Value.string x.1) x.e) (List.map (fun(x:ByteArray×eU)=>c [d x.2.y,b x.2.n,e x.2.s]) x.e)),f 45 (c [e x.rel,h 38 x.l])]=FL a/\Ac a/\aq (Option.isSome j) (∃(rest:List AV),a.xs=AV.aH [i 9 72 (List.map (fun(x:ByteArray×eU)=>Value.string x.1) (Option.getD j [])) (List.map (fun(x:ByteArray×eU)=>c [d x.2.y,b x.2.n,e x.2.s]) (Option.getD j []))]::rest/\(∃(m:Nat),m<N/\I m (sp 56 n [g (some rest),f 51 l,f 162 (i 9 72 (List.map (fun(x:ByteArray×eU)=>Value.string x.1) a.e) (List.map (fun(x:ByteArray×eU)=>c [d x.2.y,b x.2.n,e x.2.s]) a.e)),f 45 k]))/\K Exit.ret (sp 56 [] [g none,f 51 l,f 162 (i 9 72 (List.map (fun(x:ByteArray×eU)=>Value.string x.1) a.e) (List.map (fun(x:ByteArray×eU)=>c [d x.2.y,b x.2.n,e x.2.s]) a.e)),f 45 k])) (∃(m:Nat),m<N/\I m (sp 56 n [g (some a.xs),f 51 l,f 162 (i 9 72 (List.map (fun(x:ByteArray×eU)=>Value.string x.1) a.e) (List.map (fun(x:ByteArray×eU)=>c [d x.2.y,b x.2.n,e x.2.s]) a.e)),f 45 k])))) (K (Exit.exit 0) (sp 56 [] [g (some x.xs),f 51 (h 70 x.rows),f 162 (i 9 72 (List.map (fun(x:ByteArray×eU)=>Value.string x.1) x.e) (List.map (fun(x:ByteArray×eU)=>c [d x.2.y,b x.2.n,e x.2.s]) x.e)),f 45 (c [e x.rel,h 38 x.l])]))):=by kernel_rfl
def nq l(a:List _) e:=a.filterMap fun r=>nO (af r) l 0 e
def FJ(L:List dG):List AV:=L.map fun g=> .aH [cR g]
structure D3(l rows:List AV):Prop where
 n:rows.length<=100000000
 k:l.length<=100000
 h:gi l
 w: ∀r,r∈rows->(af r).length=l.length
def Fc(x:AMr):=x.i<=x.rows.length/\D3 x.l x.rows/\x.xs=FJ (nq x.l (x.rows.drop x.i) x.e)
def SY(x:AMr):Out (Exit×S):= .all (fun _=>True) fun b=> .aq b
 (.one (.exit 0,sp 56 [] (.ext (some [])::Lp x.rel x.l x.rows x.e)))
 (.one (.ret,sp 56 [] (.ext none::Lp x.rel x.l x.rows x.e)))
theorem JA l a(e:dG)(i:Nat)(h:i<a.length):nq l (a.drop i) e=(match nO (af (nth a i)) l 0 e with|some g=>g::nq l (a.drop (i+1)) e|none=>nq l (a.drop (i+1)) e):=by
 rw[aq7 h,←aM _ i h,nq,List.filterMap_cons];cases nO _ l 0 e<;>rfl
theorem lMr κ:aU (Wv κ).E 12 176 1 (aG 4 Pe Fc SY):=by
 refine aC (fun x=>x.rows.length - x.i) ?_;rintro⟨c,l,a,xs,e,i⟩ K ⟨v,f,b⟩ q;simp only at v f b;rw[show(Wv κ).E.P=Pr κ from rfl];refine Eq.mpr (xMr κ ⟨c,l,a,xs,e,i⟩ _ _ K) ?_;have j:=q true trivial;have o:=q false trivial;simp only[Out.run,aq] at j o;simp only[Int.toNat_natCast];have z:=f.n;rw[ae,ap6,ap8];refine⟨fun h=>?_,fun h=>?_⟩
 ·have r:i<a.length:=by omega
  have t:nth a i∈a:=by rw[aM a i r];exact List.getElem_mem _
  rw[JA l a e i r] at b;have u:IntKind.wrap .i64 ((i:Int)+1)=((i+1:Nat):Int):=by rw[az (by omega) (by omega)];omega
  have d: ∀p,p=FJ (nq l (a.drop (i+1)) e)->∃m,m<a.length - i/\et Pe Fc SY (fun x=>x.rows.length - x.i) K m (Pe ⟨c,l,a,p,e,i+1⟩):=fun p y=>
   ⟨_,by simp only;omega,⟨c,l,a,p,e,i+1⟩,rfl,⟨r,f,y⟩,rfl,q⟩
  refine ai.2 ⟨by simp;omega,trivial,⟨c,l,a,xs,e,i,af (nth a i),e,0⟩,rfl,⟨Nat.zero_le _,f.k,f.w _ t,f.h⟩,?_⟩;simp only[aq6];rw[u];cases s:nO (af (nth a i)) l 0 e with
  |some g=>
   rw[s] at b;exact⟨_,b,d _ rfl,o⟩
  |none=>
   rw[s] at b;exact d _ b
 ·rw[aq4 (by omega)] at b
  have b:xs=[]:=b;subst b;exact j
noncomputable def BMr κ:=(Wv κ).loop (lMr _)
theorem yMm κ rel l rows xs e K:(a0 (BMr κ).E 12 176 [.cf 0, .ptr 1 0 [] 0, .ptr 2 0 [] 0, .ptr 3 0 [] 0] (.ext (some xs)::Lp rel l rows e) K)=(
 letI b:=AV.int
 letI c:=AV.agg
 letI d:=AV.str
 letI f:=Obj.box
 letI g:=AV.ah
 ad (Pg.toProgram (Env.P (EB.E (Wv κ)))) 176 1=ad (Pg.toProgram (Env.P (EB.E (Wv κ)))) 176 1/\∃(a:AMr),letI h:=c [d a.rel,g 38 a.l];sp 56 [(0,AV.cf 0),(2,AV.ptr 2 0 [] 0),(3,AV.ptr 3 0 [] 0),(10,g 70 rows),(11,b (↑(rows.length):Int)),(12,b 0)] [Obj.ext (some xs),f 51 (g 70 rows),f 162 (AV.eS 9 72 (List.map (fun(x:ByteArray×eU)=>Value.string x.1) e) (List.map (fun(x:ByteArray×eU)=>c [AV.bool x.2.y,b x.2.n,d x.2.s]) e)),f 45 (c [d rel,g 38 l])]=Pe a/\Fc a/\∀(y:Bool),True->aq y (K (AV.aH []) [Obj.ext (some []),f 51 (g 70 a.rows),f 162 (AV.eS 9 72 (List.map (fun(x:ByteArray×eU)=>Value.string x.1) a.e) (List.map (fun(x:ByteArray×eU)=>c [AV.bool x.2.y,b x.2.n,d x.2.s]) a.e)),f 45 h]) (K (AV.aH []) [Obj.ext none,f 51 (g 70 a.rows),f 162 (AV.eS 9 72 (List.map (fun(x:ByteArray×eU)=>Value.string x.1) a.e) (List.map (fun(x:ByteArray×eU)=>c [AV.bool x.2.y,b x.2.n,d x.2.s]) a.e)),f 45 h])):=by kernel_rfl
structure AMm where
 rel:ByteArray
 l:List AV
 rows:List AV
 e:dG
def RE(x:AMm):List AV×List Dn.Obj:=([.cf 0, .ptr 1 0 [] 0, .ptr 2 0 [] 0, .ptr 3 0 [] 0], .ext (some (FJ (nq x.l x.rows x.e)))::Lp x.rel x.l x.rows x.e)
def Aj(x:AMm):Prop:=D3 x.l x.rows
def Hq(_:AMm):Out (AV×List Dn.Obj):= .all (fun st'=>sm st') fun st'=> .one (.aH [],st')
theorem cMm κ:bd (BMr κ).E 12 176 (aO RE Aj Hq):=by
 refine aR ?_;rintro⟨b,l,a,e⟩ K d c;refine Eq.mpr (yMm κ b l a _ e K) ?_;refine⟨rfl,⟨b,l,a,_,e,0⟩,rfl,⟨Nat.zero_le _,d,rfl⟩,fun y _=>?_⟩;cases y
 ·exact c _ trivial
 ·exact c _ trivial
noncomputable def BMm κ:=(BMr κ).call (cMm _)
structure vh where
 ds:List AV
 rs:List AV
 r:dk
 od:List Nat
 ins:List AV
abbrev ux(x:vh)(o:AV):AV:= .agg [eG x.ds x.rs,au x.r, .ak 1 0 x.od.length, .ak 2 0 x.ins.length,o]
abbrev du(x:vh)(L:RL):List Dn.Obj:=[.box 160 (ux x (.ak 3 0 L.length)), .row 3 (ints x.od), .row 51 x.ins, .row 70 (rws L)]
abbrev uD(a:ByteArray)(l:List AV):AV:= .agg [.lit (.string a), .ah 38 l]
theorem yRm κ x L rel l K:(a0 (BMm κ).E 12 143 [.ptr 0 0 [] 0,uD rel l] (du x L) K)=(
 ∃(a:List AV×ByteArray),([AV.ah 43 x.ds,AV.str rel],[])=Ha a/\iy a/\aV (decide ((0:Int)<=bx a.2 a.1)&&decide (bx a.2 a.1<
 (↑(x.ins.length):Int))) (K (AV.ah 70 (af (nth x.ins (0+Int.toNat (bx a.2 a.1))))) (du x L))):=by kernel_rfl
structure Xd where
 x:vh
 L:RL
 rel:ByteArray
 l:List AV
def vh.at(x:vh) a:=af (nth x.ins (bx a x.ds).toNat)
def yQ(a:Xd):=([.ptr 0 0 [] 0,uD a.rel a.l],du a.x a.L)
def sv(a:Xd):=a.x.ds.length<=aW/\0<=bx a.rel a.x.ds/\bx a.rel a.x.ds<a.x.ins.length
def TW(a:Xd):Out (AV×List Dn.Obj):= .one (.ah 70 (a.x.at a.rel),du a.x a.L)
theorem cRm κ:bd (BMm κ).E 12 143 (aO yQ sv TW):=by
 refine aR ?_;rintro⟨x,L,a,l⟩ K ⟨c,d,e⟩ b;refine Eq.mpr (yRm _ x L _ l K) ⟨(x.ds,a),rfl,c,ai.2 ⟨?_,by rw[Nat.zero_add];exact b⟩⟩
 grind
noncomputable def W6 κ:=EB.inline (((BMm κ).call (cRm _)).calm [143]) [142,141]
structure nS where
 x:vh
 L:RL
 op:Int
 rel:ByteArray
 l:List AV
 u:AT
 v:AT
 e:dG
abbrev Lq(a:nS):AV:= .agg [.int a.op,uD a.rel a.l,dn a.u,dn a.v]
noncomputable abbrev Ma(a:nS):Dn.Obj:=
 .loop (iI Tryz.prog 147 3 .ready none (gX (bM 68) [(0, .ptr 0 0 [] 0),(1,Lq a),(2,cR a.e),(4, .ptr 4 0 [] 0),(6, .int 0),(7, .bool false),(8, .ptr 5 0 [] 0),(14,cR a.e),(15, .ptr 4 0 [1] 1),(16,uD a.rel a.l),(17, .ptr 0 0 [] 0),(18, .ptr 4 0 [1] 1),(19,uD a.rel a.l),(20, .ah 70 (a.x.at a.rel)),(21, .bm 176 [.ptr 8 0 [] 0, .ptr 6 0 [] 0, .ptr 7 0 [] 0])]))
noncomputable abbrev uC a:=du a.x a.L++[.box 80 (Lq a), .box 194 .nil, .box 162 (cR a.e), .box 45 (uD a.rel a.l), .box 51 (.ah 70 (a.x.at a.rel)),Ma a]
noncomputable abbrev Fh a V:=du a.x a.L++[.box 80 (Lq a), .box 194 (.ak 10 0 V.length), .dead, .dead, .dead,Ma a, .row 2 V]
theorem sRk κ a Q:(tidy (Pr κ).toProgram 10 (dt (uC a) (bV (uC a) [.ptr 8 0 [] 0, .ptr 6 0 [] 0, .ptr 7 0 [] 0])) Q)=(
 letI b:=Obj.row
 Q [Obj.box 160 (ux a.x (AV.ak 3 0 a.L.length)),b 3 (ints a.x.od),b 51 a.x.ins,b 70 (rws a.L),Obj.box 80 (Lq a),Obj.box 194 (AV.ak 10 0
 0),Obj.dead,Obj.dead,Obj.dead,Ma a,b 2 []]):=by kernel_rfl
theorem rRk κ a V g Q(K2:List Dn.Obj->Prop):(fQ (vc (W6 κ).E 12) 9 [cR g] (Fh a V) (fun r st''=>match r with| .lit (.bool true)=>tidy (Pr κ).toProgram 10 st'' Q| .lit (.bool false)=>K2 st''|_=>False))=(
 letI b:=Obj.box
 letI c:=Obj.row
 letI d:=decide ((V.length+1+1)*9<=70368744177664)
 letI e:=ux a.x (AV.ak 3 0 a.L.length)
 letI f:=AV.ak 10 0 (V.length+1)
 aq (a.op != (7:Int)) (∃(e0:gy),([cR g,dn a.v],[])=dT e0/\bL (AT.tm e0.t)=true/\aV d (Q [b 160 e,c 3 (ints a.x.od),c 51
 a.x.ins,c 70 (rws a.L),b 80 (Lq a),b 194 f,Obj.dead,Obj.dead,Obj.dead,Ma a,c 2 (List.take V.length V++[AV.int (eU.n (bK e0.e
 (AT.tm e0.t)))])])) (aV d (Q [b 160 e,c 3 (ints a.x.od),c 51 a.x.ins,c 70 (rws a.L),b 80 (Lq a),b 194 f,Obj.dead,
 Obj.dead,Obj.dead,Ma a,c 2 (List.take V.length V++[AV.int 0])]))):=by kernel_rfl
abbrev Fb:List AV:=[.ptr 8 0 [] 0, .ptr 6 0 [] 0, .ptr 7 0 [] 0]
theorem oRk a:lT (uC a) Fb=true:=by kernel_rfl
theorem kRk a xs:(AV.cf 0::fC (ia (bV (uC a) Fb)) Fb,Obj.ext (some xs)::fU (ia (bV (uC a) Fb)) (fV (uC a) (bV (uC a) Fb)))=([.cf 0, .ptr 1 0 [] 0, .ptr 2 0 [] 0, .ptr 3 0 [] 0], .ext (some xs)::Lp a.rel a.l (a.x.at a.rel) a.e):=by kernel_rfl
def mw(a:Int)(v:AT) g:=bif a != 7 then(bK g v.tm).n else 0
structure Qw(a:nS):Prop where
 m:D3 a.l (a.x.at a.rel)
 v:a.op≠7->bL a.v.tm=true
def nS.fD(a:nS):=(nq a.l (a.x.at a.rel) a.e).map (mw a.op a.v)
noncomputable def aa5:eh:=fun b st K=>∃a,(b,st)=(Fb,uC a)/\Qw a/\K (Fh a (iA a.fD))
theorem KA:aa5.fY:=by
 rintro b st K g e ⟨a,d,f,c⟩;exact⟨a,d,f,e _ c⟩
theorem V6 κ a st K(h:aO RE Aj Hq a st K):(W6 κ).E.call 176 a st K:=h
theorem wx l a e:(nq l a e).length<=a.length:=List.length_filterMap_le _ _
theorem gRk κ:iw (W6 κ).E 12 176 aa5:=by
 rintro i st K ⟨a,u,q,t⟩;obtain⟨rfl,rfl⟩:=Prod.mk.inj (show(i,st)=(Fb,uC a) from u);have A:=Nat.le_trans (wx a.l (a.x.at a.rel) a.e) q.m.n;refine⟨FJ (nq a.l (a.x.at a.rel) a.e),fun f st'=>∃d b:List dG,f=FJ b/\st'=Fh a (iA (d.map (mw a.op a.v)))/\d++b=nq a.l (a.x.at a.rel) a.e,⟨oRk a,?_,?_,?_,?_⟩⟩
 ·refine V6 κ _ _ _ ⟨⟨a.rel,a.l,a.x.at a.rel,a.e⟩,?_,q.m,fun st' h=>h⟩
  rw[kRk];rfl
 ·rw[show(W6 κ).E.P=Pr κ from rfl,show(uC a).length=10 from rfl,sRk]
  exact Exists.intro [] (Exists.intro _ (And.intro (Eq.refl _) (And.intro (Eq.refl _) (List.nil_append _))))
 ·rintro y r st' ⟨d,b,p,rfl,k⟩
  cases b with
  |nil=>cases p
  | cons g b=>
   obtain⟨w,rfl⟩:=List.cons.inj p;obtain rfl:=AV.aH.inj w;rw[show(W6 κ).E.P=Pr κ from rfl,show(uC a).length=10 from rfl,show(10:Nat) - 1=9 from rfl];refine Eq.mpr (rRk κ a (iA (d.map (mw a.op a.v))) g (fun st'=>∃j o:List dG,FJ b=FJ o/\st'=Fh a (iA (j.map (mw a.op a.v)))/\j++o=nq a.l (a.x.at a.rel) a.e) K) ?_;have z:d.length<=(nq a.l (a.x.at a.rel) a.e).length:=by rw[←k];simp
   have s:decide (((iA (d.map (mw a.op a.v))).length+1+1)*9<=70368744177664)=true:=by rw[ap6,iV,List.length_map];omega
   have c: ∀n:Int,n=mw a.op a.v g->∃j o:List dG,FJ b=FJ o/\Fh a (iA (d.map (mw a.op a.v))++[AV.int n])=Fh a (iA (j.map (mw a.op a.v)))/\j++o=nq a.l (a.x.at a.rel) a.e:=fun n h=>
    ⟨d++[g],b,rfl,by rw[h,List.map_append,wH];rfl,by rw[←k];simp⟩
   simp only[Fh,ar1,List.length_singleton] at c;rw[List.take_length];refine ae.2 ⟨fun e7=>⟨⟨g,a.v⟩,rfl,q.v (by simpa using e7),ai.2 ⟨s,c _ (by unfold mw;rw[e7];rfl)⟩⟩,fun e7=>ai.2 ⟨s,c _ (by unfold mw;rw[e7];rfl)⟩⟩
 ·rintro st' ⟨d,b,p,rfl,k⟩
  obtain rfl:b=[]:=by cases b with|nil=>rfl|cons _ _=>cases p
  rw[List.append_nil] at k;rw[k];exact t
noncomputable def Fa κ:=(W6 _).range 147 3 KA (gRk κ) fun f=>iD f (176::JJ)
abbrev XM(a:nS) V m(i:Nat):=sp 68 [(11, .int m),(45, .ak 4 0 V.length),(46, .int V.length),(47, .int i)] (du a.x a.L++[.row 2 V])
theorem xSu κ a V m i I N K:(vc (Fa κ).E 12 147 none 4 (ad (Pr κ).toProgram 147 13) (XM a V m i) (bj (Fa κ).E 147 13 4 I N K))=(
 letI b:=IntKind.wrap IntKind.i64
 letI c:=Obj.row
 letI d:=(↑i:Int)<(↑(V.length):Int)
 aq (decide d) (aV (true&&decide d) (∃(e0:Nat),e0<N/\I e0 (sp 68 [(11,AV.int (b (m+toInt (nth V (0+Int.toNat (↑i:
 Int)))))),(45,AV.ak 4 0 V.length),(46,AV.int (↑(V.length):Int)),(47,AV.int (b ((↑i:Int)+(1:Int))))] [Obj.box 160 (ux a.x
 (AV.ak 3 0 a.L.length)),c 3 (ints a.x.od),c 51 a.x.ins,c 70 (rws a.L),c 2 V]))) (K (Exit.exit 3) (sp 68 [(11,AV.int m)] (du a.x
 a.L)))):=by kernel_rfl
def VJ m(l:List _):=l.foldl (fun m x=>IntKind.wrap .i64 (m+toInt x)) m
structure ASu where
 a:nS
 V:List AV
 m:Int
 i:Nat
abbrev Tf(x:ASu):S:=XM x.a x.V x.m x.i
def Oy(x:ASu):=x.i<=x.V.length/\x.V.length<=100000000
def Ub(x:ASu):Out (Exit×S):= .one (.exit 3,sp 68 [(11, .int (VJ x.m (x.V.drop x.i)))] (du x.a.x x.a.L))
theorem lSu κ:aU (Fa κ).E 12 147 13 (aG 4 Tf Oy Ub):=by
 refine aC (fun x=>x.V.length - x.i) ?_;rintro⟨a,V,m,i⟩ K ⟨e,d⟩ b;simp only at e d;rw[show(Fa κ).E.P=Pr κ from rfl];refine Eq.mpr (xSu κ a V m i _ _ K) ?_;simp only[Nat.zero_add,Int.toNat_natCast];rw[ae,ap6,ap8];simp only[Ub,Out.run] at b;refine⟨fun h=>ai.2 ⟨by simp;omega,_,?_,⟨a,V,IntKind.wrap .i64 (m+toInt (nth V i)),i+1⟩,?_,⟨by simp only;omega,d⟩,rfl,?_⟩,fun h=>?_⟩
 ·simp only;omega
 ·grind [az]
 ·have c:i<V.length:=by omega
  rw[aq7 c,←aM V i c] at b;exact b
 ·rw[aq4 (by omega)] at b
  exact b
noncomputable def BSu κ:=(Fa κ).loop (lSu _)
theorem yRk κ a K:(a0 (BSu κ).E 12 147 [.ptr 0 0 [] 0,Lq a,cR a.e] (du a.x a.L) K)=(
 letI b:=AV.ptr 0 0 []
 letI c:=AV.int
 letI d:=AV.ptr
 letI e:=AV.bool
 letI f:=Obj.box
 letI g:=Obj.row
 letI l:=Pg.toProgram (Env.P (EB.E (Fa κ)))
 ∃(e2:Xd),letI m:=ux e2.x (AV.ak 3 0 e2.L.length);([b 0,uD a.rel a.l],du a.x a.L)=yQ e2/\sv e2/\(f 160 m=f 160 (ux a.x (AV.ak 3 0 a.L.length))/\f 80 (Lq a)=f 80 (Lq a)/\f 194 AV.nil=f 194 AV.nil/\True)/\∃(e1:nS),letI k:=iA (nS.fD e1);letI i:=List.length k;letI h:=List.take i (List.drop 0 k);letI j:=du e1.x e1.L;([d 8 0 [] 0,d 6 0 [] 0,d 7 0 [] 0],[f 160 m,g 3 (ints e2.x.od),g 51 e2.x.ins,g 70 (rws e2.L),f 80 (Lq a),f 194 AV.nil,f 162 (cR a.e),f 45 (uD a.rel a.l),f 51 (AV.ah 70 (vh.at e2.x e2.rel)),Dn.Obj.loop (iI Tryz.prog 147 3 LoopState.ready none (gX (bM 68) [(0,b 0),(1,Lq a),(2,cR a.e),(4,d 4 0 [] 0),(6,c 0),(7,e false),(8,d 5 0 [] 0),(14,cR a.e),(15,d 4 0 [1] 1),(16,uD a.rel a.l),(17,b 0),(18,d 4 0 [1] 1),(19,uD a.rel a.l),(20,AV.ah 70 (vh.at e2.x e2.rel)),(21,AV.bm 176 [d 8 0 [] 0,d 6 0 [] 0,d 7 0 [] 0])]))])=([d 8 0 [] 0,d 6 0 [] 0,d 7 0 [] 0],uC e1)/\Qw e1/\aq (e1.op==(7:Int)) (K (AV.aH [c (↑i:Int),e true]) j) (aq (e1.op==(8:Int)) (ad l 147 13=ad l 147 13/\∃(e0:ASu),sp 68 [(11,c 0),(45,AV.ak 4 0 i),(46,c (↑i:Int)),(47,c 0)] [f 160 (ux e1.x (AV.ak 3 0 e1.L.length)),g 3 (ints e1.x.od),g 51 e1.x.ins,g 70 (rws e1.L),g 2 k]=Tf e0/\Oy e0/\K (AV.aH [c (VJ e0.m (List.drop e0.i e0.V)),e true]) (du e0.a.x e0.a.L)) (aq ((↑i:Int)==(0:Int)) (K (AV.aH [c 0,e false]) j) (aq (e1.op==(9:Int)) (aV (decide (1<=List.length h)&&decide (List.length h<=100000000)) (K (AV.aH [c (NN (toInt (nth h 0)) (List.drop 1 h)),e true]) j)) (aV (decide (1<=List.length h)&&decide (List.length h<=100000000)) (K (AV.aH [c (PK (toInt (nth h 0)) (List.drop 1 h)),e true]) j)))))):=by kernel_rfl
def nJ(a:Int)(V:List AV):Int:=bif a==7 then V.length else bif a==8 then VJ 0 V else bif (V.length:Int)==0 then 0 else bif a==9 then NN (toInt (nth V 0)) (V.drop 1) else PK (toInt (nth V 0)) (V.drop 1)
def o8(a:Int)(V:List AV):=a==7||(a==8|| !(V.length:Int)==0)
def P8 a:=([.ptr 0 0 [] 0,Lq a,cR a.e],du a.x a.L)
structure Ja(a:nS):Prop where
 d:a.x.ds.length<=aW
 f0:0<=bx a.rel a.x.ds
 f1:bx a.rel a.x.ds<a.x.ins.length
 k:Qw a
def TC(a:nS):Out (AV×List Dn.Obj):= .one (.aH [.int (nJ a.op (iA a.fD)), .bool (o8 a.op (iA a.fD))],du a.x a.L)
theorem sf{a}(h:Qw a):(iA a.fD).length<=100000000:=by
 rw[iV,nS.fD,List.length_map];exact Nat.le_trans (wx _ _ _) h.m.n
theorem cRk κ:bd (BSu κ).E 12 147 (aO P8 Ja TC):=by
 refine aR ?_;intro a K c b
 replace b:K (.aH [.int (nJ a.op (iA a.fD)), .bool (o8 a.op (iA a.fD))]) (du a.x a.L):=b
 refine Eq.mpr (yRk κ a K) ?_;refine⟨⟨a.x,a.L,a.rel,a.l⟩,rfl,⟨c.d,c.f0,c.f1⟩,⟨rfl,rfl,rfl,trivial⟩,a,rfl,c.k,?_⟩;have g:=sf c.k;have h:(iA a.fD).take (iA a.fD).length=iA a.fD:=List.take_length;rw[aq6,h];unfold nJ o8 at b;have f:((((iA a.fD).length:Int)==0)=false)->(decide (1<=(iA a.fD).length)&&decide ((iA a.fD).length<=100000000))=true:=fun i=>by
  grind
 refine ae.2 ⟨fun e7=>?_,fun e7=>ae.2 ⟨fun e8=>⟨rfl,⟨a,iA a.fD,0,0⟩,rfl,⟨Nat.zero_le _,g⟩,?_⟩,fun e8=>ae.2 ⟨fun e0=>?_,fun e0=>ae.2 ⟨fun e=>ai.2 ⟨f e0,?_⟩,fun e=>ai.2 ⟨f e0,?_⟩⟩⟩⟩⟩
 ·rw[e7] at b;exact b
 ·rw[e7,e8] at b;exact b
 ·rw[e7,e8,e0] at b;exact b
 ·rw[e7,e8,e0,e] at b;exact b
 ·rw[e7,e8,e0,e] at b;exact b
noncomputable def Dj κ:=((BSu κ).call (cRk _)).calm [147]
structure AHr where
 x:vh
 L:RL
 e:dG
 i:Nat
def jf(a:List _) e:=a.map fun t=>e6 (bK e (eH t).tm)
abbrev VM(a:AHr) V:=sp 191 [(2,cR a.e),(3, .ptr 4 0 [] 0),(6, .ak 5 0 V.length),(26, .ah 38 a.x.r.hl),(27, .int a.x.r.hl.length),(28, .int a.i)] (du a.x a.L++[.box 158 (.ptr 0 0 [] 0), .row 72 V])
theorem xHr κ a V I N K:(vc (Dj κ).E 12 98 none 4 (ad (Pr κ).toProgram 98 4) (VM a V) (bj (Dj κ).E 98 4 4 I N K))=(
 letI b:=Obj.box
 letI c:=Obj.row
 letI d:=dk.hl a.x.r
 letI e:=nth d (Int.toNat (↑(a.i):Int))
 letI f:=(↑(a.i):Int)<(↑(List.length d):Int)
 letI g:=ux a.x (AV.ak 3 0 a.L.length)
 aq (decide f) (aV (true&&decide f) (∃(v1:gy),([cR a.e,AV.agg [AV.int (toInt (ag e 0)),AV.str (toStr (ag e 1)),AV.int (toInt (ag e 2)),AV.ah 38
 (af (ag e 3))]],[])=dT v1/\bL (AT.tm v1.t)=true/\aV (decide ((V.length+1+1)*33<=70368744177664)) (∃(v0:Nat),v0<N/\I v0 (sp 191 [(2,cR
 a.e),(3,AV.ptr 4 0 [] 0),(6,AV.ak 5 0 (V.length+1)),(26,AV.ah 38 d),(27,AV.int (↑(List.length d):Int)),(28,AV.int (IntKind.wrap IntKind.i64
 ((↑(a.i):Int)+(1:Int))))] [b 160 g,c 3 (ints a.x.od),c 51 a.x.ins,c 70 (rws a.L),b 158 (AV.ptr 0 0 [] 0),c 72
 (List.take V.length V++[e6 (bK v1.e (AT.tm v1.t))])])))) (K (Exit.exit 0) (sp 191 [(3,AV.ptr 4 0 [] 0),(6,AV.ak 5 0 V.length)] [b 160 g,c 3
 (ints a.x.od),c 51 a.x.ins,c 70 (rws a.L),b 158 (AV.ptr 0 0 [] 0),c 72 V]))):=by kernel_rfl
abbrev LM a:=VM a (jf (a.x.r.hl.take a.i) a.e)
def Nv(a:AHr):=a.i<=a.x.r.hl.length/\a.x.r.hl.length<=100000/\∀t,t∈a.x.r.hl->bL (eH t).tm=true
def Yi(a:AHr):Out (Exit×S):= .one (.exit 0,sp 191 [(3, .ptr 4 0 [] 0),(6, .ak 5 0 (jf a.x.r.hl a.e).length)] (du a.x a.L++[.box 158 (.ptr 0 0 [] 0), .row 72 (jf a.x.r.hl a.e)]))
theorem lHr κ:aU (Dj κ).E 12 98 4 (aG 4 LM Nv Yi):=by
 refine aC (fun a=>a.x.r.hl.length - a.i) ?_;rintro⟨x,L,e,i⟩ K ⟨k,f,c⟩ d;simp only at k f c;rw[show(Dj κ).E.P=Pr κ from rfl];refine Eq.mpr (xHr κ ⟨x,L,e,i⟩ _ _ _ K) ?_;simp only[Int.toNat_natCast];rw[ae,ap6,ap8];refine⟨fun h=>?_,fun h=>?_⟩
 ·have b:i<x.r.hl.length:=by omega
  have j:nth x.r.hl i∈x.r.hl:=by rw[aM _ i b];exact List.getElem_mem _
  have l:jf (x.r.hl.take (i+1)) e=jf (x.r.hl.take i) e++[e6 (bK e (eH (nth x.r.hl i)).tm)]:=by
   rw[List.take_add_one,jf,jf,List.map_append,aM _ i b];simp[b]
  have m:(jf (x.r.hl.take i) e).length<=100000:=by rw[jf,List.length_map,List.length_take];omega
  refine ai.2 ⟨by simp;omega,⟨e,eH (nth x.r.hl i)⟩,rfl,c _ j,ai.2 ⟨by rw[ap6];omega,_,?_,⟨x,L,e,i+1⟩,?_,⟨b,f,c⟩,rfl,d⟩⟩
  ·simp only;omega
  ·simp only[LM,VM,l,List.take_length,ar1,List.length_singleton]
   rw[az (n:=(i:Int)+1) (by omega) (by omega)];rfl
 ·have g:x.r.hl.take i=x.r.hl:=List.take_of_length_le (by omega)
  simp only[g];exact d
noncomputable def BHr κ:=(Dj κ).loop (lHr _)
theorem Jb{b p q p' a}(d:p->p')(c:q->a)(h:aq b p q):aq b p' a:=by
 cases b
 ·exact c h
 ·exact d h
def EB.VK(b:EB){f:Nat}{sp:dM}(e:sp.fY)(h: ∀c st K,sp c st K->b.E.call f c st K):EB:=⟨_,b.ok.fT fun a s K d=>b.ok.call _ _ _ _ (h a s K d),b.mono.aw e⟩
def al2(st:List Dn.Obj)(i:Nat)(k:AV->Prop):Prop:=match ay st i with| .box _ a=>k a|_=>False
def af3(st:List Dn.Obj)(i:Nat)(k:List AV->Prop):Prop:=match ay st i with| .row _ l=>k l|_=>False
def dsK(a:AV)(k:List AV->Prop):=match a with| .agg (.agg (.ah _ ds::_)::_)=>k ds|_=>False
def ak3(l:List AV)(k:ByteArray->Prop):=match l with|[_, .agg [.lit (.string s),_]]=>k s|_=>False
def PR:dM:=fun c st K=>(∃a,(c,st)=yQ a/\sv a)/\ak3 c fun d=>al2 st 0 fun b=>dsK b fun ds=>af3 st 2 fun e=>K (.ah 70 (af (nth e (bx d ds).toNat))) st
theorem F3:PR.fY:=fun b st K f e h=>by
 obtain⟨⟨a,d,g⟩,c⟩:=h;obtain⟨rfl,rfl⟩:=Prod.mk.inj d;exact⟨by grind,e _ _ c⟩
theorem Uq b st K(h:PR b st K):aO yQ sv TW b st K:=by
 obtain⟨⟨a,d,e⟩,c⟩:=h;obtain⟨rfl,rfl⟩:=Prod.mk.inj d;exact⟨a,rfl,e,c⟩
def Pa:dM:=fun b st K=>∃a,(b,st)=P8 a/\Ja a/\K (.aH [.int (nJ a.op (iA a.fD)), .bool (o8 a.op (iA a.fD))]) st
theorem GM:Pa.fY:=fun _ _ _ _ c ⟨a,d,e,b⟩=>⟨a,d,e,c _ _ b⟩
theorem WS b st K(h:Pa b st K):aO P8 Ja TC b st K:=by
 obtain⟨a,d,e,c⟩:=h;obtain⟨rfl,rfl⟩:=Prod.mk.inj d;exact⟨a,rfl,e,c⟩
theorem U8 κ a st K(h:PR a st K):(BHr κ).E.call 143 a st K:=Uq _ _ K h
noncomputable def BGa κ:=EB.VK _ F3 (U8 κ)
theorem QQ κ a st K(h:Pa a st K):(BGa κ).E.call 147 a st K:=WS _ _ K h
noncomputable def BGb κ:=EB.VK _ GM (QQ κ)
structure bp where
 x:vh
 L:RL
 i:Nat
 e:dG
abbrev bp.j(a:bp):=0+Int.toNat a.i
abbrev bp.k(a:bp):=nth (ints a.x.od) a.j
abbrev bp.t(a:bp):=nth a.x.r.bl (toInt a.k).toNat
abbrev bp.rel(a:bp):=toStr (ag (ag a.t 1) 0)
abbrev bp.l(a:bp):=af (ag (ag a.t 1) 1)
abbrev iT(x:AV):AV:= .agg [.int (toInt (ag x 0)), .lit (.string (toStr (ag x 1))), .int (toInt (ag x 2)), .ah 38 (af (ag x 3))]
abbrev bp.lit(a:bp):AV:= .agg [.int (toInt (ag a.t 0)),uD a.rel a.l,iT (ag a.t 2),iT (ag a.t 3)]
noncomputable abbrev GD(a:bp):Dn.Obj:=
 .loop (iI Tryz.prog 98 20 .ready none (gX (bM 191) [(0, .ptr 0 0 [] 0),(1, .int a.i),(2,cR a.e),(3, .ptr 4 0 [] 0),(4, .ptr 5 0 [] 0),(9, .ptr 6 0 [] 0),(10, .ptr 7 0 [] 0),(14, .int a.i),(15, .ptr 0 0 [] 0),(16, .ptr 0 0 [] 0),(17, .ptr 0 0 [2] 6),(18, .ak 1 0 a.x.od.length),(19, .int a.x.od.length),(20, .bool false),(49, .ptr 0 0 [] 0),(50, .ptr 0 0 [] 0),(51, .ptr 0 0 [1] 2),(52, .ptr 0 0 [1,1] 4),(53, .ah 80 a.x.r.bl),(54, .ptr 0 0 [] 0),(55, .ptr 0 0 [] 0),(56, .ptr 0 0 [2] 6),(57, .ak 1 0 a.x.od.length),(58, .int a.i),(59, .ptr 1 a.j [] 0),(60, .int (toInt a.k)),(61, .je 80 a.t),(62,a.lit),(63, .bm 141 [.ptr 4 0 [] 0, .ptr 5 0 [] 0]),(64, .ptr 6 0 [0] 0),(65, .int (toInt (ag a.t 0))),(101, .bool true),(102, .bool (toInt (ag a.t 0)==1)),(103,cR a.e),(104, .ptr 6 0 [1] 1),(105,uD a.rel a.l),(106, .ptr 0 0 [] 0),(107, .ptr 6 0 [1] 1),(108,uD a.rel a.l),(109, .ah 70 (a.x.at a.rel)),(110, .bm 176 [.ptr 10 0 [] 0, .ptr 8 0 [] 0, .ptr 9 0 [] 0])]))
noncomputable abbrev uI a:=du a.x a.L++[.box 158 (.ptr 0 0 [] 0), .box 3 (.int a.i), .box 80 a.lit, .box 207 (.bm 141 [.ptr 4 0 [] 0, .ptr 5 0 [] 0]), .box 162 (cR a.e), .box 45 (uD a.rel a.l), .box 51 (.ah 70 (a.x.at a.rel)),GD a]
noncomputable abbrev OE a L:=du a.x L++[.box 158 (.ptr 0 0 [] 0), .box 3 (.int a.i), .box 80 a.lit, .box 207 (.bm 141 [.ptr 4 0 [] 0, .ptr 5 0 [] 0]), .dead, .dead, .dead,GD a]
def pO(x:vh):List Nat->dG->RL
 |[],e=>[jf x.r.hl e]
 | k::b,e=>
  let t:=nth x.r.bl k
  let a:=toInt (ag t 0)
  let M:=nq (af (ag (ag t 1) 1)) (x.at (toStr (ag (ag t 1) 0))) e
  let u:=eH (ag t 2)
  let v:=eH (ag t 3)
  bif a==1 then M.flatMap (pO x b)
  else bif a==2 then(bif M.isEmpty then pO x b e else[])
  else bif a==3||(a==4||(a==5||a==6)) then
   (bif a==3&&eP e u then pO x b (e.put u.s (bK e v.tm))
    else bif a==3&&eP e v then pO x b (e.put v.s (bK e u.tm))
    else bif gV a (bK e u.tm) (bK e v.tm) then pO x b e else[])
  else
   let V:=iA (M.map (mw a v))
   (bif !o8 a V then[]
    else bif eP e u then pO x b (e.put u.s ⟨false,nJ a V,ByteArray.mk #[]⟩)
    else bif (bK e u.tm).n==nJ a V then pO x b e else[])
abbrev aj8(a:bp):=gX (bM 191) [(0, .ptr 0 0 [] 0),(1, .int a.i),(2,cR a.e),(3, .ptr 4 0 [] 0),(4, .ptr 5 0 [] 0),(9, .ptr 6 0 [] 0),(10, .ptr 7 0 [] 0),(14, .int a.i),(15, .ptr 0 0 [] 0),(16, .ptr 0 0 [] 0),(17, .ptr 0 0 [2] 6),(18, .ak 1 0 a.x.od.length),(19, .int a.x.od.length),(20, .bool false),(49, .ptr 0 0 [] 0),(50, .ptr 0 0 [] 0),(51, .ptr 0 0 [1] 2),(52, .ptr 0 0 [1,1] 4),(53, .ah 80 a.x.r.bl),(54, .ptr 0 0 [] 0),(55, .ptr 0 0 [] 0),(56, .ptr 0 0 [2] 6),(57, .ak 1 0 a.x.od.length),(58, .int a.i),(59, .ptr 1 a.j [] 0),(60, .int (toInt a.k)),(61, .je 80 a.t),(62,a.lit),(63, .bm 141 [.ptr 4 0 [] 0, .ptr 5 0 [] 0]),(64, .ptr 6 0 [0] 0),(65, .int (toInt (ag a.t 0))),(101, .bool false),(102, .bool (toInt (ag a.t 0)==1)),(115, .bool true),(116, .bool (toInt (ag a.t 0)==2)),(117,cR a.e),(118, .ptr 6 0 [1] 1),(119,uD a.rel a.l),(120, .ptr 0 0 [] 0),(121, .ptr 6 0 [1] 1),(122,uD a.rel a.l),(123, .ah 70 (a.x.at a.rel)),(124, .bm 176 [.ptr 10 0 [] 0, .ptr 8 0 [] 0, .ptr 9 0 [] 0])]
abbrev FP(a:bp)(s:LoopState)(p:Option Code):Dn.Obj:= .loop {state:=s,pending:=p,fn:=98,bC:=aj8 a,params:= #[125],assign:= .skip,body:= .block 7 .ret}
noncomputable abbrev KZ a L:=[.box 160 (ux a.x (.ak 12 0 L.length)), .row 3 (ints a.x.od), .row 51 a.x.ins, .dead, .box 158 (.ptr 0 0 [] 0), .box 3 (.int a.i), .box 80 a.lit, .box 207 (.bm 141 [.ptr 4 0 [] 0, .ptr 5 0 [] 0]), .dead, .dead, .dead,GD a, .row 70 (rws L)]
abbrev pM:List AV:=[.ptr 10 0 [] 0, .ptr 8 0 [] 0, .ptr 9 0 [] 0]
abbrev uF a:=du a.x a.L++[.box 158 (.ptr 0 0 [] 0), .box 3 (.int a.i), .box 80 a.lit, .box 207 (.bm 141 [.ptr 4 0 [] 0, .ptr 5 0 [] 0]), .box 162 (cR a.e), .box 45 (uD a.rel a.l), .box 51 (.ah 70 (a.x.at a.rel)),FP a .ready none]
abbrev Kq(a:bp) o:=du a.x a.L++[.box 158 (.ptr 0 0 [] 0), .box 3 (.int a.i), .box 80 a.lit, .box 207 (.bm 141 [.ptr 4 0 [] 0, .ptr 5 0 [] 0]), .dead, .dead, .dead,o]
def ik(a:Int):=a==1||(a==2|| !(a==3||(a==4||(a==5||a==6))))
structure ad4(x:vh)(t:AV):Prop where
 at0:ik (toInt (ag t 0))=true->0<=bx (toStr (ag (ag t 1) 0)) x.ds/\bx (toStr (ag (ag t 1) 0)) x.ds<x.ins.length
 at1:ik (toInt (ag t 0))=true->D3 (af (ag (ag t 1) 1)) (x.at (toStr (ag (ag t 1) 0)))
 u:(toInt (ag t 0)==1)=false->(toInt (ag t 0)==2)=false->bL (eH (ag t 2)).tm=true
 v:(toInt (ag t 0)==1)=false->(toInt (ag t 0)==2)=false->toInt (ag t 0)≠7->bL (eH (ag t 3)).tm=true
structure Qd(x:vh):Prop where
 d:x.ds.length<=aW
 n:x.od.length<=100000
 o: ∀k,k∈x.od->k<x.r.bl.length
 h:x.r.hl.length<=100000
 hv: ∀t,t∈x.r.hl->bL (eH t).tm=true
 t: ∀k,k∈x.od->ad4 x (nth x.r.bl k)
def bp.out(a:bp):=pO a.x (a.x.od.drop a.i) a.e
def gj(a:bp):=([.ptr 0 0 [] 0, .int a.i,cR a.e],du a.x a.L)
structure cy(a:bp):Prop where
 x:Qd a.x
 i:a.i<=a.x.od.length
 n:a.L.length+a.out.length<=100000000
abbrev nR(x:vh)(L:RL):List Dn.Obj:=[.box 160 (ux x (.ak 4 0 L.length)), .row 3 (ints x.od), .row 51 x.ins, .dead, .row 70 (rws L)]
def TK(a:bp):Out (AV×List Dn.Obj):= .aq a.out.isEmpty (.one (.aH [],du a.x a.L)) (.one (.aH [],nR a.x (a.L++a.out)))
def WM n:=aO gj (fun a=>cy a/\a.x.od.length - a.i=n) TK
noncomputable def Tn κ r:=(BGb κ).E.aw 98 fun a st K=>∃m,m<r/\WM m a st K
theorem sGm κ a Q:(tidy (Pr κ).toProgram 12 (dt (uI a) (bV (uI a) pM)) Q)=(
 Q (OE a a.L)):=by kernel_rfl
theorem rGm κ r a L g Q(K2:List Dn.Obj->Prop):(fQ (vc (Tn κ r) 12) 11 [cR g] (OE a L) (fun r st''=>match r with| .lit (.bool true)=>tidy (Pr κ).toProgram 12 st'' Q| .lit (.bool false)=>K2 st''|_=>False))=(
 letI b:=AV.ptr 0 0 []
 letI c:=Obj.box
 letI d:=Obj.row
 letI e:=AV.bm 141 [AV.ptr 4 0 [] 0,AV.ptr 5 0 [] 0]
 letI f:=AV.int (↑(a.i):Int)
 ∃(e1:Nat),e1<r/\∃(e0:bp),([b 0,AV.int (IntKind.wrap IntKind.i64 ((↑(a.i):Int)+(1:Int))),cR g],du a.x L)=gj e0/\(cy e0/\
 List.length e0.x.od - e0.i=e1)/\aq (List.isEmpty (bp.out e0)) (Q [c 160 (ux e0.x (AV.ak 3 0 e0.L.length)),d 3 (ints e0.x.od),d 51
 e0.x.ins,d 70 (rws e0.L),c 158 (b 0),c 3 f,c 80 (bp.lit a),c 207 e,Obj.dead,Obj.dead,Obj.dead,GD a]) (Q
 [c 160 (ux e0.x (AV.ak 12 0 (List.length (e0.L++bp.out e0)))),d 3 (ints e0.x.od),d 51 e0.x.ins,Obj.dead,c 158 (b 0),
 c 3 f,c 80 (bp.lit a),c 207 e,Obj.dead,Obj.dead,Obj.dead,GD a,d 70 (rws (e0.L++bp.out e0))])):=by kernel_rfl
theorem sGn κ a Q:(tidy (Pr κ).toProgram 12 (dt (uF a) (bV (uF a) pM)) Q)=(
 Q (Kq a (FP a LoopState.ready none))):=by kernel_rfl
theorem rGd κ r a L g Q(K2:List Dn.Obj->Prop):(fQ (vc (Tn κ r) 12) 11 [cR g] (KZ a L) (fun r st''=>match r with| .lit (.bool true)=>tidy (Pr κ).toProgram 12 st'' Q| .lit (.bool false)=>K2 st''|_=>False))=(
 letI b:=AV.ptr
 letI c:=Obj.box
 letI d:=Obj.row
 letI e:=AV.bm 141 [b 4 0 [] 0,b 5 0 [] 0]
 letI f:=AV.int (↑(a.i):Int)
 ∃(e1:Nat),e1<r/\∃(e0:bp),([b 0 0 [] 0,AV.int (IntKind.wrap IntKind.i64 ((↑(a.i):Int)+(1:Int))),cR g],du a.x L)=gj e0/\(cy e0/\
 List.length e0.x.od - e0.i=e1)/\aq (List.isEmpty (bp.out e0)) (Q [c 160 (ux e0.x (AV.ak 12 0 e0.L.length)),d 3 (ints e0.x.od),d 51
 e0.x.ins,Obj.dead,c 158 (b 0 0 [] 0),c 3 f,c 80 (bp.lit a),c 207 e,Obj.dead,Obj.dead,Obj.dead,GD a,d 70 (rws
 e0.L)]) (Q [c 160 (ux e0.x (AV.ak 12 0 (List.length (e0.L++bp.out e0)))),d 3 (ints e0.x.od),d 51 e0.x.ins,Obj.dead,c 158 (b 0
 0 [] 0),c 3 f,c 80 (bp.lit a),c 207 e,Obj.dead,Obj.dead,Obj.dead,GD a,d 70 (rws (e0.L++bp.out e0))])):=by kernel_rfl
def M0(a:bp):=nq a.l (a.x.at a.rel) a.e
def uA(a:bp):=pO a.x (a.x.od.drop (a.i+1))
structure Mq(a:bp)(r:Nat):Prop where
 x:Qd a.x
 i:a.i<a.x.od.length
 r:a.x.od.length - a.i=r
 m:D3 a.l (a.x.at a.rel)
 n:a.L.length+((M0 a).flatMap (uA a)).length<=100000000
def bp.all(a:bp):RL:=(M0 a).flatMap (uA a)
noncomputable def WB(r:Nat):eh:=fun b st K=>∃a,(b,st)=(pM,uI a)/\Mq a r/\aq a.all.isEmpty (K (OE a a.L)) (K (KZ a (a.L++a.all)))
theorem JO r:(WB r).fY:=by
 rintro c st K g b ⟨a,d,f,e⟩;exact⟨a,d,f,Jb (b _) (b _) e⟩
noncomputable def Zy a R:=bif R.isEmpty then OE a a.L else KZ a (a.L++R)
theorem QN a R T(Q:List _->Prop)(h:Q (Zy a (R++T))):bif R.isEmpty then aq T.isEmpty (Q (OE a a.L)) (Q (KZ a (a.L++T))) else aq T.isEmpty (Q (KZ a (a.L++R))) (Q (KZ a (a.L++R++T))):=by
 cases R with
 |nil=>cases T<;>exact h
 |cons b R=>
  cases T with
  |nil=>rw[List.append_nil] at h;exact h
  |cons c T=>rw[List.append_assoc];exact h
theorem oGm a:lT (uI a) pM=true:=by kernel_rfl
theorem kGm a xs:(AV.cf 0::fC (ia (bV (uI a) pM)) pM,Obj.ext (some xs)::fU (ia (bV (uI a) pM)) (fV (uI a) (bV (uI a) pM)))=([.cf 0, .ptr 1 0 [] 0, .ptr 2 0 [] 0, .ptr 3 0 [] 0], .ext (some xs)::Lp a.rel a.l (a.x.at a.rel) a.e):=by kernel_rfl
theorem VV κ r a st K(h:aO RE Aj Hq a st K):(Tn κ r).call 176 a st K:=h
theorem gGm κ r:iw (Tn κ r) 12 176 (WB r):=by
 rintro k st K ⟨a,A,f,q⟩;obtain⟨rfl,rfl⟩:=Prod.mk.inj (show(k,st)=(pM,uI a) from A);refine⟨FJ (M0 a),fun j st'=>∃c b:List dG,j=FJ b/\st'=Zy a (c.flatMap (uA a))/\c++b=M0 a,⟨oGm a,?_,?_,?_,?_⟩⟩
 ·refine VV κ r _ _ _ ⟨⟨a.rel,a.l,a.x.at a.rel,a.e⟩,?_,f.m,fun st' h=>h⟩
  rw[kGm];rfl
 ·rw[show(Tn κ r).P=Pr κ from rfl,show(uI a).length=12 from rfl,sGm]
  exact⟨[],_,rfl,rfl,List.nil_append _⟩
 ·rintro C z st' ⟨c,b,s,rfl,o⟩
  cases b with
  |nil=>cases s
  | cons g b=>
   obtain⟨B,rfl⟩:=List.cons.inj s;obtain rfl:=AV.aH.inj B;rw[show(Tn κ r).P=Pr κ from rfl,show(uI a).length=12 from rfl,show(12:Nat) - 1=11 from rfl];have u:=f.i;have D:=f.x.n;have t:=f.n;have E:=f.r;rw[←o,List.flatMap_append,List.flatMap_cons] at t;simp only[ar1] at t;have d:=QN a (c.flatMap (uA a)) (uA a g) (fun st'=>∃v w:List dG,FJ b=FJ w/\st'=Zy a (v.flatMap (uA a))/\v++w=M0 a) ⟨c++[g],b,rfl,by rw[List.flatMap_append,List.flatMap_cons,List.flatMap_nil,List.append_nil],by rw[←o];simp⟩;have y:=az (n:=(a.i:Int)+1) (by omega) (by omega);unfold Zy;cases p:(c.flatMap (uA a)).isEmpty with
   | true=>
    rw[p] at d;refine Eq.mpr (rGm κ r a a.L g _ K) ⟨a.x.od.length - (a.i+1),by omega,⟨a.x,a.L,a.i+1,g⟩,?_,⟨⟨f.x,u,?_⟩,rfl⟩,d⟩
    ·rw[y];rfl
    ·show a.L.length+(uA a g).length<=100000000
     omega
   | false=>
    rw[p] at d;refine Eq.mpr (rGd κ r a (a.L++c.flatMap (uA a)) g _ K) ⟨a.x.od.length - (a.i+1),by omega,⟨a.x,a.L++c.flatMap (uA a),a.i+1,g⟩,?_,⟨⟨f.x,u,?_⟩,rfl⟩,d⟩
    ·rw[y];rfl
    ·show(a.L++c.flatMap (uA a)).length+(uA a g).length<=100000000
     rw[ar1];omega
 ·rintro st' ⟨c,b,s,rfl,o⟩
  obtain rfl:b=[]:=by cases b with|nil=>rfl|cons _ _=>cases s
  rw[List.append_nil] at o;rw[o];unfold Zy;unfold bp.all at q;cases p:((M0 a).flatMap (uA a)).isEmpty with
  |true=>rw[p] at q;exact q
  |false=>rw[p] at q;exact q
noncomputable def Uc κ r:=((Tn κ r).addRange 98 20 176 (WB r)).cV fun f=>iD f (176::JJ)
theorem rGn κ r a g Q(K2:List Dn.Obj->Prop):(fQ (vc (Uc κ r) 12) 11 [cR g] (Kq a (FP a .ready none)) (fun r st''=>match r with| .lit (.bool true)=>tidy (Pr κ).toProgram 12 st'' Q| .lit (.bool false)=>K2 st''|_=>False))=(
 K2 (Kq a (FP a LoopState.done (some Code.ret)))):=by kernel_rfl
def WU:eh:=fun b st K=>∃a,(b,st)=(pM,uF a)/\D3 a.l (a.x.at a.rel)/\aq (M0 a).isEmpty (K (Kq a (FP a .ready none))) (K (Kq a (FP a .done (some .ret))))
theorem KR:WU.fY:=by
 rintro c st K g b ⟨a,d,f,e⟩;exact⟨a,d,f,Jb (b _) (b _) e⟩
theorem oGn a:lT (uF a) pM=true:=by kernel_rfl
theorem kGn a xs:(AV.cf 0::fC (ia (bV (uF a) pM)) pM,Obj.ext (some xs)::fU (ia (bV (uF a) pM)) (fV (uF a) (bV (uF a) pM)))=([.cf 0, .ptr 1 0 [] 0, .ptr 2 0 [] 0, .ptr 3 0 [] 0], .ext (some xs)::Lp a.rel a.l (a.x.at a.rel) a.e):=by kernel_rfl
theorem Vz κ r a st K(h:aO RE Aj Hq a st K):(Uc κ r).call 176 a st K:=h
theorem gGn κ r:iw (Uc κ r) 12 176 WU:=by
 rintro d st K ⟨a,n,m,i⟩;obtain⟨rfl,rfl⟩:=Prod.mk.inj (show(d,st)=(pM,uF a) from n);refine⟨FJ (M0 a),fun b st'=>b=FJ (M0 a)/\st'=Kq a (FP a .ready none),⟨oGn a,?_,?_,?_,?_⟩⟩
 ·refine Vz κ r _ _ _ ⟨⟨a.rel,a.l,a.x.at a.rel,a.e⟩,?_,m,fun st' h=>h⟩
  rw[kGn];rfl
 ·rw[show(Uc κ r).P=Pr κ from rfl,show(uF a).length=12 from rfl,sGn]
  exact⟨rfl,rfl⟩
 ·rintro p j st' ⟨c,rfl⟩
  cases f:M0 a with
  |nil=>rw[f] at c;cases c
  |cons g o=>
   rw[f] at c i;obtain⟨k,rfl⟩:=List.cons.inj c;obtain rfl:=AV.aH.inj k;rw[show(Uc κ r).P=Pr κ from rfl,show(uF a).length=12 from rfl,show(12:Nat) - 1=11 from rfl];exact Eq.mpr (rGn κ r a g _ K) i
 ·rintro st' ⟨c,rfl⟩
  cases f:M0 a with
  |nil=>rw[f] at i;exact i
  |cons g o=>rw[f] at c;cases c
noncomputable def EGm κ r:=((Uc κ r).addRange 98 0 176 WU).cV fun f=>iD f (176::JJ)
theorem eGm κ r(i: ∀a st K,(∃m,m<r/\WM m a st K)->b7 (Pr κ) 98 a st K):aE (EGm κ r)/\aj (EGm κ r)/\(EGm κ r).P=Pr κ:=by
 have d:=(BGb κ).ok.fT i;have b:aj (Tn κ r):=(BGb _).mono.aw fun _ _ _ _ f ⟨m,g,h⟩=>⟨m,g,aJ _ _ _ _ f h⟩
 have e:aE (Uc κ r):=(d.addRange b (gGm _ r)).cV _;have c:aj (Uc κ r):=(b.addRange (JO r)).cV _;exact⟨(e.addRange c (gGn _ r)).cV _,(c.addRange KR).cV _,rfl⟩
theorem yGo(κ:Kp)(r:Nat)(a:bp) K:(a0 (EGm κ r) 12 98 [.ptr 0 0 [] 0, .int a.i,cR a.e] (du a.x a.L) K)=(
 letI b:=IntKind.wrap IntKind.i64
 letI c:=AV.ptr 0 0 []
 letI d:=AV.int
 letI e:=AV.ptr
 letI f:=AV.bool
 letI g:=AV.lit
 letI h:=Obj.box
 letI i:=Obj.row
 letI j:=AV.aH
 letI k:=AV.ah
 letI l:=AV.ak
 letI z:=Value.int IntKind.i64 (b ((↑(a.i):Int)+(1:Int)))
 letI G:=∃(v1:Nat),v1<r/\∃(v0:bp),([c 0,g z,cR a.e],du a.x a.L)=gj v0/\(cy v0/\List.length v0.x.od - v0.i=v1)/\aq
  (List.isEmpty (bp.out v0)) (K (j []) (du v0.x v0.L)) (K (j []) (nR v0.x (v0.L++bp.out v0)))
 letI C:=AV.bm 141 [e 4 0 [] 0,e 5 0 [] 0]
 letI t:=ag (bp.t a) 0
 letI n:=List.length a.x.od
 letI p:=ux a.x (l 3 0 a.L.length)
 letI m:=ag (bp.t a) 2
 letI A:=∃(v0:Xd),([c 0,uD (bp.rel a) (bp.l a)],du a.x a.L)=yQ v0/\sv v0
 letI q:=toInt t==(3:Int)
 letI u:=d (↑(a.i):Int)
 letI o:=ag (bp.t a) 3
 letI H:=∃(v3:gy),([cR a.e,iT o],[])=dT v3/\bL (AT.tm v3.t)=true/\∃(v2:Ep),([cR a.e,AV.str (toStr (ag m 1)),e6 (bK v3.e (AT.tm v3.t))],
  [])=qu v2/\True/\∃(v1:Nat),v1<r/\∃(v0:bp),([c 0,g z,cR (dG.put v2.e v2.s v2.v)],du a.x a.L)=gj v0/\(cy v0/\List.length
  v0.x.od - v0.i=v1)/\aq (List.isEmpty (bp.out v0)) (K (j []) (du v0.x v0.L)) (K (j []) (nR v0.x (v0.L++bp.out v0)))
 letI v:=vh.at a.x (bp.rel a)
 letI s:=c 0
 letI I:=h 160 p=h 160 p/\h 158 s=h 158 s/\h 3 u=h 3 u/\h 80 (bp.lit a)=h 80 (bp.lit a)
  /\h 207 C=h 207 C/\True
 letI w:=K (j []) (du a.x a.L)
 letI D:=∃(v4:gy),([cR a.e,iT m],[])=dT v4/\bL (AT.tm v4.t)=true/\∃(v3:gy),([cR a.e,iT o],[])=dT v3/\bL (AT.tm v3.t)=true/\∃(v2:
  B2),([d (toInt t),e6 (bK v4.e (AT.tm v4.t)),e6 (bK v3.e (AT.tm v3.t))],[])=oa v2/\True/\aq (gV v2.op v2.x v2.y) G w
 letI E:=aq q (∃(v5:gy),([cR a.e,iT o],[])=qK v5/\True/\aq (eP v5.e v5.t) (∃(v3:gy),([cR a.e,iT m],[])=dT v3/\bL (AT.tm v3.t)=true
  /\∃(v2:Ep),([cR a.e,AV.str (toStr (ag o 1)),e6 (bK v3.e (AT.tm v3.t))],[])=qu v2/\True/\∃(v1:Nat),v1<r/\∃(v0:bp),([c 0,
  g z,cR (dG.put v2.e v2.s v2.v)],du a.x a.L)=gj v0/\(cy v0/\List.length v0.x.od - v0.i=v1)/\aq (List.isEmpty (bp.out v0)) (K (j []) (du v0.x
  v0.L)) (K (j []) (nR v0.x (v0.L++bp.out v0)))) D) D
 letI F:=aq q (∃(v6:gy),([cR a.e,iT m],[])=qK v6/\True/\aq (eP v6.e v6.t) H (aq q (∃(v5:gy),([cR a.e,iT o],[])=qK v5/\True/\aq
  (eP v5.e v5.t) (∃(v3:gy),([cR a.e,iT m],[])=dT v3/\bL (AT.tm v3.t)=true/\∃(v2:Ep),([cR a.e,g (Value.string (toStr (ag o 1))),e6 (bK
  v3.e (AT.tm v3.t))],[])=qu v2/\True/\∃(v1:Nat),v1<r/\∃(v0:bp),([c 0,g z,cR (dG.put v2.e v2.s v2.v)],du a.x a.L)=gj v0/\
  (cy v0/\List.length v0.x.od - v0.i=v1)/\aq (List.isEmpty (bp.out v0)) (K (j []) (du v0.x v0.L)) (K (j []) (nR v0.x (v0.L++bp.out v0)))) D) D))
  E
 letI x:=toInt t==(1:Int)
 letI B:=Pg.toProgram (Env.P (EB.E (Dj κ)))
 aq ((↑(a.i):Int)==(↑n:Int)) (ad B 98 4=ad B 98 4/\∃(v0:AHr),sp 191 [(2,cR a.e),(3,e 4 0 [] 0),(6,l 5 0 0),(26,k 38 (dk.hl a.x.r)),(27,d (↑(List.length (dk.hl a.x.r)):Int)),(28,d 0)] [h 160 p,i 3 (ints a.x.od),i 51 a.x.ins,i 70 (rws a.L),h 158 s,i 72 []]=LM v0/\Nv v0/\aV (decide ((v0.L.length+1+1)*25<=70368744177664)) (K (j []) [h 160 (ux v0.x (l 4 0 (v0.L.length+1))),i 3 (ints v0.x.od),i 51 v0.x.ins,Obj.dead,i 70 (List.take v0.L.length (rws v0.L)++[k 72 (List.take (List.length (jf (dk.hl v0.x.r) v0.e)) (List.drop 0 (jf (dk.hl v0.x.r) v0.e)))])])) (aV (true&&decide ((↑(a.i):Int)<(↑n:Int))) (aV (decide ((0:Int)<=toInt (bp.k a))&&decide (toInt (bp.k a)<(↑(List.length (dk.bl a.x.r)):Int))) (aq x (A/\I/\∃(v0:bp),([e 10 0 [] 0,e 8 0 [] 0,e 9 0 [] 0],[h 160 p,i 3 (ints a.x.od),i 51 a.x.ins,i 70 (rws a.L),h 158 s,h 3 u,h 80 (bp.lit a),h 207 C,h 162 (cR a.e),h 45 (uD (bp.rel a) (bp.l a)),h 51 (k 70 v),Dn.Obj.loop (iI Tryz.prog 98 20 LoopState.ready none (gX (bM 191) [(0,c 0),(1,d (↑(a.i):Int)),(2,cR a.e),(3,e 4 0 [] 0),(4,e 5 0 [] 0),(9,e 6 0 [] 0),(10,e 7 0 [] 0),(14,d (↑(a.i):Int)),(15,c 0),(16,c 0),(17,e 0 0 [2] 6),(18,l 1 0 n),(19,d (↑n:Int)),(20,f false),(49,c 0),(50,c 0),(51,e 0 0 [1] 2),(52,e 0 0 [1,1] 4),(53,k 80 (dk.bl a.x.r)),(54,c 0),(55,c 0),(56,e 0 0 [2] 6),(57,l 1 0 n),(58,d (↑(a.i):Int)),(59,e 1 (bp.j a) [] 0),(60,d (toInt (bp.k a))),(61,AV.je 80 (bp.t a)),(62,bp.lit a),(63,AV.bm 141 [e 4 0 [] 0,e 5 0 [] 0]),(64,e 6 0 [0] 0),(65,d (toInt t)),(101,f true),(102,f x),(103,cR a.e),(104,e 6 0 [1] 1),(105,uD (bp.rel a) (bp.l a)),(106,c 0),(107,e 6 0 [1] 1),(108,uD (bp.rel a) (bp.l a)),(109,k 70 v),(110,AV.bm 176 [e 10 0 [] 0,e 8 0 [] 0,e 9 0 [] 0])]))])=([e 10 0 [] 0,e 8 0 [] 0,e 9 0 [] 0],uI v0)/\Mq v0 r/\aq (List.isEmpty (bp.all v0)) (K (j []) (du v0.x v0.L)) (K (j []) (nR v0.x (v0.L++bp.all v0)))) (aq (toInt t==(2:Int)) (A/\I/\∃(v2:bp),([e 10 0 [] 0,e 8 0 [] 0,e 9 0 [] 0],[h 160 p,i 3 (ints a.x.od),i 51 a.x.ins,i 70 (rws a.L),h 158 s,h 3 u,h 80 (bp.lit a),h 207 C,h 162 (cR a.e),h 45 (uD (bp.rel a) (bp.l a)),h 51 (k 70 v),Dn.Obj.loop {state:=LoopState.ready,pending:=none,fn:=98,bC:=gX (bM 191) [(0,c 0),(1,d (↑(a.i):Int)),(2,cR a.e),(3,e 4 0 [] 0),(4,e 5 0 [] 0),(9,e 6 0 [] 0),(10,e 7 0 [] 0),(14,d (↑(a.i):Int)),(15,c 0),(16,c 0),(17,e 0 0 [2] 6),(18,l 1 0 n),(19,d (↑n:Int)),(20,f false),(49,c 0),(50,c 0),(51,e 0 0 [1] 2),(52,e 0 0 [1,1] 4),(53,k 80 (dk.bl a.x.r)),(54,c 0),(55,c 0),(56,e 0 0 [2] 6),(57,l 1 0 n),(58,d (↑(a.i):Int)),(59,e 1 (bp.j a) [] 0),(60,d (toInt (bp.k a))),(61,AV.je 80 (bp.t a)),(62,bp.lit a),(63,AV.bm 141 [e 4 0 [] 0,e 5 0 [] 0]),(64,e 6 0 [0] 0),(65,d (toInt t)),(101,f false),(102,f x),(115,f true),(116,f (toInt t==(2:Int))),(117,cR a.e),(118,e 6 0 [1] 1),(119,uD (bp.rel a) (bp.l a)),(120,c 0),(121,e 6 0 [1] 1),(122,uD (bp.rel a) (bp.l a)),(123,k 70 v),(124,AV.bm 176 [e 10 0 [] 0,e 8 0 [] 0,e 9 0 [] 0])],params:={toList:=[125]},assign:=Code.skip,body:=Code.block 7 Code.ret}])=([e 10 0 [] 0,e 8 0 [] 0,e 9 0 [] 0],uF v2)/\D3 (bp.l v2) (vh.at v2.x (bp.rel v2))/\aq (List.isEmpty (M0 v2)) (∃(v1:Nat),v1<r/\∃(v0:bp),([c 0,g (Value.int IntKind.i64 (b ((↑(v2.i):Int)+(1:Int)))),cR a.e],du v2.x v2.L)=gj v0/\(cy v0/\List.length v0.x.od - v0.i=v1)/\aq (List.isEmpty (bp.out v0)) (K (j []) (du v0.x v0.L)) (K (j []) (nR v0.x (v0.L++bp.out v0)))) (K (j []) (du v2.x v2.L))) (aq q (aq q (∃(v6:gy),([cR a.e,iT m],[])=qK v6/\True/\aq (eP v6.e v6.t) H E) E) (aq (toInt t==(4:Int)) F (aq (toInt t==(5:Int)) F (aq (toInt t==(6:Int)) F (∃(v4:nS),letI y:=iA (nS.fD v4);([c 0,bp.lit a,cR a.e],du a.x a.L)=P8 v4/\Ja v4/\aq (!o8 v4.op y) w (∃(v3:gy),([cR a.e,iT m],[])=qK v3/\True/\aq (eP v3.e v3.t) (∃(v2:Ep),([cR a.e,AV.str (toStr (ag m 1)),AV.agg [f false,d (nJ v4.op y),AV.str {data:= #[]}]],[])=qu v2/\True/\∃(v1:Nat),v1<r/\∃(v0:bp),([c 0,g z,cR (dG.put v2.e v2.s v2.v)],du a.x a.L)=gj v0/\(cy v0/\List.length v0.x.od - v0.i=v1)/\aq (List.isEmpty (bp.out v0)) (K (j []) (du v0.x v0.L)) (K (j []) (nR v0.x (v0.L++bp.out v0)))) (∃(v2:gy),([cR a.e,iT m],[])=dT v2/\bL (AT.tm v2.t)=true/\aq (eU.n (bK v2.e (AT.tm v2.t))==nJ v4.op y) G w)))))))))))):=by kernel_rfl
end Go.Proofs.YtioeffnadipbaaaGreatDoor
