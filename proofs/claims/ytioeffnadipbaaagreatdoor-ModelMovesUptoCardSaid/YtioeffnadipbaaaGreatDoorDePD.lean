import Derived.Test.YtioeffnadipbaaaGreatDoorDePC
namespace Go.Proofs.YtioeffnadipbaaaGreatDoor
open Go Go.Dn Go.Rl Go.Proofs Go.Shelf
attribute [local irreducible] a9 vc
set_option maxRecDepth 20000
def Fk:Go.Shelf.Ren:=⟨fun|5=>177|7=>165|n=>n,fun|23=>162|25=>9|3=>72|4=>4|20=>20|n=>n,fun n=>n⟩
theorem Vn:SlLaysW.n5 Tryz.prog Fk:={mixed:=by rfl,f5:=⟨ "maps.Clone[sorites/model.env,string,sorites/api.Val]",by rfl,Tryz.func177.trans (congrArg _ (by rfl))⟩,f7:=Tryz.func165.trans (congrArg _ (by rfl)),t4:=Tryz.underlying4,a4:=Tryz.isAgg4,z4:=Tryz.sizeOf4,v4:=Tryz.zeroValue4,t20:=Tryz.underlying20,a20:=Tryz.isAgg20,z20:=Tryz.sizeOf20,v20:=Tryz.zeroValue20,t23:=Tryz.underlying162,a23:=Tryz.isAgg162,z23:=Tryz.sizeOf162,v23:=Tryz.zeroValue162}
theorem UP κ: ∀a st K,si (Pr κ).toProgram a st K->bZ (Pr κ) 177 a st K:=fun _ _ _ h=>KV   rfl ⟨_,Tryz.func177,rfl⟩ Vn h
noncomputable def Wc κ:=(af1 κ).Xa Gw (UP _)
theorem al1 κ ks vs s v K:(a9 (Wc κ).E 12 145 [.eQ 9 72 ks vs, .lit (.string s),e6 v] [] K)=(
 K (AV.eQ 9 72 (List.map (fun(x:Value×AV)=>x.1) (eD (List.zip ks vs) (Value.string s) (AV.agg [AV.bool v.y,AV.int v.n,AV.str v.s]))) (List.map (fun(x
 :Value×AV)=>x.2) (eD (List.zip ks vs) (Value.string s) (AV.agg [AV.bool v.y,AV.int v.n,AV.str v.s])))) []):=by kernel_rfl
theorem af4 κ:bg (Wc κ).E 12 145 (aO qx (fun _=>True) Xu):=by
 refine aU ?_;rintro⟨e,s,v⟩ K _ a;refine Eq.mpr (al1 _ _ _ s v K) ?_;rw[N2,ON,List.map_map,List.map_map];exact a
noncomputable def Qm κ:=((Wc κ).call (af4 _)).calm [145,140,144]
noncomputable def MK κ r:=(Qm κ).E.aw 140 fun a st K=>∃m,m<r/\UH m a st K
theorem al7 κ r ks vs t K:(a9 (MK κ r) 12 140 [.eQ 9 72 ks vs,dm t] [] K)=(
 letI a:=IntKind.wrap IntKind.i64
 letI b:=AV.int
 letI c:=AV.agg
 letI d:=AV.bool
 letI e:=AV.str
 letI f:=AV.lit
 letI k:=cX (List.zip ks vs) (Value.string t.s) (c [d false,b 0,e {data:= #[]}])
 letI l:=true&&decide ((1:Int)<(↑(t.l.length):Int))
 letI m:=toInt (af (nth t.l 0) 0)
 letI n:=toStr (af (nth t.l 0) 1)
 letI o:=toInt (af (nth t.l 0) 2)
 letI p:=toInt (af (nth t.l 1) 0)
 letI q:=toStr (af (nth t.l 1) 1)
 letI s:=toInt (af (nth t.l 1) 2)
 ak (t.op==(1:Int)) (K (c [f (Value.bool (Dn.toBool (af k 0))),f (Value.int IntKind.i64 (toInt (af k 1))),f (Value.string (toStr (af (cX (List.zip ks vs) (Value.string t.s) (c [d false,b 0,e {data:= #[]}])) 2)))]) []) (ak (t.op==(2:Int)) (K (c [d false,b t.n,e {data:= #[]}]) []) (ak (t.op==(3:Int)) (K (c [d true,b 0,e t.s]) []) (aR (true&&decide ((0:Int)<(↑(t.l.length):Int))) ((∃(e3:Nat),e3<r/\∃(e2:gC),letI j:=bK e2.e (AT.tm e2.t);([AV.eQ 9 72 ks vs,c [b m,e n,b o,AV.ah 38 (ag (af (nth t.l 0) 3))]],[])=dS e2/\qB e3 e2/\aR l (∃(e1:Nat),e1<r/\∃(e0:gC),letI g:=bK e0.e (AT.tm e0.t);([AV.eQ 9 72 ks vs,c [b p,e q,b s,AV.ah 38 (ag (af (nth t.l 1) 3))]],[])=dS e0/\qB e1 e0/\ak (t.op==(5:Int)) (K (c [d false,f (Value.int IntKind.i64 (a (eV.n j+eV.n g))),e {data:= #[]}]) []) (ak (t.op==(6:Int)) (K (c [d false,f (Value.int IntKind.i64 (a (eV.n j - eV.n g))),e {data:= #[]}]) []) (K (c [d false,f (Value.int IntKind.i64 (a (eV.n j*eV.n g))),e {data:= #[]}]) []))))/\aR l (∃(e3:Nat),e3<r/\∃(e2:gC),letI h:=bK e2.e (AT.tm e2.t);([AV.eQ 9 72 ks vs,c [b m,e n,b o,AV.ah 38 (ag (af (nth t.l 0) 3))]],[])=dS e2/\qB e3 e2/\∃(e1:Nat),e1<r/\∃(e0:gC),letI i:=bK e0.e (AT.tm e0.t);([AV.eQ 9 72 ks vs,c [b p,e q,b s,AV.ah 38 (ag (af (nth t.l 1) 3))]],[])=dS e0/\qB e1 e0/\ak (t.op==(5:Int)) (K (c [d false,f (Value.int IntKind.i64 (a (eV.n h+eV.n i))),e {data:= #[]}]) []) (ak (t.op==(6:Int)) (K (c [d false,f (Value.int IntKind.i64 (a (eV.n h - eV.n i))),e {data:= #[]}]) []) (K (c [d false,f (Value.int IntKind.i64 (a (eV.n h*eV.n i))),e {data:= #[]}]) [])))))))):=by kernel_rfl
theorem ak3 κ r(d: ∀a st K,(∃m,m<r/\UH m a st K)->bZ (Pr κ) 140 a st K):aE (MK κ r)/\aj (MK κ r)/\(MK κ r).P=Pr κ:=
 ⟨(Qm _).ok.fT d,(Qm _).mono.aw fun _ _ _ _ c ⟨m,e,b⟩=>⟨m,e,aH _ _ _ _ c b⟩,rfl⟩
theorem ad3 κ r:bg (MK κ r) 12 140 (UH r):=by
 refine aU ?_;rintro⟨e,t⟩ K ⟨v,x⟩ c;simp only at v x
 replace c:K (e6 (bK e t.tm)) []:=c
 refine Eq.mpr (al7 κ r _ _ t K) ?_;rw[N2,show(AV.agg [.bool false, .int 0, .lit (.string (ByteArray.mk #[]))])=e6 ⟨false,0,ByteArray.mk #[]⟩ from rfl,Mz];have p:bK e t.tm=bif t.op==1 then e.get t.s else bif t.op==2 then⟨false,t.n,ByteArray.mk #[]⟩ else bif t.op==3 then⟨true,0,t.s⟩ else bK e t.tm:=by
  cases d:t.op==1 with
  |true=>rw[AT.tm,bK,d];rfl
  | false=>cases f:t.op==2 with
   |true=>rw[AT.tm,bK,d,f];rfl
   |false=>cases g:t.op==3 with
    |true=>rw[AT.tm,bK,d,f,g];rfl
    |false=>rfl
 refine ad.2 ⟨fun d=>?_,fun d=>ad.2 ⟨fun f=>?_,fun f=>ad.2 ⟨fun g=>?_,fun g=>?_⟩⟩⟩
 ·rw[p,d] at c;exact c
 ·rw[p,d,f] at c;exact c
 ·rw[p,d,f,g] at c;exact c
 ·obtain⟨a,b,y,C,A⟩:=PF d f g x
  obtain⟨i,s,n,l⟩:=t;simp only at y d f g;subst y;rw[NQ e i s n a b d f g] at c;have z:(AT.mk i s n [a,b]).tm.mP=1+((cH a).mP+((cH b).mP+0)):=by
   simp only[AT.tm,aa,ap6,List.map_nil,Tm.mP,bk]
  rw[z] at v;have w: ∀m,(cH a).mP=m->qB m ⟨e,eI a⟩:=fun m o=>⟨by rw[←o];simp only[iC],by simp only[iC];exact C⟩
  have q: ∀m,(cH b).mP=m->qB m ⟨e,eI b⟩:=fun m o=>⟨by rw[←o];simp only[iC],by simp only[iC];exact A⟩
  have B:(true&&decide (0<(([a,b]:List AV).length:Int)))=true:=by simp
  have u:(true&&decide (1<(([a,b]:List AV).length:Int)))=true:=by simp
  have h:ak (i==5) (K (e6 ⟨false,IntKind.wrap .i64 ((bK e (eI a).tm).n+(bK e (eI b).tm).n),ByteArray.mk #[]⟩) []) (ak (i==6) (K (e6 ⟨false,IntKind.wrap .i64 ((bK e (eI a).tm).n - (bK e (eI b).tm).n),ByteArray.mk #[]⟩) []) (K (e6 ⟨false,IntKind.wrap .i64 ((bK e (eI a).tm).n*(bK e (eI b).tm).n),ByteArray.mk #[]⟩) [])):=
   ad.2 ⟨fun j=>by rw[j] at c;exact c,fun j=>ad.2 ⟨fun k=>by rw[j,k] at c;exact c,fun k=>by rw[j,k] at c;exact c⟩⟩
  exact ai.2 ⟨B,⟨(cH a).mP,by omega,⟨e,eI a⟩,rfl,w _ rfl,ai.2 ⟨u,(cH b).mP,by omega,⟨e,eI b⟩,rfl,q _ rfl,h⟩⟩,ai.2 ⟨u,(cH a).mP,by omega,⟨e,eI a⟩,rfl,w _ rfl,(cH b).mP,by omega,⟨e,eI b⟩,rfl,q _ rfl,h⟩⟩
theorem al5 κ: ∀a st K,aO dS (fun x=>bL x.t.tm=true) TQ a st K->bZ (Pr κ) 140 a st K:=by
 rintro a st K ⟨x,c,d,b⟩;exact aE.pK _ _ (ak3 _) (ad3 _) _ _ _ K ⟨x,c,⟨rfl,d⟩,b⟩
noncomputable def UD κ:=(Qm κ).Xa aH (al5 _)
theorem yFr κ ks vs t K:(a9 (UD κ).E 12 144 [.eQ 9 72 ks vs,dm t] [] K)=(
 ak (t.op==(1:Int)) (K (AV.lit (Value.bool !oH (List.zip ks vs) (Value.string t.s))) []) (K (AV.bool false) [])):=by kernel_rfl
def dI.has:dI->ByteArray->Bool
 |[],_=>false
 |(t,_)::e,s=>bif decide (s=t) then true else dI.has e s
theorem Mk s: ∀e,oH (prE e) (.string s)=e.has s
 |[]=>rfl
 |(t,w)::e=>by
  have a:=Mk s e
  grind [oH,Vk,dI.has]
def eO(e:dI)(t:AT):=t.op==1&& !e.has t.s
def qw(x:gC):List AV×List Dn.Obj:=([cL x.e,dm x.t],[])
def YV(x:gC):Out (AV×List Dn.Obj):= .one (.bool (eO x.e x.t),[])
theorem cFr κ:bg (UD κ).E 12 144 (aO qw (fun _=>True) YV):=by
 refine aU ?_;rintro⟨e,t⟩ K _ a
 replace a:K _ []:=a
 refine Eq.mpr (yFr _ _ _ t K) ?_
 grind [Mk,eO,ad]
noncomputable def BFr κ:=(UD κ).call (cFr _)
theorem yHm κ op x y K:(a9 (BFr κ).E 12 146 [.int op,e6 x,e6 y] [] K)=(
 letI a:=AV.int
 letI b:=AV.agg
 letI c:=AV.bool
 letI d:=AV.str
 ak (op==(3:Int)) (K (c (bE [b [c x.y,a x.n,d x.s]] [b [c y.y,a y.n,d y.s]]==(0:Int))) []) (ak (op==
 (4:Int)) (K (c (bE [b [c x.y,a x.n,d x.s]] [b [c y.y,a y.n,d y.s]] != (0:Int))) []) (ak (op==(5:
 Int)) (K (c (decide (bE [b [c x.y,a x.n,d x.s]] [b [c y.y,a y.n,d y.s]]<(0:Int)))) []) (K (c
 (decide (bE [b [c x.y,a x.n,d x.s]] [b [c y.y,a y.n,d y.s]]<=(0:Int)))) [])))):=by kernel_rfl
def hG(a:Int) x y:=bif a==3 then bE [e6 x] [e6 y]==0 else bif a==4 then bE [e6 x] [e6 y] != 0 else bif a==5 then decide (bE [e6 x] [e6 y]<0) else decide (bE [e6 x] [e6 y]<=0)
structure Cf where
 op:Int
 x:eV
 y:eV
def ot(a:Cf):List AV×List Dn.Obj:=([.int a.op,e6 a.x,e6 a.y],[])
def ac8(a:Cf):Out (AV×List Dn.Obj):= .one (.bool (hG a.op a.x a.y),[])
theorem cHm κ:bg (BFr κ).E 12 146 (aO ot (fun _=>True) ac8):=by
 refine aU ?_;rintro⟨b,x,y⟩ K _ a
 replace a:K _ _:=a
 refine Eq.mpr (yHm _ _ x y K) ?_
 grind [hG,ad]
noncomputable def US κ:=((BFr κ).call (cHm _)).calm [146]
end Go.Proofs.YtioeffnadipbaaaGreatDoor
namespace Go.Proofs.YtioeffnadipbaaaGreatDoor
open Go Go.Dn Go.Rl Go.Proofs
attribute [local irreducible] a9 vc
set_option maxRecDepth 20000
abbrev Lw(b:ByteArray)(l a:List AV)(e:dI):List Dn.Obj:=[.box 51 (.ah 70 a), .box 162 (cL e), .box 45 (.agg [.lit (.string b), .ah 38 l])]
structure AMi where
 rel:ByteArray
 l:List AV
 rows:List AV
 xs:List AV
 e:dI
 i:Nat
 row:List AV
 g:dI
 j:Nat
abbrev EM(x:AMi):=sp 56 [(0, .cf 0),(2, .ptr 2 0 [] 0),(3, .ptr 3 0 [] 0),(6, .ah 72 x.row),(7,cL x.g),(10, .ah 70 x.rows),(11, .int x.rows.length),(12, .int x.i),(18, .ah 38 x.l),(19, .int x.l.length),(20, .int x.j)] (.ext (some x.xs)::Lw x.rel x.l x.rows x.e)
theorem xMi(κ:Kp)(x:AMi) I(N:Nat) K:(vc (US κ).E 12 176 none 4 (ae (Pr κ).toProgram 176 5) (EM x) (bj (US κ).E 176 5 4 I N K))=(
 letI a:=AV.int
 letI b:=AV.ptr
 letI c:=AV.agg
 letI d:=AV.bool
 letI e:=AV.str
 letI f:=Obj.box
 letI g:=Obj.ext
 letI h:=AV.ah
 letI i:=AV.cf
 letI j:=AV.eQ
 letI B:=Int.toNat (↑(x.j):Int)
 letI l:=c [e x.rel,h 38 x.l]
 letI z:=IntKind.wrap IntKind.i64 ((↑(x.j):Int)+(1:Int))
 letI A:=true&&decide ((↑(x.j):Int)<(↑(x.row.length):Int))
 letI v:=nth x.l B
 letI m:=nth x.row B
 letI n:=h 70 x.rows
 letI o:=x.rows.length
 letI w:=x.l.length
 letI k:=toStr (af v 1)
 letI y:=(↑(x.j):Int)<(↑w:Int)
 letI p:=toInt (af v 0)
 letI q:=toInt (af v 2)
 letI r:=toStr (af m 2)
 letI s:=ag (af v 3)
 ak (decide y) (aR (true&&decide y) (ak (toInt (af v 0)==(4:Int)) (∃(e1:Nat),e1<N/\I e1 (sp 56 [(0,i 0),(2,b 2 0 [] 0),(3,b 3 0 [] 0),(6,h 72 x.row),(7,j 9 72 (List.map (fun(e0:ByteArray×eV)=>Value.string e0.1) x.g) (List.map (fun(e0:ByteArray×eV)=>c [d e0.2.y,a e0.2.n,e e0.2.s]) x.g)),(10,h 70 x.rows),(11,a (↑o:Int)),(12,a (↑(x.i):Int)),(18,h 38 x.l),(19,a (↑w:Int)),(20,a z)] [g (some x.xs),f 51 n,f 162 (j 9 72 (List.map (fun(e0:ByteArray×eV)=>Value.string e0.1) x.e) (List.map (fun(e0:ByteArray×eV)=>c [d e0.2.y,a e0.2.n,e e0.2.s]) x.e)),f 45 l])) (∃(e3:gC),([j 9 72 (List.map (fun(e0:ByteArray×eV)=>Value.string e0.1) x.g) (List.map (fun(e0:ByteArray×eV)=>c [d e0.2.y,a e0.2.n,e e0.2.s]) x.g),c [a p,e k,a q,h 38 s]],[])=qw e3/\True/\ak (eO e3.e e3.t) (aR A (∃(e2:Ex),([j 9 72 (List.map (fun(e0:ByteArray×eV)=>Value.string e0.1) x.g) (List.map (fun(e0:ByteArray×eV)=>c [d e0.2.y,a e0.2.n,e e0.2.s]) x.g),e k,c [d (Dn.toBool (af m 0)),a (toInt (af m 1)),e r]],[])=qx e2/\True/\∃(e1:Nat),e1<N/\I e1 (sp 56 [(0,i 0),(2,b 2 0 [] 0),(3,b 3 0 [] 0),(6,h 72 x.row),(7,j 9 72 (List.map (fun(e0:ByteArray×eV)=>Value.string e0.1) (dI.put e2.e e2.s e2.v)) (List.map (fun(e0:ByteArray×eV)=>c [d e0.2.y,a e0.2.n,e e0.2.s]) (dI.put e2.e e2.s e2.v))),(10,h 70 x.rows),(11,a (↑o:Int)),(12,a (↑(x.i):Int)),(18,h 38 x.l),(19,a (↑w:Int)),(20,a z)] [g (some x.xs),f 51 n,f 162 (j 9 72 (List.map (fun(e0:ByteArray×eV)=>Value.string e0.1) x.e) (List.map (fun(e0:ByteArray×eV)=>c [d e0.2.y,a e0.2.n,e e0.2.s]) x.e)),f 45 l]))) ((∃(e2:gC),letI t:=bK e2.e (AT.tm e2.t);([j 9 72 (List.map (fun(e0:ByteArray×eV)=>Value.string e0.1) x.g) (List.map (fun(e0:ByteArray×eV)=>c [d e0.2.y,a e0.2.n,e e0.2.s]) x.g),c [a p,e k,a q,h 38 s]],[])=dS e2/\bL (AT.tm e2.t)=true/\aR A (ak (!(eV.y t==Dn.toBool (af m 0)&&(eV.n t==toInt (af m 1)&&(ByteArray.toList (eV.s t)==ByteArray.toList r&&true)))) (K (Exit.exit 1) (sp 56 [(0,i 0),(2,b 2 0 [] 0),(3,b 3 0 [] 0),(10,h 70 x.rows),(11,a (↑o:Int)),(12,a (↑(x.i):Int))] [g (some x.xs),f 51 n,f 162 (j 9 72 (List.map (fun(e0:ByteArray×eV)=>Value.string e0.1) x.e) (List.map (fun(e0:ByteArray×eV)=>c [d e0.2.y,a e0.2.n,e e0.2.s]) x.e)),f 45 l])) (∃(e1:Nat),e1<N/\I e1 (sp 56 [(0,i 0),(2,b 2 0 [] 0),(3,b 3 0 [] 0),(6,h 72 x.row),(7,j 9 72 (List.map (fun(e0:ByteArray×eV)=>Value.string e0.1) x.g) (List.map (fun(e0:ByteArray×eV)=>c [d e0.2.y,a e0.2.n,e e0.2.s]) x.g)),(10,h 70 x.rows),(11,a (↑o:Int)),(12,a (↑(x.i):Int)),(18,h 38 x.l),(19,a (↑w:Int)),(20,a z)] [g (some x.xs),f 51 n,f 162 (j 9 72 (List.map (fun(e0:ByteArray×eV)=>Value.string e0.1) x.e) (List.map (fun(e0:ByteArray×eV)=>c [d e0.2.y,a e0.2.n,e e0.2.s]) x.e)),f 45 l]))))/\aR A (∃(e2:gC),letI u:=bK e2.e (AT.tm e2.t);([j 9 72 (List.map (fun(e0:ByteArray×eV)=>Value.string e0.1) x.g) (List.map (fun(e0:ByteArray×eV)=>c [d e0.2.y,a e0.2.n,e e0.2.s]) x.g),c [a p,e k,a q,h 38 s]],[])=dS e2/\bL (AT.tm e2.t)=true/\ak (!(eV.y u==Dn.toBool (af m 0)&&(eV.n u==toInt (af m 1)&&(ByteArray.toList (eV.s u)==ByteArray.toList r&&true)))) (K (Exit.exit 1) (sp 56 [(0,i 0),(2,b 2 0 [] 0),(3,b 3 0 [] 0),(10,h 70 x.rows),(11,a (↑o:Int)),(12,a (↑(x.i):Int))] [g (some x.xs),f 51 n,f 162 (j 9 72 (List.map (fun(e0:ByteArray×eV)=>Value.string e0.1) x.e) (List.map (fun(e0:ByteArray×eV)=>c [d e0.2.y,a e0.2.n,e e0.2.s]) x.e)),f 45 l])) (∃(e1:Nat),e1<N/\I e1 (sp 56 [(0,i 0),(2,b 2 0 [] 0),(3,b 3 0 [] 0),(6,h 72 x.row),(7,j 9 72 (List.map (fun(e0:ByteArray×eV)=>Value.string e0.1) x.g) (List.map (fun(e0:ByteArray×eV)=>c [d e0.2.y,a e0.2.n,e e0.2.s]) x.g)),(10,h 70 x.rows),(11,a (↑o:Int)),(12,a (↑(x.i):Int)),(18,h 38 x.l),(19,a (↑w:Int)),(20,a z)] [g (some x.xs),f 51 n,f 162 (j 9 72 (List.map (fun(e0:ByteArray×eV)=>Value.string e0.1) x.e) (List.map (fun(e0:ByteArray×eV)=>c [d e0.2.y,a e0.2.n,e e0.2.s]) x.e)),f 45 l]))))))) (K (Exit.exit 2) (sp 56 [(0,i 0),(2,b 2 0 [] 0),(3,b 3 0 [] 0),(7,j 9 72 (List.map (fun(e0:ByteArray×eV)=>Value.string e0.1) x.g) (List.map (fun(e0:ByteArray×eV)=>c [d e0.2.y,a e0.2.n,e e0.2.s]) x.g)),(10,h 70 x.rows),(11,a (↑o:Int)),(12,a (↑(x.i):Int))] [g (some x.xs),f 51 n,f 162 (j 9 72 (List.map (fun(e0:ByteArray×eV)=>Value.string e0.1) x.e) (List.map (fun(e0:ByteArray×eV)=>c [d e0.2.y,a e0.2.n,e e0.2.s]) x.e)),f 45 l]))):=by kernel_rfl
def Fv(a:eV) v:=a.y==toBool (af v 0)&&(a.n==toInt (af v 1)&&(a.s.toList==(toStr (af v 2)).toList&&true))
def nQ(a:List AV):List AV->Nat->dI->Option dI
 |[],_,g=>some g
 |t::b,j,g=>bif toInt (af t 0)==4 then nQ a b (j+1) g
  else bif eO g (eI t) then nQ a b (j+1) (g.put (eI t).s ⟨toBool (af (nth a j) 0),toInt (af (nth a j) 1),toStr (af (nth a j) 2)⟩)
  else bif !Fv (bK g (eI t).tm) (nth a j) then none else nQ a b (j+1) g
def gg(l:List _):=∀t,t∈l->toInt (af t 0)≠4->bL (eI t).tm=true
def Bv(x:AMi):=x.j<=x.l.length/\x.l.length<=100000/\x.row.length=x.l.length/\gg x.l
def rB(x:AMi):Out (Exit×S):= .ak (nQ x.row (x.l.drop x.j) x.j x.g).isSome
 (.one (.exit 2,sp 56 [(0, .cf 0),(2, .ptr 2 0 [] 0),(3, .ptr 3 0 [] 0),(7,cL ((nQ x.row (x.l.drop x.j) x.j x.g).getD [])),(10, .ah 70 x.rows),(11, .int x.rows.length),(12, .int x.i)] (.ext (some x.xs)::Lw x.rel x.l x.rows x.e)))
 (.one (.exit 1,sp 56 [(0, .cf 0),(2, .ptr 2 0 [] 0),(3, .ptr 3 0 [] 0),(10, .ah 70 x.rows),(11, .int x.rows.length),(12, .int x.i)] (.ext (some x.xs)::Lw x.rel x.l x.rows x.e)))
theorem lMi κ:aX (US κ).E 12 176 5 (aG 4 EM Bv rB):=by
 refine aD (fun x=>x.l.length - x.j) ?_;rintro⟨d,l,a,xs,e,i,b,g,j⟩ K ⟨B,z,A,q⟩ c;simp only at B z A q;rw[show(US κ).E.P=Pr κ from rfl];refine Eq.mpr (xMi κ ⟨d,l,a,xs,e,i,b,g,j⟩ _ _ K) ?_;simp only[Int.toNat_natCast];rw[ad,an9,ao1];refine⟨fun h=>?_,fun h=>?_⟩
 ·have o:j<l.length:=by omega
  have hd:l.drop j=nth l j::l.drop (j+1):=by rw[ap0 o,←aV l j o]
  have v:nth l j∈l:=by rw[aV l j o];exact List.getElem_mem _
  have C:(true&&decide ((j:Int)<(l.length:Int)))=true:=by simp;omega
  have u:(true&&decide ((j:Int)<(b.length:Int)))=true:=by simp;omega
  have f: ∀p,((rB ⟨d,l,a,xs,e,i,b,p,j+1⟩).run fun y=>K y.1 y.2)->∃m,m<l.length - j/\et EM Bv rB (fun x=>x.l.length - x.j) K m (EM ⟨d,l,a,xs,e,i,b,p,j+1⟩):=fun p F=>
   ⟨_,by simp only;omega,⟨d,l,a,xs,e,i,b,p,j+1⟩,rfl,⟨o,z,A,q⟩,rfl,F⟩
  have D:IntKind.wrap .i64 ((j:Int)+1)=((j+1:Nat):Int):=by rw[az (by omega) (by omega)];omega
  rw[D];refine ai.2 ⟨C,ad.2 ⟨fun k=>f g ?_,fun k=>⟨⟨g,eI (nth l j)⟩,rfl,trivial,?_⟩⟩⟩
  ·unfold rB at c⊢
   simp only[hd,nQ] at c;rw[k] at c;exact c
  ·simp only
   have w:toInt (af (nth l j) 0)≠4:=by simpa using k
   refine ad.2 ⟨fun t=>ai.2 ⟨u,⟨g,(eI (nth l j)).s,⟨toBool (af (nth b j) 0),toInt (af (nth b j) 1),toStr (af (nth b j) 2)⟩⟩,rfl,trivial,f _ ?_⟩,fun t=>?_⟩
   ·unfold rB at c⊢
    simp only[hd,nQ] at c;rw[k,t] at c;exact c
   ·have n:ak (!Fv (bK g (eI (nth l j)).tm) (nth b j)) (K (.exit 1) (sp 56 [(0, .cf 0),(2, .ptr 2 0 [] 0),(3, .ptr 3 0 [] 0),(10, .ah 70 a),(11, .int a.length),(12, .int i)] (.ext (some xs)::Lw d l a e))) (∃m,m<l.length - j/\et EM Bv rB (fun x=>x.l.length - x.j) K m (EM ⟨d,l,a,xs,e,i,b,g,j+1⟩)):=by
     unfold rB at c;simp only[hd,nQ] at c;rw[k,t] at c;refine ad.2 ⟨fun r=>?_,fun r=>f g ?_⟩
     ·rw[r] at c;exact c
     ·rw[r] at c;exact c
    exact⟨⟨⟨g,eI (nth l j)⟩,rfl,q _ v w,ai.2 ⟨u,n⟩⟩,ai.2 ⟨u,⟨g,eI (nth l j)⟩,rfl,q _ v w,n⟩⟩
 ·rw[show rB ⟨d,l,a,xs,e,i,b,g,j⟩=_ from rfl] at c
  unfold rB at c;simp only at c;rw[ao7 (by omega)] at c;exact c
noncomputable def V3 κ:=(US κ).loop (lMi _)
structure AMr where
 rel:ByteArray
 l:List AV
 rows:List AV
 xs:List AV
 e:dI
 i:Nat
abbrev MB(x:AMr):=sp 56 [(0, .cf 0),(2, .ptr 2 0 [] 0),(3, .ptr 3 0 [] 0),(10, .ah 70 x.rows),(11, .int x.rows.length),(12, .int x.i)] (.ext (some x.xs)::Lw x.rel x.l x.rows x.e)
theorem xMr κ x I N K:(vc (V3 κ).E 12 176 none 4 (ae (Pr κ).toProgram 176 1) (MB x) (bj (V3 κ).E 176 1 4 I N K))=(
 letI b:=AV.int
 letI c:=AV.agg
 letI d:=AV.bool
 letI e:=AV.str
 letI f:=Obj.box
 letI g:=Obj.ext
 letI h:=AV.ah
 letI i:=AV.eQ
 ak (decide ((↑(x.i):Int)<(↑(x.rows.length):Int))) (aR (true&&decide ((↑(x.i):Int)<(↑(x.rows.length):Int))) (ae (Pg.toProgram (Env.P (EB.E (US κ)))) 176 5=ae (Pg.toProgram (Env.P (EB.E (US κ)))) 176 5/\∃(a:AMi),letI n:=[(0,AV.cf 0),(2,AV.ptr 2 0 [] 0),(3,AV.ptr 3 0 [] 0),(10,h 70 a.rows),(11,b (↑(a.rows.length):Int)),(12,b (IntKind.wrap IntKind.i64 ((↑(a.i):Int)+(1:Int))))];letI j:=nQ a.row (List.drop a.j a.l) a.j a.g;letI k:=c [e a.rel,h 38 a.l];letI l:=h 70 a.rows;sp 56 [(0,AV.cf 0),(2,AV.ptr 2 0 [] 0),(3,AV.ptr 3 0 [] 0),(6,h 72 (ag (nth x.rows (Int.toNat (↑(x.i):Int))))),(7,i 9 72 (List.map (fun(x:ByteArray×eV)=>Value.string x.1) x.e) (List.map (fun(x:ByteArray×eV)=>c [d x.2.y,b x.2.n,e x.2.s]) x.e)),(10,h 70 x.rows),(11,b (↑(x.rows.length):Int)),(12,b (↑(x.i):Int)),(18,h 38 x.l),(19,b (↑(x.l.length):Int)),(20,b 0)] [g (some x.xs),f 51 (h 70 x.rows),f 162 (i 9 72 (List.map (fun(x:ByteArray×eV)=>Value.string x.1) x.e) (List.map (fun(x:ByteArray×eV)=>c [d x.2.y,b x.2.n,e x.2.s]) x.e)),f 45 (c [e x.rel,h 38 x.l])]=EM a/\Bv a/\ak (Option.isSome j) (∃(rest:List AV),a.xs=AV.aJ [i 9 72 (List.map (fun(x:ByteArray×eV)=>Value.string x.1) (Option.getD j [])) (List.map (fun(x:ByteArray×eV)=>c [d x.2.y,b x.2.n,e x.2.s]) (Option.getD j []))]::rest/\(∃(m:Nat),m<N/\I m (sp 56 n [g (some rest),f 51 l,f 162 (i 9 72 (List.map (fun(x:ByteArray×eV)=>Value.string x.1) a.e) (List.map (fun(x:ByteArray×eV)=>c [d x.2.y,b x.2.n,e x.2.s]) a.e)),f 45 k]))/\K Exit.ret (sp 56 [] [g none,f 51 l,f 162 (i 9 72 (List.map (fun(x:ByteArray×eV)=>Value.string x.1) a.e) (List.map (fun(x:ByteArray×eV)=>c [d x.2.y,b x.2.n,e x.2.s]) a.e)),f 45 k])) (∃(m:Nat),m<N/\I m (sp 56 n [g (some a.xs),f 51 l,f 162 (i 9 72 (List.map (fun(x:ByteArray×eV)=>Value.string x.1) a.e) (List.map (fun(x:ByteArray×eV)=>c [d x.2.y,b x.2.n,e x.2.s]) a.e)),f 45 k])))) (K (Exit.exit 0) (sp 56 [] [g (some x.xs),f 51 (h 70 x.rows),f 162 (i 9 72 (List.map (fun(x:ByteArray×eV)=>Value.string x.1) x.e) (List.map (fun(x:ByteArray×eV)=>c [d x.2.y,b x.2.n,e x.2.s]) x.e)),f 45 (c [e x.rel,h 38 x.l])]))):=by kernel_rfl
def mX l(a:List _) e:=a.filterMap fun r=>nQ (ag r) l 0 e
def Gm(L:List dI):List AV:=L.map fun g=> .aJ [cL g]
structure Dv(l rows:List AV):Prop where
 n:rows.length<=100000000
 k:l.length<=100000
 h:gg l
 w: ∀r,r∈rows->(ag r).length=l.length
def FX(x:AMr):=x.i<=x.rows.length/\Dv x.l x.rows/\x.xs=Gm (mX x.l (x.rows.drop x.i) x.e)
def TR(x:AMr):Out (Exit×S):= .all (fun _=>True) fun b=> .ak b
 (.one (.exit 0,sp 56 [] (.ext (some [])::Lw x.rel x.l x.rows x.e)))
 (.one (.ret,sp 56 [] (.ext none::Lw x.rel x.l x.rows x.e)))
theorem Js l a(e:dI)(i:Nat)(h:i<a.length):mX l (a.drop i) e=(match nQ (ag (nth a i)) l 0 e with|some g=>g::mX l (a.drop (i+1)) e|none=>mX l (a.drop (i+1)) e):=by
 rw[ap0 h,←aV _ i h,mX,List.filterMap_cons];cases nQ _ l 0 e<;>rfl
theorem lMr κ:aX (V3 κ).E 12 176 1 (aG 4 MB FX TR):=by
 refine aD (fun x=>x.rows.length - x.i) ?_;rintro⟨c,l,a,xs,e,i⟩ K ⟨v,f,b⟩ q;simp only at v f b;rw[show(V3 κ).E.P=Pr κ from rfl];refine Eq.mpr (xMr κ ⟨c,l,a,xs,e,i⟩ _ _ K) ?_;have j:=q true trivial;have o:=q false trivial;simp only[Out.run,ak] at j o;simp only[Int.toNat_natCast];have z:=f.n;rw[ad,an9,ao1];refine⟨fun h=>?_,fun h=>?_⟩
 ·have r:i<a.length:=by omega
  have t:nth a i∈a:=by rw[aV a i r];exact List.getElem_mem _
  rw[Js l a e i r] at b;have u:IntKind.wrap .i64 ((i:Int)+1)=((i+1:Nat):Int):=by rw[az (by omega) (by omega)];omega
  have d: ∀p,p=Gm (mX l (a.drop (i+1)) e)->∃m,m<a.length - i/\et MB FX TR (fun x=>x.rows.length - x.i) K m (MB ⟨c,l,a,p,e,i+1⟩):=fun p y=>
   ⟨_,by simp only;omega,⟨c,l,a,p,e,i+1⟩,rfl,⟨r,f,y⟩,rfl,q⟩
  refine ai.2 ⟨by simp;omega,trivial,⟨c,l,a,xs,e,i,ag (nth a i),e,0⟩,rfl,⟨Nat.zero_le _,f.k,f.w _ t,f.h⟩,?_⟩;simp only[ao9];rw[u];cases s:nQ (ag (nth a i)) l 0 e with
  |some g=>
   rw[s] at b;exact⟨_,b,d _ rfl,o⟩
  |none=>
   rw[s] at b;exact d _ b
 ·rw[ao7 (by omega)] at b
  have b:xs=[]:=b;subst b;exact j
noncomputable def BMr κ:=(V3 κ).loop (lMr _)
theorem yMm κ rel l rows xs e K:(a9 (BMr κ).E 12 176 [.cf 0, .ptr 1 0 [] 0, .ptr 2 0 [] 0, .ptr 3 0 [] 0] (.ext (some xs)::Lw rel l rows e) K)=(
 letI b:=AV.int
 letI c:=AV.agg
 letI d:=AV.str
 letI f:=Obj.box
 letI g:=AV.ah
 ae (Pg.toProgram (Env.P (EB.E (V3 κ)))) 176 1=ae (Pg.toProgram (Env.P (EB.E (V3 κ)))) 176 1/\∃(a:AMr),letI h:=c [d a.rel,g 38 a.l];sp 56 [(0,AV.cf 0),(2,AV.ptr 2 0 [] 0),(3,AV.ptr 3 0 [] 0),(10,g 70 rows),(11,b (↑(rows.length):Int)),(12,b 0)] [Obj.ext (some xs),f 51 (g 70 rows),f 162 (AV.eQ 9 72 (List.map (fun(x:ByteArray×eV)=>Value.string x.1) e) (List.map (fun(x:ByteArray×eV)=>c [AV.bool x.2.y,b x.2.n,d x.2.s]) e)),f 45 (c [d rel,g 38 l])]=MB a/\FX a/\∀(y:Bool),True->ak y (K (AV.aJ []) [Obj.ext (some []),f 51 (g 70 a.rows),f 162 (AV.eQ 9 72 (List.map (fun(x:ByteArray×eV)=>Value.string x.1) a.e) (List.map (fun(x:ByteArray×eV)=>c [AV.bool x.2.y,b x.2.n,d x.2.s]) a.e)),f 45 h]) (K (AV.aJ []) [Obj.ext none,f 51 (g 70 a.rows),f 162 (AV.eQ 9 72 (List.map (fun(x:ByteArray×eV)=>Value.string x.1) a.e) (List.map (fun(x:ByteArray×eV)=>c [AV.bool x.2.y,b x.2.n,d x.2.s]) a.e)),f 45 h])):=by kernel_rfl
structure AMm where
 rel:ByteArray
 l:List AV
 rows:List AV
 e:dI
def Qc(x:AMm):List AV×List Dn.Obj:=([.cf 0, .ptr 1 0 [] 0, .ptr 2 0 [] 0, .ptr 3 0 [] 0], .ext (some (Gm (mX x.l x.rows x.e)))::Lw x.rel x.l x.rows x.e)
def A3(x:AMm):Prop:=Dv x.l x.rows
def HA(_:AMm):Out (AV×List Dn.Obj):= .all (fun st'=>rF st') fun st'=> .one (.aJ [],st')
theorem cMm κ:bg (BMr κ).E 12 176 (aO Qc A3 HA):=by
 refine aU ?_;rintro⟨b,l,a,e⟩ K d c;refine Eq.mpr (yMm κ b l a _ e K) ?_;refine⟨rfl,⟨b,l,a,_,e,0⟩,rfl,⟨Nat.zero_le _,d,rfl⟩,fun y _=>?_⟩;cases y
 ·exact c _ trivial
 ·exact c _ trivial
noncomputable def BMm κ:=(BMr κ).call (cMm _)
structure va where
 ds:List AV
 rs:List AV
 r:dk
 od:List Nat
 ins:List AV
abbrev uE(x:va)(o:AV):AV:= .agg [eg x.ds x.rs,au x.r, .an 1 0 x.od.length, .an 2 0 x.ins.length,o]
abbrev dt(x:va)(L:RL):List Dn.Obj:=[.box 160 (uE x (.an 3 0 L.length)), .row 3 (ints x.od), .row 51 x.ins, .row 70 (rws L)]
abbrev uD(a:ByteArray)(l:List AV):AV:= .agg [.lit (.string a), .ah 38 l]
theorem yRm κ x L rel l K:(a9 (BMm κ).E 12 143 [.ptr 0 0 [] 0,uD rel l] (dt x L) K)=(
 ∃(a:List AV×ByteArray),([AV.ah 43 x.ds,AV.str rel],[])=Ho a/\iw a/\aR (decide ((0:Int)<=bw a.2 a.1)&&decide (bw a.2 a.1<
 (↑(x.ins.length):Int))) (K (AV.ah 70 (ag (nth x.ins (0+Int.toNat (bw a.2 a.1))))) (dt x L))):=by kernel_rfl
structure W9 where
 x:va
 L:RL
 rel:ByteArray
 l:List AV
def va.at(x:va) a:=ag (nth x.ins (bw a x.ds).toNat)
def yX(a:W9):=([.ptr 0 0 [] 0,uD a.rel a.l],dt a.x a.L)
def tP(a:W9):=a.x.ds.length<=aW/\0<=bw a.rel a.x.ds/\bw a.rel a.x.ds<a.x.ins.length
def SZ(a:W9):Out (AV×List Dn.Obj):= .one (.ah 70 (a.x.at a.rel),dt a.x a.L)
theorem cRm κ:bg (BMm κ).E 12 143 (aO yX tP SZ):=by
 refine aU ?_;rintro⟨x,L,a,l⟩ K ⟨c,d,e⟩ b;refine Eq.mpr (yRm _ x L _ l K) ⟨(x.ds,a),rfl,c,ai.2 ⟨?_,by rw[Nat.zero_add];exact b⟩⟩
 grind
noncomputable def Xf κ:=EB.inline (((BMm κ).call (cRm _)).calm [143]) [142,141]
structure nT where
 x:va
 L:RL
 op:Int
 rel:ByteArray
 l:List AV
 u:AT
 v:AT
 e:dI
abbrev Ls(a:nT):AV:= .agg [.int a.op,uD a.rel a.l,dm a.u,dm a.v]
noncomputable abbrev LJ(a:nT):Dn.Obj:=
 .loop (iM Tryz.prog 147 3 .ready none (ic (bM 68) [(0, .ptr 0 0 [] 0),(1,Ls a),(2,cL a.e),(4, .ptr 4 0 [] 0),(6, .int 0),(7, .bool false),(8, .ptr 5 0 [] 0),(14,cL a.e),(15, .ptr 4 0 [1] 1),(16,uD a.rel a.l),(17, .ptr 0 0 [] 0),(18, .ptr 4 0 [1] 1),(19,uD a.rel a.l),(20, .ah 70 (a.x.at a.rel)),(21, .bn 176 [.ptr 8 0 [] 0, .ptr 6 0 [] 0, .ptr 7 0 [] 0])]))
noncomputable abbrev uC a:=dt a.x a.L++[.box 80 (Ls a), .box 194 .nil, .box 162 (cL a.e), .box 45 (uD a.rel a.l), .box 51 (.ah 70 (a.x.at a.rel)),LJ a]
noncomputable abbrev Gq a V:=dt a.x a.L++[.box 80 (Ls a), .box 194 (.an 10 0 V.length), .dead, .dead, .dead,LJ a, .row 2 V]
theorem sRk κ a Q:(tidy (Pr κ).toProgram 10 (dA (uC a) (b6 (uC a) [.ptr 8 0 [] 0, .ptr 6 0 [] 0, .ptr 7 0 [] 0])) Q)=(
 letI b:=Obj.row
 Q [Obj.box 160 (uE a.x (AV.an 3 0 a.L.length)),b 3 (ints a.x.od),b 51 a.x.ins,b 70 (rws a.L),Obj.box 80 (Ls a),Obj.box 194 (AV.an 10 0
 0),Obj.dead,Obj.dead,Obj.dead,LJ a,b 2 []]):=by kernel_rfl
theorem rRk κ a V g Q(K2:List Dn.Obj->Prop):(gp (vc (Xf κ).E 12) 9 [cL g] (Gq a V) (fun r st''=>match r with| .lit (.bool true)=>tidy (Pr κ).toProgram 10 st'' Q| .lit (.bool false)=>K2 st''|_=>False))=(
 letI b:=Obj.box
 letI c:=Obj.row
 letI d:=decide ((V.length+1+1)*9<=70368744177664)
 letI e:=uE a.x (AV.an 3 0 a.L.length)
 letI f:=AV.an 10 0 (V.length+1)
 ak (a.op != (7:Int)) (∃(e0:gC),([cL g,dm a.v],[])=dS e0/\bL (AT.tm e0.t)=true/\aR d (Q [b 160 e,c 3 (ints a.x.od),c 51
 a.x.ins,c 70 (rws a.L),b 80 (Ls a),b 194 f,Obj.dead,Obj.dead,Obj.dead,LJ a,c 2 (List.take V.length V++[AV.int (eV.n (bK e0.e
 (AT.tm e0.t)))])])) (aR d (Q [b 160 e,c 3 (ints a.x.od),c 51 a.x.ins,c 70 (rws a.L),b 80 (Ls a),b 194 f,Obj.dead,
 Obj.dead,Obj.dead,LJ a,c 2 (List.take V.length V++[AV.int 0])]))):=by kernel_rfl
abbrev Gk:List AV:=[.ptr 8 0 [] 0, .ptr 6 0 [] 0, .ptr 7 0 [] 0]
theorem oRk a:mL (uC a) Gk=true:=by kernel_rfl
theorem kRk a xs:(AV.cf 0::fP (iU (b6 (uC a) Gk)) Gk,Obj.ext (some xs)::gx (iU (b6 (uC a) Gk)) (gu (uC a) (b6 (uC a) Gk)))=([.cf 0, .ptr 1 0 [] 0, .ptr 2 0 [] 0, .ptr 3 0 [] 0], .ext (some xs)::Lw a.rel a.l (a.x.at a.rel) a.e):=by kernel_rfl
def mD(a:Int)(v:AT) g:=bif a != 7 then(bK g v.tm).n else 0
structure R2(a:nT):Prop where
 m:Dv a.l (a.x.at a.rel)
 v:a.op≠7->bL a.v.tm=true
def nT.fG(a:nT):=(mX a.l (a.x.at a.rel) a.e).map (mD a.op a.v)
noncomputable def YG:eK:=fun b st K=>∃a,(b,st)=(Gk,uC a)/\R2 a/\K (Gq a (iA a.fG))
theorem KJ:YG.gn:=by
 rintro b st K g e ⟨a,d,f,c⟩;exact⟨a,d,f,e _ c⟩
theorem Vu κ a st K(h:aO Qc A3 HA a st K):(Xf κ).E.call 176 a st K:=h
theorem wU l a e:(mX l a e).length<=a.length:=List.length_filterMap_le _ _
theorem gRk κ:jk (Xf κ).E 12 176 YG:=by
 rintro i st K ⟨a,u,q,t⟩;obtain⟨rfl,rfl⟩:=Prod.mk.inj (show(i,st)=(Gk,uC a) from u);have A:=Nat.le_trans (wU a.l (a.x.at a.rel) a.e) q.m.n;refine⟨Gm (mX a.l (a.x.at a.rel) a.e),fun f st'=>∃d b:List dI,f=Gm b/\st'=Gq a (iA (d.map (mD a.op a.v)))/\d++b=mX a.l (a.x.at a.rel) a.e,⟨oRk a,?_,?_,?_,?_⟩⟩
 ·refine Vu κ _ _ _ ⟨⟨a.rel,a.l,a.x.at a.rel,a.e⟩,?_,q.m,fun st' h=>h⟩
  rw[kRk];rfl
 ·rw[show(Xf κ).E.P=Pr κ from rfl,show(uC a).length=10 from rfl,sRk]
  exact Exists.intro [] (Exists.intro _ (And.intro (Eq.refl _) (And.intro (Eq.refl _) (List.nil_append _))))
 ·rintro y r st' ⟨d,b,p,rfl,k⟩
  cases b with
  |nil=>cases p
  | cons g b=>
   obtain⟨w,rfl⟩:=List.cons.inj p;obtain rfl:=AV.aJ.inj w;rw[show(Xf κ).E.P=Pr κ from rfl,show(uC a).length=10 from rfl,show(10:Nat) - 1=9 from rfl];refine Eq.mpr (rRk κ a (iA (d.map (mD a.op a.v))) g (fun st'=>∃j o:List dI,Gm b=Gm o/\st'=Gq a (iA (j.map (mD a.op a.v)))/\j++o=mX a.l (a.x.at a.rel) a.e) K) ?_;have z:d.length<=(mX a.l (a.x.at a.rel) a.e).length:=by rw[←k];simp
   have s:decide (((iA (d.map (mD a.op a.v))).length+1+1)*9<=70368744177664)=true:=by rw[an9,jw,List.length_map];omega
   have c: ∀n:Int,n=mD a.op a.v g->∃j o:List dI,Gm b=Gm o/\Gq a (iA (d.map (mD a.op a.v))++[AV.int n])=Gq a (iA (j.map (mD a.op a.v)))/\j++o=mX a.l (a.x.at a.rel) a.e:=fun n h=>
    ⟨d++[g],b,rfl,by rw[h,List.map_append,w8];rfl,by rw[←k];simp⟩
   simp only[Gq,ap4,List.length_singleton] at c;rw[List.take_length];refine ad.2 ⟨fun e7=>⟨⟨g,a.v⟩,rfl,q.v (by simpa using e7),ai.2 ⟨s,c _ (by unfold mD;rw[e7];rfl)⟩⟩,fun e7=>ai.2 ⟨s,c _ (by unfold mD;rw[e7];rfl)⟩⟩
 ·rintro st' ⟨d,b,p,rfl,k⟩
  obtain rfl:b=[]:=by cases b with|nil=>rfl|cons _ _=>cases p
  rw[List.append_nil] at k;rw[k];exact t
noncomputable def GH κ:=(Xf _).range 147 3 KJ (gRk κ) fun f=>iV f (176::N3)
abbrev ab7(a:nT) V m(i:Nat):=sp 68 [(11, .int m),(45, .an 4 0 V.length),(46, .int V.length),(47, .int i)] (dt a.x a.L++[.row 2 V])
theorem xSu κ a V m i I N K:(vc (GH κ).E 12 147 none 4 (ae (Pr κ).toProgram 147 13) (ab7 a V m i) (bj (GH κ).E 147 13 4 I N K))=(
 letI b:=IntKind.wrap IntKind.i64
 letI c:=Obj.row
 letI d:=(↑i:Int)<(↑(V.length):Int)
 ak (decide d) (aR (true&&decide d) (∃(e0:Nat),e0<N/\I e0 (sp 68 [(11,AV.int (b (m+toInt (nth V (0+Int.toNat (↑i:
 Int)))))),(45,AV.an 4 0 V.length),(46,AV.int (↑(V.length):Int)),(47,AV.int (b ((↑i:Int)+(1:Int))))] [Obj.box 160 (uE a.x
 (AV.an 3 0 a.L.length)),c 3 (ints a.x.od),c 51 a.x.ins,c 70 (rws a.L),c 2 V]))) (K (Exit.exit 3) (sp 68 [(11,AV.int m)] (dt a.x
 a.L)))):=by kernel_rfl
def Vl m(l:List _):=l.foldl (fun m x=>IntKind.wrap .i64 (m+toInt x)) m
structure ASu where
 a:nT
 V:List AV
 m:Int
 i:Nat
abbrev TG(x:ASu):S:=ab7 x.a x.V x.m x.i
def NC(x:ASu):=x.i<=x.V.length/\x.V.length<=100000000
def Td(x:ASu):Out (Exit×S):= .one (.exit 3,sp 68 [(11, .int (Vl x.m (x.V.drop x.i)))] (dt x.a.x x.a.L))
theorem lSu κ:aX (GH κ).E 12 147 13 (aG 4 TG NC Td):=by
 refine aD (fun x=>x.V.length - x.i) ?_;rintro⟨a,V,m,i⟩ K ⟨e,d⟩ b;simp only at e d;rw[show(GH κ).E.P=Pr κ from rfl];refine Eq.mpr (xSu κ a V m i _ _ K) ?_;simp only[Nat.zero_add,Int.toNat_natCast];rw[ad,an9,ao1];simp only[Td,Out.run] at b;refine⟨fun h=>ai.2 ⟨by simp;omega,_,?_,⟨a,V,IntKind.wrap .i64 (m+toInt (nth V i)),i+1⟩,?_,⟨by simp only;omega,d⟩,rfl,?_⟩,fun h=>?_⟩
 ·simp only;omega
 ·grind [az]
 ·have c:i<V.length:=by omega
  rw[ap0 c,←aV V i c] at b;exact b
 ·rw[ao7 (by omega)] at b
  exact b
noncomputable def BSu κ:=(GH κ).loop (lSu _)
theorem yRk κ a K:(a9 (BSu κ).E 12 147 [.ptr 0 0 [] 0,Ls a,cL a.e] (dt a.x a.L) K)=(
 letI b:=AV.ptr 0 0 []
 letI c:=AV.int
 letI d:=AV.ptr
 letI e:=AV.bool
 letI f:=Obj.box
 letI g:=Obj.row
 letI l:=Pg.toProgram (Env.P (EB.E (GH κ)))
 ∃(e2:W9),letI m:=uE e2.x (AV.an 3 0 e2.L.length);([b 0,uD a.rel a.l],dt a.x a.L)=yX e2/\tP e2/\(f 160 m=f 160 (uE a.x (AV.an 3 0 a.L.length))/\f 80 (Ls a)=f 80 (Ls a)/\f 194 AV.nil=f 194 AV.nil/\True)/\∃(e1:nT),letI k:=iA (nT.fG e1);letI i:=List.length k;letI h:=List.take i (List.drop 0 k);letI j:=dt e1.x e1.L;([d 8 0 [] 0,d 6 0 [] 0,d 7 0 [] 0],[f 160 m,g 3 (ints e2.x.od),g 51 e2.x.ins,g 70 (rws e2.L),f 80 (Ls a),f 194 AV.nil,f 162 (cL a.e),f 45 (uD a.rel a.l),f 51 (AV.ah 70 (va.at e2.x e2.rel)),Dn.Obj.loop (iM Tryz.prog 147 3 LoopState.ready none (ic (bM 68) [(0,b 0),(1,Ls a),(2,cL a.e),(4,d 4 0 [] 0),(6,c 0),(7,e false),(8,d 5 0 [] 0),(14,cL a.e),(15,d 4 0 [1] 1),(16,uD a.rel a.l),(17,b 0),(18,d 4 0 [1] 1),(19,uD a.rel a.l),(20,AV.ah 70 (va.at e2.x e2.rel)),(21,AV.bn 176 [d 8 0 [] 0,d 6 0 [] 0,d 7 0 [] 0])]))])=([d 8 0 [] 0,d 6 0 [] 0,d 7 0 [] 0],uC e1)/\R2 e1/\ak (e1.op==(7:Int)) (K (AV.aJ [c (↑i:Int),e true]) j) (ak (e1.op==(8:Int)) (ae l 147 13=ae l 147 13/\∃(e0:ASu),sp 68 [(11,c 0),(45,AV.an 4 0 i),(46,c (↑i:Int)),(47,c 0)] [f 160 (uE e1.x (AV.an 3 0 e1.L.length)),g 3 (ints e1.x.od),g 51 e1.x.ins,g 70 (rws e1.L),g 2 k]=TG e0/\NC e0/\K (AV.aJ [c (Vl e0.m (List.drop e0.i e0.V)),e true]) (dt e0.a.x e0.a.L)) (ak ((↑i:Int)==(0:Int)) (K (AV.aJ [c 0,e false]) j) (ak (e1.op==(9:Int)) (aR (decide (1<=List.length h)&&decide (List.length h<=100000000)) (K (AV.aJ [c (OO (toInt (nth h 0)) (List.drop 1 h)),e true]) j)) (aR (decide (1<=List.length h)&&decide (List.length h<=100000000)) (K (AV.aJ [c (OF (toInt (nth h 0)) (List.drop 1 h)),e true]) j)))))):=by kernel_rfl
def nJ(a:Int)(V:List AV):Int:=bif a==7 then V.length else bif a==8 then Vl 0 V else bif (V.length:Int)==0 then 0 else bif a==9 then OO (toInt (nth V 0)) (V.drop 1) else OF (toInt (nth V 0)) (V.drop 1)
def n9(a:Int)(V:List AV):=a==7||(a==8|| !(V.length:Int)==0)
def SH a:=([.ptr 0 0 [] 0,Ls a,cL a.e],dt a.x a.L)
structure Hu(a:nT):Prop where
 d:a.x.ds.length<=aW
 f0:0<=bw a.rel a.x.ds
 f1:bw a.rel a.x.ds<a.x.ins.length
 k:R2 a
def S2(a:nT):Out (AV×List Dn.Obj):= .one (.aJ [.int (nJ a.op (iA a.fG)), .bool (n9 a.op (iA a.fG))],dt a.x a.L)
theorem sq{a}(h:R2 a):(iA a.fG).length<=100000000:=by
 rw[jw,nT.fG,List.length_map];exact Nat.le_trans (wU _ _ _) h.m.n
theorem cRk κ:bg (BSu κ).E 12 147 (aO SH Hu S2):=by
 refine aU ?_;intro a K c b
 replace b:K (.aJ [.int (nJ a.op (iA a.fG)), .bool (n9 a.op (iA a.fG))]) (dt a.x a.L):=b
 refine Eq.mpr (yRk κ a K) ?_;refine⟨⟨a.x,a.L,a.rel,a.l⟩,rfl,⟨c.d,c.f0,c.f1⟩,⟨rfl,rfl,rfl,trivial⟩,a,rfl,c.k,?_⟩;have g:=sq c.k;have h:(iA a.fG).take (iA a.fG).length=iA a.fG:=List.take_length;rw[ao9,h];unfold nJ n9 at b;have f:((((iA a.fG).length:Int)==0)=false)->(decide (1<=(iA a.fG).length)&&decide ((iA a.fG).length<=100000000))=true:=fun i=>by
  grind
 refine ad.2 ⟨fun e7=>?_,fun e7=>ad.2 ⟨fun e8=>⟨rfl,⟨a,iA a.fG,0,0⟩,rfl,⟨Nat.zero_le _,g⟩,?_⟩,fun e8=>ad.2 ⟨fun e0=>?_,fun e0=>ad.2 ⟨fun e=>ai.2 ⟨f e0,?_⟩,fun e=>ai.2 ⟨f e0,?_⟩⟩⟩⟩⟩
 ·rw[e7] at b;exact b
 ·rw[e7,e8] at b;exact b
 ·rw[e7,e8,e0] at b;exact b
 ·rw[e7,e8,e0,e] at b;exact b
 ·rw[e7,e8,e0,e] at b;exact b
noncomputable def CS κ:=((BSu κ).call (cRk _)).calm [147]
structure AHr where
 x:va
 L:RL
 e:dI
 i:Nat
def jl(a:List _) e:=a.map fun t=>e6 (bK e (eI t).tm)
abbrev UC(a:AHr) V:=sp 191 [(2,cL a.e),(3, .ptr 4 0 [] 0),(6, .an 5 0 V.length),(26, .ah 38 a.x.r.hl),(27, .int a.x.r.hl.length),(28, .int a.i)] (dt a.x a.L++[.box 158 (.ptr 0 0 [] 0), .row 72 V])
theorem xHr κ a V I N K:(vc (CS κ).E 12 98 none 4 (ae (Pr κ).toProgram 98 4) (UC a V) (bj (CS κ).E 98 4 4 I N K))=(
 letI b:=Obj.box
 letI c:=Obj.row
 letI d:=dk.hl a.x.r
 letI e:=nth d (Int.toNat (↑(a.i):Int))
 letI f:=(↑(a.i):Int)<(↑(List.length d):Int)
 letI g:=uE a.x (AV.an 3 0 a.L.length)
 ak (decide f) (aR (true&&decide f) (∃(v1:gC),([cL a.e,AV.agg [AV.int (toInt (af e 0)),AV.str (toStr (af e 1)),AV.int (toInt (af e 2)),AV.ah 38
 (ag (af e 3))]],[])=dS v1/\bL (AT.tm v1.t)=true/\aR (decide ((V.length+1+1)*33<=70368744177664)) (∃(v0:Nat),v0<N/\I v0 (sp 191 [(2,cL
 a.e),(3,AV.ptr 4 0 [] 0),(6,AV.an 5 0 (V.length+1)),(26,AV.ah 38 d),(27,AV.int (↑(List.length d):Int)),(28,AV.int (IntKind.wrap IntKind.i64
 ((↑(a.i):Int)+(1:Int))))] [b 160 g,c 3 (ints a.x.od),c 51 a.x.ins,c 70 (rws a.L),b 158 (AV.ptr 0 0 [] 0),c 72
 (List.take V.length V++[e6 (bK v1.e (AT.tm v1.t))])])))) (K (Exit.exit 0) (sp 191 [(3,AV.ptr 4 0 [] 0),(6,AV.an 5 0 V.length)] [b 160 g,c 3
 (ints a.x.od),c 51 a.x.ins,c 70 (rws a.L),b 158 (AV.ptr 0 0 [] 0),c 72 V]))):=by kernel_rfl
abbrev MD a:=UC a (jl (a.x.r.hl.take a.i) a.e)
def Ma(a:AHr):=a.i<=a.x.r.hl.length/\a.x.r.hl.length<=100000/\∀t,t∈a.x.r.hl->bL (eI t).tm=true
def Y8(a:AHr):Out (Exit×S):= .one (.exit 0,sp 191 [(3, .ptr 4 0 [] 0),(6, .an 5 0 (jl a.x.r.hl a.e).length)] (dt a.x a.L++[.box 158 (.ptr 0 0 [] 0), .row 72 (jl a.x.r.hl a.e)]))
theorem lHr κ:aX (CS κ).E 12 98 4 (aG 4 MD Ma Y8):=by
 refine aD (fun a=>a.x.r.hl.length - a.i) ?_;rintro⟨x,L,e,i⟩ K ⟨k,f,c⟩ d;simp only at k f c;rw[show(CS κ).E.P=Pr κ from rfl];refine Eq.mpr (xHr κ ⟨x,L,e,i⟩ _ _ _ K) ?_;simp only[Int.toNat_natCast];rw[ad,an9,ao1];refine⟨fun h=>?_,fun h=>?_⟩
 ·have b:i<x.r.hl.length:=by omega
  have j:nth x.r.hl i∈x.r.hl:=by rw[aV _ i b];exact List.getElem_mem _
  have l:jl (x.r.hl.take (i+1)) e=jl (x.r.hl.take i) e++[e6 (bK e (eI (nth x.r.hl i)).tm)]:=by
   rw[List.take_add_one,jl,jl,List.map_append,aV _ i b];simp[b]
  have m:(jl (x.r.hl.take i) e).length<=100000:=by rw[jl,List.length_map,List.length_take];omega
  refine ai.2 ⟨by simp;omega,⟨e,eI (nth x.r.hl i)⟩,rfl,c _ j,ai.2 ⟨by rw[an9];omega,_,?_,⟨x,L,e,i+1⟩,?_,⟨b,f,c⟩,rfl,d⟩⟩
  ·simp only;omega
  ·simp only[MD,UC,l,List.take_length,ap4,List.length_singleton]
   rw[az (n:=(i:Int)+1) (by omega) (by omega)];rfl
 ·have g:x.r.hl.take i=x.r.hl:=List.take_of_length_le (by omega)
  simp only[g];exact d
noncomputable def BHr κ:=(CS κ).loop (lHr _)
theorem Ht{b p q p' a}(d:p->p')(c:q->a)(h:ak b p q):ak b p' a:=by
 cases b
 ·exact c h
 ·exact d h
def EB.VM(b:EB){f:Nat}{sp:dM}(e:sp.gn)(h: ∀c st K,sp c st K->b.E.call f c st K):EB:=⟨_,b.ok.fT fun a s K d=>b.ok.call _ _ _ _ (h a s K d),b.mono.aw e⟩
def aj1(st:List Dn.Obj)(i:Nat)(k:AV->Prop):Prop:=match ay st i with| .box _ a=>k a|_=>False
def ak1(st:List Dn.Obj)(i:Nat)(k:List AV->Prop):Prop:=match ay st i with| .row _ l=>k l|_=>False
def dsK(a:AV)(k:List AV->Prop):=match a with| .agg (.agg (.ah _ ds::_)::_)=>k ds|_=>False
def ad5(l:List AV)(k:ByteArray->Prop):=match l with|[_, .agg [.lit (.string s),_]]=>k s|_=>False
def Oo:dM:=fun c st K=>(∃a,(c,st)=yX a/\tP a)/\ad5 c fun d=>aj1 st 0 fun b=>dsK b fun ds=>ak1 st 2 fun e=>K (.ah 70 (ag (nth e (bw d ds).toNat))) st
theorem F0:Oo.gn:=fun b st K f e h=>by
 obtain⟨⟨a,d,g⟩,c⟩:=h;obtain⟨rfl,rfl⟩:=Prod.mk.inj d;exact⟨by grind,e _ _ c⟩
theorem U0 b st K(h:Oo b st K):aO yX tP SZ b st K:=by
 obtain⟨⟨a,d,e⟩,c⟩:=h;obtain⟨rfl,rfl⟩:=Prod.mk.inj d;exact⟨a,rfl,e,c⟩
def MI:dM:=fun b st K=>∃a,(b,st)=SH a/\Hu a/\K (.aJ [.int (nJ a.op (iA a.fG)), .bool (n9 a.op (iA a.fG))]) st
theorem Gf:MI.gn:=fun _ _ _ _ c ⟨a,d,e,b⟩=>⟨a,d,e,c _ _ b⟩
theorem WN b st K(h:MI b st K):aO SH Hu S2 b st K:=by
 obtain⟨a,d,e,c⟩:=h;obtain⟨rfl,rfl⟩:=Prod.mk.inj d;exact⟨a,rfl,e,c⟩
theorem Vr κ a st K(h:Oo a st K):(BHr κ).E.call 143 a st K:=U0 _ _ K h
noncomputable def BGa κ:=EB.VM _ F0 (Vr κ)
theorem Sy κ a st K(h:MI a st K):(BGa κ).E.call 147 a st K:=WN _ _ K h
noncomputable def BGb κ:=EB.VM _ Gf (Sy κ)
structure bp where
 x:va
 L:RL
 i:Nat
 e:dI
abbrev bp.j(a:bp):=0+Int.toNat a.i
abbrev bp.k(a:bp):=nth (ints a.x.od) a.j
abbrev bp.t(a:bp):=nth a.x.r.bl (toInt a.k).toNat
abbrev bp.rel(a:bp):=toStr (af (af a.t 1) 0)
abbrev bp.l(a:bp):=ag (af (af a.t 1) 1)
abbrev iX(x:AV):AV:= .agg [.int (toInt (af x 0)), .lit (.string (toStr (af x 1))), .int (toInt (af x 2)), .ah 38 (ag (af x 3))]
abbrev bp.lit(a:bp):AV:= .agg [.int (toInt (af a.t 0)),uD a.rel a.l,iX (af a.t 2),iX (af a.t 3)]
noncomputable abbrev EC(a:bp):Dn.Obj:=
 .loop (iM Tryz.prog 98 20 .ready none (ic (bM 191) [(0, .ptr 0 0 [] 0),(1, .int a.i),(2,cL a.e),(3, .ptr 4 0 [] 0),(4, .ptr 5 0 [] 0),(9, .ptr 6 0 [] 0),(10, .ptr 7 0 [] 0),(14, .int a.i),(15, .ptr 0 0 [] 0),(16, .ptr 0 0 [] 0),(17, .ptr 0 0 [2] 6),(18, .an 1 0 a.x.od.length),(19, .int a.x.od.length),(20, .bool false),(49, .ptr 0 0 [] 0),(50, .ptr 0 0 [] 0),(51, .ptr 0 0 [1] 2),(52, .ptr 0 0 [1,1] 4),(53, .ah 80 a.x.r.bl),(54, .ptr 0 0 [] 0),(55, .ptr 0 0 [] 0),(56, .ptr 0 0 [2] 6),(57, .an 1 0 a.x.od.length),(58, .int a.i),(59, .ptr 1 a.j [] 0),(60, .int (toInt a.k)),(61, .jh 80 a.t),(62,a.lit),(63, .bn 141 [.ptr 4 0 [] 0, .ptr 5 0 [] 0]),(64, .ptr 6 0 [0] 0),(65, .int (toInt (af a.t 0))),(101, .bool true),(102, .bool (toInt (af a.t 0)==1)),(103,cL a.e),(104, .ptr 6 0 [1] 1),(105,uD a.rel a.l),(106, .ptr 0 0 [] 0),(107, .ptr 6 0 [1] 1),(108,uD a.rel a.l),(109, .ah 70 (a.x.at a.rel)),(110, .bn 176 [.ptr 10 0 [] 0, .ptr 8 0 [] 0, .ptr 9 0 [] 0])]))
noncomputable abbrev uQ a:=dt a.x a.L++[.box 158 (.ptr 0 0 [] 0), .box 3 (.int a.i), .box 80 a.lit, .box 207 (.bn 141 [.ptr 4 0 [] 0, .ptr 5 0 [] 0]), .box 162 (cL a.e), .box 45 (uD a.rel a.l), .box 51 (.ah 70 (a.x.at a.rel)),EC a]
noncomputable abbrev O0 a L:=dt a.x L++[.box 158 (.ptr 0 0 [] 0), .box 3 (.int a.i), .box 80 a.lit, .box 207 (.bn 141 [.ptr 4 0 [] 0, .ptr 5 0 [] 0]), .dead, .dead, .dead,EC a]
def pQ(x:va):List Nat->dI->RL
 |[],e=>[jl x.r.hl e]
 | k::b,e=>
  let t:=nth x.r.bl k
  let a:=toInt (af t 0)
  let M:=mX (ag (af (af t 1) 1)) (x.at (toStr (af (af t 1) 0))) e
  let u:=eI (af t 2)
  let v:=eI (af t 3)
  bif a==1 then M.flatMap (pQ x b)
  else bif a==2 then(bif M.isEmpty then pQ x b e else[])
  else bif a==3||(a==4||(a==5||a==6)) then
   (bif a==3&&eO e u then pQ x b (e.put u.s (bK e v.tm))
    else bif a==3&&eO e v then pQ x b (e.put v.s (bK e u.tm))
    else bif hG a (bK e u.tm) (bK e v.tm) then pQ x b e else[])
  else
   let V:=iA (M.map (mD a v))
   (bif !n9 a V then[]
    else bif eO e u then pQ x b (e.put u.s ⟨false,nJ a V,ByteArray.mk #[]⟩)
    else bif (bK e u.tm).n==nJ a V then pQ x b e else[])
abbrev af6(a:bp):=ic (bM 191) [(0, .ptr 0 0 [] 0),(1, .int a.i),(2,cL a.e),(3, .ptr 4 0 [] 0),(4, .ptr 5 0 [] 0),(9, .ptr 6 0 [] 0),(10, .ptr 7 0 [] 0),(14, .int a.i),(15, .ptr 0 0 [] 0),(16, .ptr 0 0 [] 0),(17, .ptr 0 0 [2] 6),(18, .an 1 0 a.x.od.length),(19, .int a.x.od.length),(20, .bool false),(49, .ptr 0 0 [] 0),(50, .ptr 0 0 [] 0),(51, .ptr 0 0 [1] 2),(52, .ptr 0 0 [1,1] 4),(53, .ah 80 a.x.r.bl),(54, .ptr 0 0 [] 0),(55, .ptr 0 0 [] 0),(56, .ptr 0 0 [2] 6),(57, .an 1 0 a.x.od.length),(58, .int a.i),(59, .ptr 1 a.j [] 0),(60, .int (toInt a.k)),(61, .jh 80 a.t),(62,a.lit),(63, .bn 141 [.ptr 4 0 [] 0, .ptr 5 0 [] 0]),(64, .ptr 6 0 [0] 0),(65, .int (toInt (af a.t 0))),(101, .bool false),(102, .bool (toInt (af a.t 0)==1)),(115, .bool true),(116, .bool (toInt (af a.t 0)==2)),(117,cL a.e),(118, .ptr 6 0 [1] 1),(119,uD a.rel a.l),(120, .ptr 0 0 [] 0),(121, .ptr 6 0 [1] 1),(122,uD a.rel a.l),(123, .ah 70 (a.x.at a.rel)),(124, .bn 176 [.ptr 10 0 [] 0, .ptr 8 0 [] 0, .ptr 9 0 [] 0])]
abbrev EI(a:bp)(s:LoopState)(p:Option Code):Dn.Obj:= .loop {state:=s,pending:=p,fn:=98,bC:=af6 a,params:= #[125],assign:= .skip,body:= .block 7 .ret}
noncomputable abbrev K1 a L:=[.box 160 (uE a.x (.an 12 0 L.length)), .row 3 (ints a.x.od), .row 51 a.x.ins, .dead, .box 158 (.ptr 0 0 [] 0), .box 3 (.int a.i), .box 80 a.lit, .box 207 (.bn 141 [.ptr 4 0 [] 0, .ptr 5 0 [] 0]), .dead, .dead, .dead,EC a, .row 70 (rws L)]
abbrev pP:List AV:=[.ptr 10 0 [] 0, .ptr 8 0 [] 0, .ptr 9 0 [] 0]
abbrev uL a:=dt a.x a.L++[.box 158 (.ptr 0 0 [] 0), .box 3 (.int a.i), .box 80 a.lit, .box 207 (.bn 141 [.ptr 4 0 [] 0, .ptr 5 0 [] 0]), .box 162 (cL a.e), .box 45 (uD a.rel a.l), .box 51 (.ah 70 (a.x.at a.rel)),EI a .ready none]
abbrev J0(a:bp) o:=dt a.x a.L++[.box 158 (.ptr 0 0 [] 0), .box 3 (.int a.i), .box 80 a.lit, .box 207 (.bn 141 [.ptr 4 0 [] 0, .ptr 5 0 [] 0]), .dead, .dead, .dead,o]
def iq(a:Int):=a==1||(a==2|| !(a==3||(a==4||(a==5||a==6))))
structure YP(x:va)(t:AV):Prop where
 at0:iq (toInt (af t 0))=true->0<=bw (toStr (af (af t 1) 0)) x.ds/\bw (toStr (af (af t 1) 0)) x.ds<x.ins.length
 at1:iq (toInt (af t 0))=true->Dv (ag (af (af t 1) 1)) (x.at (toStr (af (af t 1) 0)))
 u:(toInt (af t 0)==1)=false->(toInt (af t 0)==2)=false->bL (eI (af t 2)).tm=true
 v:(toInt (af t 0)==1)=false->(toInt (af t 0)==2)=false->toInt (af t 0)≠7->bL (eI (af t 3)).tm=true
structure RA(x:va):Prop where
 d:x.ds.length<=aW
 n:x.od.length<=100000
 o: ∀k,k∈x.od->k<x.r.bl.length
 h:x.r.hl.length<=100000
 hv: ∀t,t∈x.r.hl->bL (eI t).tm=true
 t: ∀k,k∈x.od->YP x (nth x.r.bl k)
def bp.out(a:bp):=pQ a.x (a.x.od.drop a.i) a.e
def fX(a:bp):=([.ptr 0 0 [] 0, .int a.i,cL a.e],dt a.x a.L)
structure cz(a:bp):Prop where
 x:RA a.x
 i:a.i<=a.x.od.length
 n:a.L.length+a.out.length<=100000000
abbrev nR(x:va)(L:RL):List Dn.Obj:=[.box 160 (uE x (.an 4 0 L.length)), .row 3 (ints x.od), .row 51 x.ins, .dead, .row 70 (rws L)]
def S0(a:bp):Out (AV×List Dn.Obj):= .ak a.out.isEmpty (.one (.aJ [],dt a.x a.L)) (.one (.aJ [],nR a.x (a.L++a.out)))
def Uf n:=aO fX (fun a=>cz a/\a.x.od.length - a.i=n) S0
noncomputable def TW κ r:=(BGb κ).E.aw 98 fun a st K=>∃m,m<r/\Uf m a st K
theorem sGm κ a Q:(tidy (Pr κ).toProgram 12 (dA (uQ a) (b6 (uQ a) pP)) Q)=(
 Q (O0 a a.L)):=by kernel_rfl
theorem rGm κ r a L g Q(K2:List Dn.Obj->Prop):(gp (vc (TW κ r) 12) 11 [cL g] (O0 a L) (fun r st''=>match r with| .lit (.bool true)=>tidy (Pr κ).toProgram 12 st'' Q| .lit (.bool false)=>K2 st''|_=>False))=(
 letI b:=AV.ptr 0 0 []
 letI c:=Obj.box
 letI d:=Obj.row
 letI e:=AV.bn 141 [AV.ptr 4 0 [] 0,AV.ptr 5 0 [] 0]
 letI f:=AV.int (↑(a.i):Int)
 ∃(e1:Nat),e1<r/\∃(e0:bp),([b 0,AV.int (IntKind.wrap IntKind.i64 ((↑(a.i):Int)+(1:Int))),cL g],dt a.x L)=fX e0/\(cz e0/\
 List.length e0.x.od - e0.i=e1)/\ak (List.isEmpty (bp.out e0)) (Q [c 160 (uE e0.x (AV.an 3 0 e0.L.length)),d 3 (ints e0.x.od),d 51
 e0.x.ins,d 70 (rws e0.L),c 158 (b 0),c 3 f,c 80 (bp.lit a),c 207 e,Obj.dead,Obj.dead,Obj.dead,EC a]) (Q
 [c 160 (uE e0.x (AV.an 12 0 (List.length (e0.L++bp.out e0)))),d 3 (ints e0.x.od),d 51 e0.x.ins,Obj.dead,c 158 (b 0),
 c 3 f,c 80 (bp.lit a),c 207 e,Obj.dead,Obj.dead,Obj.dead,EC a,d 70 (rws (e0.L++bp.out e0))])):=by kernel_rfl
theorem sGn κ a Q:(tidy (Pr κ).toProgram 12 (dA (uL a) (b6 (uL a) pP)) Q)=(
 Q (J0 a (EI a LoopState.ready none))):=by kernel_rfl
theorem rGd κ r a L g Q(K2:List Dn.Obj->Prop):(gp (vc (TW κ r) 12) 11 [cL g] (K1 a L) (fun r st''=>match r with| .lit (.bool true)=>tidy (Pr κ).toProgram 12 st'' Q| .lit (.bool false)=>K2 st''|_=>False))=(
 letI b:=AV.ptr
 letI c:=Obj.box
 letI d:=Obj.row
 letI e:=AV.bn 141 [b 4 0 [] 0,b 5 0 [] 0]
 letI f:=AV.int (↑(a.i):Int)
 ∃(e1:Nat),e1<r/\∃(e0:bp),([b 0 0 [] 0,AV.int (IntKind.wrap IntKind.i64 ((↑(a.i):Int)+(1:Int))),cL g],dt a.x L)=fX e0/\(cz e0/\
 List.length e0.x.od - e0.i=e1)/\ak (List.isEmpty (bp.out e0)) (Q [c 160 (uE e0.x (AV.an 12 0 e0.L.length)),d 3 (ints e0.x.od),d 51
 e0.x.ins,Obj.dead,c 158 (b 0 0 [] 0),c 3 f,c 80 (bp.lit a),c 207 e,Obj.dead,Obj.dead,Obj.dead,EC a,d 70 (rws
 e0.L)]) (Q [c 160 (uE e0.x (AV.an 12 0 (List.length (e0.L++bp.out e0)))),d 3 (ints e0.x.od),d 51 e0.x.ins,Obj.dead,c 158 (b 0
 0 [] 0),c 3 f,c 80 (bp.lit a),c 207 e,Obj.dead,Obj.dead,Obj.dead,EC a,d 70 (rws (e0.L++bp.out e0))])):=by kernel_rfl
def M0(a:bp):=mX a.l (a.x.at a.rel) a.e
def uK(a:bp):=pQ a.x (a.x.od.drop (a.i+1))
structure OY(a:bp)(r:Nat):Prop where
 x:RA a.x
 i:a.i<a.x.od.length
 r:a.x.od.length - a.i=r
 m:Dv a.l (a.x.at a.rel)
 n:a.L.length+((M0 a).flatMap (uK a)).length<=100000000
def bp.all(a:bp):RL:=(M0 a).flatMap (uK a)
noncomputable def WE(r:Nat):eK:=fun b st K=>∃a,(b,st)=(pP,uQ a)/\OY a r/\ak a.all.isEmpty (K (O0 a a.L)) (K (K1 a (a.L++a.all)))
theorem Kq r:(WE r).gn:=by
 rintro c st K g b ⟨a,d,f,e⟩;exact⟨a,d,f,Ht (b _) (b _) e⟩
noncomputable def goF a R:=bif R.isEmpty then O0 a a.L else K1 a (a.L++R)
theorem Rh a R T(Q:List _->Prop)(h:Q (goF a (R++T))):bif R.isEmpty then ak T.isEmpty (Q (O0 a a.L)) (Q (K1 a (a.L++T))) else ak T.isEmpty (Q (K1 a (a.L++R))) (Q (K1 a (a.L++R++T))):=by
 cases R with
 |nil=>cases T<;>exact h
 |cons b R=>
  cases T with
  |nil=>rw[List.append_nil] at h;exact h
  |cons c T=>rw[List.append_assoc];exact h
theorem oGm a:mL (uQ a) pP=true:=by kernel_rfl
theorem kGm a xs:(AV.cf 0::fP (iU (b6 (uQ a) pP)) pP,Obj.ext (some xs)::gx (iU (b6 (uQ a) pP)) (gu (uQ a) (b6 (uQ a) pP)))=([.cf 0, .ptr 1 0 [] 0, .ptr 2 0 [] 0, .ptr 3 0 [] 0], .ext (some xs)::Lw a.rel a.l (a.x.at a.rel) a.e):=by kernel_rfl
theorem Uh κ r a st K(h:aO Qc A3 HA a st K):(TW κ r).call 176 a st K:=h
theorem gGm κ r:jk (TW κ r) 12 176 (WE r):=by
 rintro k st K ⟨a,A,f,q⟩;obtain⟨rfl,rfl⟩:=Prod.mk.inj (show(k,st)=(pP,uQ a) from A);refine⟨Gm (M0 a),fun j st'=>∃c b:List dI,j=Gm b/\st'=goF a (c.flatMap (uK a))/\c++b=M0 a,⟨oGm a,?_,?_,?_,?_⟩⟩
 ·refine Uh κ r _ _ _ ⟨⟨a.rel,a.l,a.x.at a.rel,a.e⟩,?_,f.m,fun st' h=>h⟩
  rw[kGm];rfl
 ·rw[show(TW κ r).P=Pr κ from rfl,show(uQ a).length=12 from rfl,sGm]
  exact⟨[],_,rfl,rfl,List.nil_append _⟩
 ·rintro C z st' ⟨c,b,s,rfl,o⟩
  cases b with
  |nil=>cases s
  | cons g b=>
   obtain⟨B,rfl⟩:=List.cons.inj s;obtain rfl:=AV.aJ.inj B;rw[show(TW κ r).P=Pr κ from rfl,show(uQ a).length=12 from rfl,show(12:Nat) - 1=11 from rfl];have u:=f.i;have D:=f.x.n;have t:=f.n;have E:=f.r;rw[←o,List.flatMap_append,List.flatMap_cons] at t;simp only[ap4] at t;have d:=Rh a (c.flatMap (uK a)) (uK a g) (fun st'=>∃v w:List dI,Gm b=Gm w/\st'=goF a (v.flatMap (uK a))/\v++w=M0 a) ⟨c++[g],b,rfl,by rw[List.flatMap_append,List.flatMap_cons,List.flatMap_nil,List.append_nil],by rw[←o];simp⟩;have y:=az (n:=(a.i:Int)+1) (by omega) (by omega);unfold goF;cases p:(c.flatMap (uK a)).isEmpty with
   | true=>
    rw[p] at d;refine Eq.mpr (rGm κ r a a.L g _ K) ⟨a.x.od.length - (a.i+1),by omega,⟨a.x,a.L,a.i+1,g⟩,?_,⟨⟨f.x,u,?_⟩,rfl⟩,d⟩
    ·rw[y];rfl
    ·show a.L.length+(uK a g).length<=100000000
     omega
   | false=>
    rw[p] at d;refine Eq.mpr (rGd κ r a (a.L++c.flatMap (uK a)) g _ K) ⟨a.x.od.length - (a.i+1),by omega,⟨a.x,a.L++c.flatMap (uK a),a.i+1,g⟩,?_,⟨⟨f.x,u,?_⟩,rfl⟩,d⟩
    ·rw[y];rfl
    ·show(a.L++c.flatMap (uK a)).length+(uK a g).length<=100000000
     rw[ap4];omega
 ·rintro st' ⟨c,b,s,rfl,o⟩
  obtain rfl:b=[]:=by cases b with|nil=>rfl|cons _ _=>cases s
  rw[List.append_nil] at o;rw[o];unfold goF;unfold bp.all at q;cases p:((M0 a).flatMap (uK a)).isEmpty with
  |true=>rw[p] at q;exact q
  |false=>rw[p] at q;exact q
noncomputable def Tv κ r:=((TW κ r).addRange 98 20 176 (WE r)).cQ fun f=>iV f (176::N3)
theorem rGn κ r a g Q(K2:List Dn.Obj->Prop):(gp (vc (Tv κ r) 12) 11 [cL g] (J0 a (EI a .ready none)) (fun r st''=>match r with| .lit (.bool true)=>tidy (Pr κ).toProgram 12 st'' Q| .lit (.bool false)=>K2 st''|_=>False))=(
 K2 (J0 a (EI a LoopState.done (some Code.ret)))):=by kernel_rfl
def Wh:eK:=fun b st K=>∃a,(b,st)=(pP,uL a)/\Dv a.l (a.x.at a.rel)/\ak (M0 a).isEmpty (K (J0 a (EI a .ready none))) (K (J0 a (EI a .done (some .ret))))
theorem JP:Wh.gn:=by
 rintro c st K g b ⟨a,d,f,e⟩;exact⟨a,d,f,Ht (b _) (b _) e⟩
theorem oGn a:mL (uL a) pP=true:=by kernel_rfl
theorem kGn a xs:(AV.cf 0::fP (iU (b6 (uL a) pP)) pP,Obj.ext (some xs)::gx (iU (b6 (uL a) pP)) (gu (uL a) (b6 (uL a) pP)))=([.cf 0, .ptr 1 0 [] 0, .ptr 2 0 [] 0, .ptr 3 0 [] 0], .ext (some xs)::Lw a.rel a.l (a.x.at a.rel) a.e):=by kernel_rfl
theorem Wa κ r a st K(h:aO Qc A3 HA a st K):(Tv κ r).call 176 a st K:=h
theorem gGn κ r:jk (Tv κ r) 12 176 Wh:=by
 rintro d st K ⟨a,n,m,i⟩;obtain⟨rfl,rfl⟩:=Prod.mk.inj (show(d,st)=(pP,uL a) from n);refine⟨Gm (M0 a),fun b st'=>b=Gm (M0 a)/\st'=J0 a (EI a .ready none),⟨oGn a,?_,?_,?_,?_⟩⟩
 ·refine Wa κ r _ _ _ ⟨⟨a.rel,a.l,a.x.at a.rel,a.e⟩,?_,m,fun st' h=>h⟩
  rw[kGn];rfl
 ·rw[show(Tv κ r).P=Pr κ from rfl,show(uL a).length=12 from rfl,sGn]
  exact⟨rfl,rfl⟩
 ·rintro p j st' ⟨c,rfl⟩
  cases f:M0 a with
  |nil=>rw[f] at c;cases c
  |cons g o=>
   rw[f] at c i;obtain⟨k,rfl⟩:=List.cons.inj c;obtain rfl:=AV.aJ.inj k;rw[show(Tv κ r).P=Pr κ from rfl,show(uL a).length=12 from rfl,show(12:Nat) - 1=11 from rfl];exact Eq.mpr (rGn κ r a g _ K) i
 ·rintro st' ⟨c,rfl⟩
  cases f:M0 a with
  |nil=>rw[f] at i;exact i
  |cons g o=>rw[f] at c;cases c
noncomputable def Zh κ r:=((Tv κ r).addRange 98 0 176 Wh).cQ fun f=>iV f (176::N3)
theorem eGm κ r(i: ∀a st K,(∃m,m<r/\Uf m a st K)->bZ (Pr κ) 98 a st K):aE (Zh κ r)/\aj (Zh κ r)/\(Zh κ r).P=Pr κ:=by
 have d:=(BGb κ).ok.fT i;have b:aj (TW κ r):=(BGb _).mono.aw fun _ _ _ _ f ⟨m,g,h⟩=>⟨m,g,aH _ _ _ _ f h⟩
 have e:aE (Tv κ r):=(d.addRange b (gGm _ r)).cQ _;have c:aj (Tv κ r):=(b.addRange (Kq r)).cQ _;exact⟨(e.addRange c (gGn _ r)).cQ _,(c.addRange JP).cQ _,rfl⟩
theorem yGo(κ:Kp)(r:Nat)(a:bp) K:(a9 (Zh κ r) 12 98 [.ptr 0 0 [] 0, .int a.i,cL a.e] (dt a.x a.L) K)=(
 letI b:=IntKind.wrap IntKind.i64
 letI c:=AV.ptr 0 0 []
 letI d:=AV.int
 letI e:=AV.ptr
 letI f:=AV.bool
 letI g:=AV.lit
 letI h:=Obj.box
 letI i:=Obj.row
 letI j:=AV.aJ
 letI k:=AV.ah
 letI l:=AV.an
 letI z:=Value.int IntKind.i64 (b ((↑(a.i):Int)+(1:Int)))
 letI G:=∃(v1:Nat),v1<r/\∃(v0:bp),([c 0,g z,cL a.e],dt a.x a.L)=fX v0/\(cz v0/\List.length v0.x.od - v0.i=v1)/\ak
  (List.isEmpty (bp.out v0)) (K (j []) (dt v0.x v0.L)) (K (j []) (nR v0.x (v0.L++bp.out v0)))
 letI C:=AV.bn 141 [e 4 0 [] 0,e 5 0 [] 0]
 letI t:=af (bp.t a) 0
 letI n:=List.length a.x.od
 letI p:=uE a.x (l 3 0 a.L.length)
 letI m:=af (bp.t a) 2
 letI A:=∃(v0:W9),([c 0,uD (bp.rel a) (bp.l a)],dt a.x a.L)=yX v0/\tP v0
 letI q:=toInt t==(3:Int)
 letI u:=d (↑(a.i):Int)
 letI o:=af (bp.t a) 3
 letI H:=∃(v3:gC),([cL a.e,iX o],[])=dS v3/\bL (AT.tm v3.t)=true/\∃(v2:Ex),([cL a.e,AV.str (toStr (af m 1)),e6 (bK v3.e (AT.tm v3.t))],
  [])=qx v2/\True/\∃(v1:Nat),v1<r/\∃(v0:bp),([c 0,g z,cL (dI.put v2.e v2.s v2.v)],dt a.x a.L)=fX v0/\(cz v0/\List.length
  v0.x.od - v0.i=v1)/\ak (List.isEmpty (bp.out v0)) (K (j []) (dt v0.x v0.L)) (K (j []) (nR v0.x (v0.L++bp.out v0)))
 letI v:=va.at a.x (bp.rel a)
 letI s:=c 0
 letI I:=h 160 p=h 160 p/\h 158 s=h 158 s/\h 3 u=h 3 u/\h 80 (bp.lit a)=h 80 (bp.lit a)
  /\h 207 C=h 207 C/\True
 letI w:=K (j []) (dt a.x a.L)
 letI D:=∃(v4:gC),([cL a.e,iX m],[])=dS v4/\bL (AT.tm v4.t)=true/\∃(v3:gC),([cL a.e,iX o],[])=dS v3/\bL (AT.tm v3.t)=true/\∃(v2:
  Cf),([d (toInt t),e6 (bK v4.e (AT.tm v4.t)),e6 (bK v3.e (AT.tm v3.t))],[])=ot v2/\True/\ak (hG v2.op v2.x v2.y) G w
 letI E:=ak q (∃(v5:gC),([cL a.e,iX o],[])=qw v5/\True/\ak (eO v5.e v5.t) (∃(v3:gC),([cL a.e,iX m],[])=dS v3/\bL (AT.tm v3.t)=true
  /\∃(v2:Ex),([cL a.e,AV.str (toStr (af o 1)),e6 (bK v3.e (AT.tm v3.t))],[])=qx v2/\True/\∃(v1:Nat),v1<r/\∃(v0:bp),([c 0,
  g z,cL (dI.put v2.e v2.s v2.v)],dt a.x a.L)=fX v0/\(cz v0/\List.length v0.x.od - v0.i=v1)/\ak (List.isEmpty (bp.out v0)) (K (j []) (dt v0.x
  v0.L)) (K (j []) (nR v0.x (v0.L++bp.out v0)))) D) D
 letI F:=ak q (∃(v6:gC),([cL a.e,iX m],[])=qw v6/\True/\ak (eO v6.e v6.t) H (ak q (∃(v5:gC),([cL a.e,iX o],[])=qw v5/\True/\ak
  (eO v5.e v5.t) (∃(v3:gC),([cL a.e,iX m],[])=dS v3/\bL (AT.tm v3.t)=true/\∃(v2:Ex),([cL a.e,g (Value.string (toStr (af o 1))),e6 (bK
  v3.e (AT.tm v3.t))],[])=qx v2/\True/\∃(v1:Nat),v1<r/\∃(v0:bp),([c 0,g z,cL (dI.put v2.e v2.s v2.v)],dt a.x a.L)=fX v0/\
  (cz v0/\List.length v0.x.od - v0.i=v1)/\ak (List.isEmpty (bp.out v0)) (K (j []) (dt v0.x v0.L)) (K (j []) (nR v0.x (v0.L++bp.out v0)))) D) D))
  E
 letI x:=toInt t==(1:Int)
 letI B:=Pg.toProgram (Env.P (EB.E (CS κ)))
 ak ((↑(a.i):Int)==(↑n:Int)) (ae B 98 4=ae B 98 4/\∃(v0:AHr),sp 191 [(2,cL a.e),(3,e 4 0 [] 0),(6,l 5 0 0),(26,k 38 (dk.hl a.x.r)),(27,d (↑(List.length (dk.hl a.x.r)):Int)),(28,d 0)] [h 160 p,i 3 (ints a.x.od),i 51 a.x.ins,i 70 (rws a.L),h 158 s,i 72 []]=MD v0/\Ma v0/\aR (decide ((v0.L.length+1+1)*25<=70368744177664)) (K (j []) [h 160 (uE v0.x (l 4 0 (v0.L.length+1))),i 3 (ints v0.x.od),i 51 v0.x.ins,Obj.dead,i 70 (List.take v0.L.length (rws v0.L)++[k 72 (List.take (List.length (jl (dk.hl v0.x.r) v0.e)) (List.drop 0 (jl (dk.hl v0.x.r) v0.e)))])])) (aR (true&&decide ((↑(a.i):Int)<(↑n:Int))) (aR (decide ((0:Int)<=toInt (bp.k a))&&decide (toInt (bp.k a)<(↑(List.length (dk.bl a.x.r)):Int))) (ak x (A/\I/\∃(v0:bp),([e 10 0 [] 0,e 8 0 [] 0,e 9 0 [] 0],[h 160 p,i 3 (ints a.x.od),i 51 a.x.ins,i 70 (rws a.L),h 158 s,h 3 u,h 80 (bp.lit a),h 207 C,h 162 (cL a.e),h 45 (uD (bp.rel a) (bp.l a)),h 51 (k 70 v),Dn.Obj.loop (iM Tryz.prog 98 20 LoopState.ready none (ic (bM 191) [(0,c 0),(1,d (↑(a.i):Int)),(2,cL a.e),(3,e 4 0 [] 0),(4,e 5 0 [] 0),(9,e 6 0 [] 0),(10,e 7 0 [] 0),(14,d (↑(a.i):Int)),(15,c 0),(16,c 0),(17,e 0 0 [2] 6),(18,l 1 0 n),(19,d (↑n:Int)),(20,f false),(49,c 0),(50,c 0),(51,e 0 0 [1] 2),(52,e 0 0 [1,1] 4),(53,k 80 (dk.bl a.x.r)),(54,c 0),(55,c 0),(56,e 0 0 [2] 6),(57,l 1 0 n),(58,d (↑(a.i):Int)),(59,e 1 (bp.j a) [] 0),(60,d (toInt (bp.k a))),(61,AV.jh 80 (bp.t a)),(62,bp.lit a),(63,AV.bn 141 [e 4 0 [] 0,e 5 0 [] 0]),(64,e 6 0 [0] 0),(65,d (toInt t)),(101,f true),(102,f x),(103,cL a.e),(104,e 6 0 [1] 1),(105,uD (bp.rel a) (bp.l a)),(106,c 0),(107,e 6 0 [1] 1),(108,uD (bp.rel a) (bp.l a)),(109,k 70 v),(110,AV.bn 176 [e 10 0 [] 0,e 8 0 [] 0,e 9 0 [] 0])]))])=([e 10 0 [] 0,e 8 0 [] 0,e 9 0 [] 0],uQ v0)/\OY v0 r/\ak (List.isEmpty (bp.all v0)) (K (j []) (dt v0.x v0.L)) (K (j []) (nR v0.x (v0.L++bp.all v0)))) (ak (toInt t==(2:Int)) (A/\I/\∃(v2:bp),([e 10 0 [] 0,e 8 0 [] 0,e 9 0 [] 0],[h 160 p,i 3 (ints a.x.od),i 51 a.x.ins,i 70 (rws a.L),h 158 s,h 3 u,h 80 (bp.lit a),h 207 C,h 162 (cL a.e),h 45 (uD (bp.rel a) (bp.l a)),h 51 (k 70 v),Dn.Obj.loop {state:=LoopState.ready,pending:=none,fn:=98,bC:=ic (bM 191) [(0,c 0),(1,d (↑(a.i):Int)),(2,cL a.e),(3,e 4 0 [] 0),(4,e 5 0 [] 0),(9,e 6 0 [] 0),(10,e 7 0 [] 0),(14,d (↑(a.i):Int)),(15,c 0),(16,c 0),(17,e 0 0 [2] 6),(18,l 1 0 n),(19,d (↑n:Int)),(20,f false),(49,c 0),(50,c 0),(51,e 0 0 [1] 2),(52,e 0 0 [1,1] 4),(53,k 80 (dk.bl a.x.r)),(54,c 0),(55,c 0),(56,e 0 0 [2] 6),(57,l 1 0 n),(58,d (↑(a.i):Int)),(59,e 1 (bp.j a) [] 0),(60,d (toInt (bp.k a))),(61,AV.jh 80 (bp.t a)),(62,bp.lit a),(63,AV.bn 141 [e 4 0 [] 0,e 5 0 [] 0]),(64,e 6 0 [0] 0),(65,d (toInt t)),(101,f false),(102,f x),(115,f true),(116,f (toInt t==(2:Int))),(117,cL a.e),(118,e 6 0 [1] 1),(119,uD (bp.rel a) (bp.l a)),(120,c 0),(121,e 6 0 [1] 1),(122,uD (bp.rel a) (bp.l a)),(123,k 70 v),(124,AV.bn 176 [e 10 0 [] 0,e 8 0 [] 0,e 9 0 [] 0])],params:={toList:=[125]},assign:=Code.skip,body:=Code.block 7 Code.ret}])=([e 10 0 [] 0,e 8 0 [] 0,e 9 0 [] 0],uL v2)/\Dv (bp.l v2) (va.at v2.x (bp.rel v2))/\ak (List.isEmpty (M0 v2)) (∃(v1:Nat),v1<r/\∃(v0:bp),([c 0,g (Value.int IntKind.i64 (b ((↑(v2.i):Int)+(1:Int)))),cL a.e],dt v2.x v2.L)=fX v0/\(cz v0/\List.length v0.x.od - v0.i=v1)/\ak (List.isEmpty (bp.out v0)) (K (j []) (dt v0.x v0.L)) (K (j []) (nR v0.x (v0.L++bp.out v0)))) (K (j []) (dt v2.x v2.L))) (ak q (ak q (∃(v6:gC),([cL a.e,iX m],[])=qw v6/\True/\ak (eO v6.e v6.t) H E) E) (ak (toInt t==(4:Int)) F (ak (toInt t==(5:Int)) F (ak (toInt t==(6:Int)) F (∃(v4:nT),letI y:=iA (nT.fG v4);([c 0,bp.lit a,cL a.e],dt a.x a.L)=SH v4/\Hu v4/\ak (!n9 v4.op y) w (∃(v3:gC),([cL a.e,iX m],[])=qw v3/\True/\ak (eO v3.e v3.t) (∃(v2:Ex),([cL a.e,AV.str (toStr (af m 1)),AV.agg [f false,d (nJ v4.op y),AV.str {data:= #[]}]],[])=qx v2/\True/\∃(v1:Nat),v1<r/\∃(v0:bp),([c 0,g z,cL (dI.put v2.e v2.s v2.v)],dt a.x a.L)=fX v0/\(cz v0/\List.length v0.x.od - v0.i=v1)/\ak (List.isEmpty (bp.out v0)) (K (j []) (dt v0.x v0.L)) (K (j []) (nR v0.x (v0.L++bp.out v0)))) (∃(v2:gC),([cL a.e,iX m],[])=dS v2/\bL (AT.tm v2.t)=true/\ak (eV.n (bK v2.e (AT.tm v2.t))==nJ v4.op y) G w)))))))))))):=by kernel_rfl
end Go.Proofs.YtioeffnadipbaaaGreatDoor
