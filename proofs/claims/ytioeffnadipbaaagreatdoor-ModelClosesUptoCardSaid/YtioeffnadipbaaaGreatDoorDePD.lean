import Derived.Test.YtioeffnadipbaaaGreatDoorDePC
namespace Go.Proofs.YtioeffnadipbaaaGreatDoor
open Go Go.Dn Go.Rl Go.Proofs Go.Shelf
attribute [local irreducible] a8 vc
set_option maxRecDepth 20000
def Hn:Go.Shelf.Ren:=⟨fun|5=>177|7=>165|n=>n,fun|23=>162|25=>9|3=>72|4=>4|20=>20|n=>n,fun n=>n⟩
theorem Yb:SlLaysW.n5 Tryz.prog Hn:={mixed:=by rfl,f5:=⟨ "maps.Clone[sorites/model.env,string,sorites/api.Val]",by rfl,Tryz.func177.trans (congrArg _ (by rfl))⟩,f7:=Tryz.func165.trans (congrArg _ (by rfl)),t4:=Tryz.underlying4,a4:=Tryz.isAgg4,z4:=Tryz.sizeOf4,v4:=Tryz.zeroValue4,t20:=Tryz.underlying20,a20:=Tryz.isAgg20,z20:=Tryz.sizeOf20,v20:=Tryz.zeroValue20,t23:=Tryz.underlying162,a23:=Tryz.isAgg162,z23:=Tryz.sizeOf162,v23:=Tryz.zeroValue162}
theorem YJ κ: ∀a st K,tp (Pr κ).toProgram a st K->cf (Pr κ) 177 a st K:=fun _ _ _ h=>Ln   rfl ⟨_,Tryz.func177,rfl⟩ Yb h
noncomputable def WL κ:=(ar5 κ).ZJ GY (YJ _)
theorem aC3 κ ks vs s v K:(a8 (WL κ).E 12 145 [.fh 9 72 ks vs, .lit (.string s),fq v] [] K)=(
 K (AV.fh 9 72 (List.map (fun(x:Value×AV)=>x.1) (fb (List.zip ks vs) (Value.string s) (AV.agg [AV.bool v.y,AV.int v.n,AV.str v.s]))) (List.map (fun(x
 :Value×AV)=>x.2) (fb (List.zip ks vs) (Value.string s) (AV.agg [AV.bool v.y,AV.int v.n,AV.str v.s])))) []):=by kernel_rfl
theorem as6 κ:bd (WL κ).E 12 145 (aM rX (fun _=>True) al5):=by
 refine aQ ?_;rintro⟨e,s,v⟩ K _ a;refine Eq.mpr (aC3 _ _ _ s v K) ?_;rw[R2,RT,List.map_map,List.map_map];exact a
noncomputable def Sl κ:=((WL κ).call (as6 _)).calm [145,140,144]
noncomputable def NT κ r:=(Sl κ).E.ax 140 fun a st K=>∃m,m<r/\YP m a st K
theorem aC2 κ r ks vs t K:(a8 (NT κ r) 12 140 [.fh 9 72 ks vs,dA t] [] K)=(
 letI a:=IntKind.wrap .i64
 letI b:=AV.int
 letI c:=AV.agg
 letI d:=AV.bool
 letI e:=AV.str
 letI f:=AV.lit
 letI k:=dj (List.zip ks vs) (.string t.s) (c [d false,b 0,e {data:= #[]}])
 letI l:=true&&decide (1<(↑(t.l.length):Int))
 letI m:=toInt (af (nth t.l 0) 0)
 letI n:=toStr (af (nth t.l 0) 1)
 letI o:=toInt (af (nth t.l 0) 2)
 letI p:=toInt (af (nth t.l 1) 0)
 letI q:=toStr (af (nth t.l 1) 1)
 letI s:=toInt (af (nth t.l 1) 2)
 aq (t.op==1) (K (c [f (.bool (Dn.toBool (af k 0))),f (.int .i64 (toInt (af k 1))),f (.string (toStr (af (dj (List.zip ks vs) (.string t.s) (c [d false,b 0,e {data:= #[]}])) 2)))]) []) (aq (t.op==2) (K (c [d false,b t.n,e {data:= #[]}]) []) (aq (t.op==3) (K (c [d true,b 0,e t.s]) []) (aW (true&&decide (0<(↑(t.l.length):Int))) ((∃e3,e3<r/\∃e2,letI j:=bI e2.e (AT.tm e2.t);([.fh 9 72 ks vs,c [b m,e n,b o,.ah 38 (ag (af (nth t.l 0) 3))]],[])=ew e2/\rT e3 e2/\aW l (∃e1,e1<r/\∃e0,letI g:=bI e0.e (AT.tm e0.t);([.fh 9 72 ks vs,c [b p,e q,b s,.ah 38 (ag (af (nth t.l 1) 3))]],[])=ew e0/\rT e1 e0/\aq (t.op==5) (K (c [d false,f (.int .i64 (a (fe.n j+fe.n g))),e {data:= #[]}]) []) (aq (t.op==6) (K (c [d false,f (.int .i64 (a (fe.n j - fe.n g))),e {data:= #[]}]) []) (K (c [d false,f (.int .i64 (a (fe.n j*fe.n g))),e {data:= #[]}]) []))))/\aW l (∃e3,e3<r/\∃e2,letI h:=bI e2.e (AT.tm e2.t);([.fh 9 72 ks vs,c [b m,e n,b o,.ah 38 (ag (af (nth t.l 0) 3))]],[])=ew e2/\rT e3 e2/\∃e1,e1<r/\∃e0,letI i:=bI e0.e (AT.tm e0.t);([.fh 9 72 ks vs,c [b p,e q,b s,.ah 38 (ag (af (nth t.l 1) 3))]],[])=ew e0/\rT e1 e0/\aq (t.op==5) (K (c [d false,f (.int .i64 (a (fe.n h+fe.n i))),e {data:= #[]}]) []) (aq (t.op==6) (K (c [d false,f (.int .i64 (a (fe.n h - fe.n i))),e {data:= #[]}]) []) (K (c [d false,f (.int .i64 (a (fe.n h*fe.n i))),e {data:= #[]}]) [])))))))):=by kernel_rfl
theorem aw5 κ r(d: ∀a st K,(∃m,m<r/\YP m a st K)->cf (Pr κ) 140 a st K):aE (NT κ r)/\aj (NT κ r)/\(NT κ r).P=Pr κ:=
 ⟨(Sl _).ok.fQ d,(Sl _).mono.ax fun _ _ _ _ c ⟨m,e,b⟩=>⟨m,e,aJ _ _ _ _ c b⟩,rfl⟩
theorem as5 κ r:bd (NT κ r) 12 140 (YP r):=by
 refine aQ ?_;rintro⟨e,t⟩ K ⟨v,x⟩ c;simp only at v x
 replace c:K (fq (bI e t.tm)) []:=c
 refine Eq.mpr (aC2 κ r _ _ t K) ?_;rw[R2,show(AV.agg [.bool false, .int 0, .lit (.string (ByteArray.mk #[]))])=fq ⟨false,0,ByteArray.mk #[]⟩ from rfl,OG];have p:bI e t.tm=bif t.op==1 then e.get t.s else bif t.op==2 then⟨false,t.n,ByteArray.mk #[]⟩ else bif t.op==3 then⟨true,0,t.s⟩ else bI e t.tm:=by
  cases d:t.op==1 with
  |true=>rw[AT.tm,bI,d];rfl
  | false=>cases f:t.op==2 with
   |true=>rw[AT.tm,bI,d,f];rfl
   |false=>cases g:t.op==3 with
    |true=>rw[AT.tm,bI,d,f,g];rfl
    |false=>rfl
 refine ae.2 ⟨fun d=>?_,fun d=>ae.2 ⟨fun f=>?_,fun f=>ae.2 ⟨fun g=>?_,fun g=>?_⟩⟩⟩
 ·rw[p,d] at c;exact c
 ·rw[p,d,f] at c;exact c
 ·rw[p,d,f,g] at c;exact c
 ·obtain⟨a,b,y,C,A⟩:=OO d f g x
  obtain⟨i,s,n,l⟩:=t;simp only at y d f g;subst y;rw[RV e i s n a b d f g] at c;have z:(AT.mk i s n [a,b]).tm.nK=1+((cx a).nK+((cx b).nK+0)):=by
   simp only[AT.tm,aa,aE4,List.map_nil,Tm.nK,bn]
  rw[z] at v;have w: ∀m,(cx a).nK=m->rT m ⟨e,dQ a⟩:=fun m o=>⟨by rw[←o];simp only[gn],by simp only[gn];exact C⟩
  have q: ∀m,(cx b).nK=m->rT m ⟨e,dQ b⟩:=fun m o=>⟨by rw[←o];simp only[gn],by simp only[gn];exact A⟩
  have B:(true&&decide (0<(([a,b]:List AV).length:Int)))=true:=by simp
  have u:(true&&decide (1<(([a,b]:List AV).length:Int)))=true:=by simp
  have h:aq (i==5) (K (fq ⟨false,IntKind.wrap .i64 ((bI e (dQ a).tm).n+(bI e (dQ b).tm).n),ByteArray.mk #[]⟩) []) (aq (i==6) (K (fq ⟨false,IntKind.wrap .i64 ((bI e (dQ a).tm).n - (bI e (dQ b).tm).n),ByteArray.mk #[]⟩) []) (K (fq ⟨false,IntKind.wrap .i64 ((bI e (dQ a).tm).n*(bI e (dQ b).tm).n),ByteArray.mk #[]⟩) [])):=
   ae.2 ⟨fun j=>by rw[j] at c;exact c,fun j=>ae.2 ⟨fun k=>by rw[j,k] at c;exact c,fun k=>by rw[j,k] at c;exact c⟩⟩
  exact ai.2 ⟨B,⟨(cx a).nK,by omega,⟨e,dQ a⟩,rfl,w _ rfl,ai.2 ⟨u,(cx b).nK,by omega,⟨e,dQ b⟩,rfl,q _ rfl,h⟩⟩,ai.2 ⟨u,(cx a).nK,by omega,⟨e,dQ a⟩,rfl,w _ rfl,(cx b).nK,by omega,⟨e,dQ b⟩,rfl,q _ rfl,h⟩⟩
theorem az2 κ: ∀a st K,aM ew (fun x=>bO x.t.tm=true) Wb a st K->cf (Pr κ) 140 a st K:=by
 rintro a st K ⟨x,c,d,b⟩;exact aE.qh _ _ (aw5 _) (as5 _) _ _ _ K ⟨x,c,⟨rfl,d⟩,b⟩
noncomputable def Xo κ:=(Sl κ).ZJ aJ (az2 _)
theorem yFr κ ks vs t K:(a8 (Xo κ).E 12 144 [.fh 9 72 ks vs,dA t] [] K)=(
 aq (t.op==1) (K (.lit (.bool !px (List.zip ks vs) (.string t.s))) []) (K (AV.bool false) [])):=by kernel_rfl
def dq.has:dq->ByteArray->Bool
 |[],_=>false
 |(t,_)::e,s=>bif decide (s=t) then true else dq.has e s
theorem OP s: ∀e,px (prE e) (.string s)=e.has s
 |[]=>rfl
 |(t,w)::e=>by
  have a:=OP s e
  grind [px,Ya,dq.has]
def dn(e:dq)(t:AT):=t.op==1&& !e.has t.s
def rW(x:hH):List AV×List Dn.Obj:=([da x.e,dA x.t],[])
def ah7(x:hH):Out (AV×List Dn.Obj):= .one (.bool (dn x.e x.t),[])
theorem cFr κ:bd (Xo κ).E 12 144 (aM rW (fun _=>True) ah7):=by
 refine aQ ?_;rintro⟨e,t⟩ K _ a
 replace a:K _ []:=a
 refine Eq.mpr (yFr _ _ _ t K) ?_
 grind [OP,dn,ae]
noncomputable def BFr κ:=(Xo κ).call (cFr _)
theorem yHm κ op x y K:(a8 (BFr κ).E 12 146 [.int op,fq x,fq y] [] K)=(
 letI a:=AV.int
 letI b:=AV.agg
 letI c:=AV.bool
 letI d:=AV.str
 aq (op==3) (K (c (bD [b [c x.y,a x.n,d x.s]] [b [c y.y,a y.n,d y.s]]==0)) []) (aq (op==
 4) (K (c (bD [b [c x.y,a x.n,d x.s]] [b [c y.y,a y.n,d y.s]] != 0)) []) (aq (op==5) (K (c (decide (bD [b [c x.y,a x.n,d x.s]] [b [c y.y,a y.n,d y.s]]<0))) []) (K (c
 (decide (bD [b [c x.y,a x.n,d x.s]] [b [c y.y,a y.n,d y.s]]<=0))) [])))):=by kernel_rfl
def ik(a:Int) x y:=bif a==3 then bD [fq x] [fq y]==0 else bif a==4 then bD [fq x] [fq y] != 0 else bif a==5 then decide (bD [fq x] [fq y]<0) else decide (bD [fq x] [fq y]<=0)
structure DN where
 op:Int
 x:fe
 y:fe
def pW(a:DN):List AV×List Dn.Obj:=([.int a.op,fq a.x,fq a.y],[])
def ai0(a:DN):Out (AV×List Dn.Obj):= .one (.bool (ik a.op a.x a.y),[])
theorem cHm κ:bd (BFr κ).E 12 146 (aM pW (fun _=>True) ai0):=by
 refine aQ ?_;rintro⟨b,x,y⟩ K _ a
 replace a:K _ _:=a
 refine Eq.mpr (yHm _ _ x y K) ?_
 grind [ik,ae]
noncomputable def WW κ:=((BFr κ).call (cHm _)).calm [146]
end Go.Proofs.YtioeffnadipbaaaGreatDoor
namespace Go.Proofs.YtioeffnadipbaaaGreatDoor
open Go Go.Dn Go.Rl Go.Proofs
attribute [local irreducible] a8 vc
set_option maxRecDepth 20000
abbrev Nk(b:ByteArray)(l a:List AV)(e:dq):List Dn.Obj:=[.box 51 (.ah 70 a), .box 162 (da e), .box 45 (.agg [.lit (.string b), .ah 38 l])]
structure ZS where
 rel:ByteArray
 l:List AV
 rows:List AV
 xs:List AV
 e:dq
 i:Nat
 row:List AV
 g:dq
 j:Nat
abbrev IB(x:ZS):=sp 56 [(0, .cn 0),(2, .ptr 2 0 [] 0),(3, .ptr 3 0 [] 0),(6, .ah 72 x.row),(7,da x.g),(10, .ah 70 x.rows),(11, .int x.rows.length),(12, .int x.i),(18, .ah 38 x.l),(19, .int x.l.length),(20, .int x.j)] (.ext (some x.xs)::Nk x.rel x.l x.rows x.e)
theorem xMi(κ:Kp)(x:ZS) I(N:Nat) K:(vc (WW κ).E 12 176 none 4 (ad (Pr κ).toProgram 176 5) (IB x) (bg (WW κ).E 176 5 4 I N K))=(
 letI a:=AV.int
 letI b:=AV.ptr
 letI c:=AV.agg
 letI d:=AV.bool
 letI e:=AV.str
 letI f:=Obj.box
 letI g:=Obj.ext
 letI h:=AV.ah
 letI i:=AV.cn
 letI j:=AV.fh
 letI B:=Int.toNat (↑(x.j):Int)
 letI l:=c [e x.rel,h 38 x.l]
 letI z:=IntKind.wrap IntKind.i64 ((↑(x.j):Int)+(1:Int))
 letI A:=true&&decide ((↑(x.j):Int)<(↑(x.row.length):Int))
 letI v:=nth x.l B
 letI m:=nth x.row B
 letI n:=h 70 x.rows
 letI o:=x.rows.length
 letI w:=x.l.length
 letI k:=toStr (af v 1)
 letI y:=(↑(x.j):Int)<(↑w:Int)
 letI p:=toInt (af v 0)
 letI q:=toInt (af v 2)
 letI r:=toStr (af m 2)
 letI s:=ag (af v 3)
 aq (decide y) (aW (true&&decide y) (aq (toInt (af v 0)==(4:Int)) (∃(e1:Nat),e1<N/\I e1 (sp 56 [(0,i 0),(2,b 2 0 [] 0),(3,b 3 0 [] 0),(6,h 72 x.row),(7,j 9 72 (List.map (fun(e0:ByteArray×fe)=>Value.string e0.1) x.g) (List.map (fun(e0:ByteArray×fe)=>c [d e0.2.y,a e0.2.n,e e0.2.s]) x.g)),(10,h 70 x.rows),(11,a (↑o:Int)),(12,a (↑(x.i):Int)),(18,h 38 x.l),(19,a (↑w:Int)),(20,a z)] [g (some x.xs),f 51 n,f 162 (j 9 72 (List.map (fun(e0:ByteArray×fe)=>Value.string e0.1) x.e) (List.map (fun(e0:ByteArray×fe)=>c [d e0.2.y,a e0.2.n,e e0.2.s]) x.e)),f 45 l])) (∃(e3:hH),([j 9 72 (List.map (fun(e0:ByteArray×fe)=>Value.string e0.1) x.g) (List.map (fun(e0:ByteArray×fe)=>c [d e0.2.y,a e0.2.n,e e0.2.s]) x.g),c [a p,e k,a q,h 38 s]],[])=rW e3/\True/\aq (dn e3.e e3.t) (aW A (∃(e2:Gi),([j 9 72 (List.map (fun(e0:ByteArray×fe)=>Value.string e0.1) x.g) (List.map (fun(e0:ByteArray×fe)=>c [d e0.2.y,a e0.2.n,e e0.2.s]) x.g),e k,c [d (Dn.toBool (af m 0)),a (toInt (af m 1)),e r]],[])=rX e2/\True/\∃(e1:Nat),e1<N/\I e1 (sp 56 [(0,i 0),(2,b 2 0 [] 0),(3,b 3 0 [] 0),(6,h 72 x.row),(7,j 9 72 (List.map (fun(e0:ByteArray×fe)=>Value.string e0.1) (dq.put e2.e e2.s e2.v)) (List.map (fun(e0:ByteArray×fe)=>c [d e0.2.y,a e0.2.n,e e0.2.s]) (dq.put e2.e e2.s e2.v))),(10,h 70 x.rows),(11,a (↑o:Int)),(12,a (↑(x.i):Int)),(18,h 38 x.l),(19,a (↑w:Int)),(20,a z)] [g (some x.xs),f 51 n,f 162 (j 9 72 (List.map (fun(e0:ByteArray×fe)=>Value.string e0.1) x.e) (List.map (fun(e0:ByteArray×fe)=>c [d e0.2.y,a e0.2.n,e e0.2.s]) x.e)),f 45 l]))) ((∃(e2:hH),letI t:=bI e2.e (AT.tm e2.t);([j 9 72 (List.map (fun(e0:ByteArray×fe)=>Value.string e0.1) x.g) (List.map (fun(e0:ByteArray×fe)=>c [d e0.2.y,a e0.2.n,e e0.2.s]) x.g),c [a p,e k,a q,h 38 s]],[])=ew e2/\bO (AT.tm e2.t)=true/\aW A (aq (!(fe.y t==Dn.toBool (af m 0)&&(fe.n t==toInt (af m 1)&&(ByteArray.toList (fe.s t)==ByteArray.toList r&&true)))) (K (Exit.exit 1) (sp 56 [(0,i 0),(2,b 2 0 [] 0),(3,b 3 0 [] 0),(10,h 70 x.rows),(11,a (↑o:Int)),(12,a (↑(x.i):Int))] [g (some x.xs),f 51 n,f 162 (j 9 72 (List.map (fun(e0:ByteArray×fe)=>Value.string e0.1) x.e) (List.map (fun(e0:ByteArray×fe)=>c [d e0.2.y,a e0.2.n,e e0.2.s]) x.e)),f 45 l])) (∃(e1:Nat),e1<N/\I e1 (sp 56 [(0,i 0),(2,b 2 0 [] 0),(3,b 3 0 [] 0),(6,h 72 x.row),(7,j 9 72 (List.map (fun(e0:ByteArray×fe)=>Value.string e0.1) x.g) (List.map (fun(e0:ByteArray×fe)=>c [d e0.2.y,a e0.2.n,e e0.2.s]) x.g)),(10,h 70 x.rows),(11,a (↑o:Int)),(12,a (↑(x.i):Int)),(18,h 38 x.l),(19,a (↑w:Int)),(20,a z)] [g (some x.xs),f 51 n,f 162 (j 9 72 (List.map (fun(e0:ByteArray×fe)=>Value.string e0.1) x.e) (List.map (fun(e0:ByteArray×fe)=>c [d e0.2.y,a e0.2.n,e e0.2.s]) x.e)),f 45 l]))))/\aW A (∃(e2:hH),letI u:=bI e2.e (AT.tm e2.t);([j 9 72 (List.map (fun(e0:ByteArray×fe)=>Value.string e0.1) x.g) (List.map (fun(e0:ByteArray×fe)=>c [d e0.2.y,a e0.2.n,e e0.2.s]) x.g),c [a p,e k,a q,h 38 s]],[])=ew e2/\bO (AT.tm e2.t)=true/\aq (!(fe.y u==Dn.toBool (af m 0)&&(fe.n u==toInt (af m 1)&&(ByteArray.toList (fe.s u)==ByteArray.toList r&&true)))) (K (Exit.exit 1) (sp 56 [(0,i 0),(2,b 2 0 [] 0),(3,b 3 0 [] 0),(10,h 70 x.rows),(11,a (↑o:Int)),(12,a (↑(x.i):Int))] [g (some x.xs),f 51 n,f 162 (j 9 72 (List.map (fun(e0:ByteArray×fe)=>Value.string e0.1) x.e) (List.map (fun(e0:ByteArray×fe)=>c [d e0.2.y,a e0.2.n,e e0.2.s]) x.e)),f 45 l])) (∃(e1:Nat),e1<N/\I e1 (sp 56 [(0,i 0),(2,b 2 0 [] 0),(3,b 3 0 [] 0),(6,h 72 x.row),(7,j 9 72 (List.map (fun(e0:ByteArray×fe)=>Value.string e0.1) x.g) (List.map (fun(e0:ByteArray×fe)=>c [d e0.2.y,a e0.2.n,e e0.2.s]) x.g)),(10,h 70 x.rows),(11,a (↑o:Int)),(12,a (↑(x.i):Int)),(18,h 38 x.l),(19,a (↑w:Int)),(20,a z)] [g (some x.xs),f 51 n,f 162 (j 9 72 (List.map (fun(e0:ByteArray×fe)=>Value.string e0.1) x.e) (List.map (fun(e0:ByteArray×fe)=>c [d e0.2.y,a e0.2.n,e e0.2.s]) x.e)),f 45 l]))))))) (K (Exit.exit 2) (sp 56 [(0,i 0),(2,b 2 0 [] 0),(3,b 3 0 [] 0),(7,j 9 72 (List.map (fun(e0:ByteArray×fe)=>Value.string e0.1) x.g) (List.map (fun(e0:ByteArray×fe)=>c [d e0.2.y,a e0.2.n,e e0.2.s]) x.g)),(10,h 70 x.rows),(11,a (↑o:Int)),(12,a (↑(x.i):Int))] [g (some x.xs),f 51 n,f 162 (j 9 72 (List.map (fun(e0:ByteArray×fe)=>Value.string e0.1) x.e) (List.map (fun(e0:ByteArray×fe)=>c [d e0.2.y,a e0.2.n,e e0.2.s]) x.e)),f 45 l]))):=by kernel_rfl
def C5(a:fe) v:=a.y==toBool (af v 0)&&(a.n==toInt (af v 1)&&(a.s.toList==(toStr (af v 2)).toList&&true))
def mM(a:List AV):List AV->Nat->dq->Option dq
 |[],_,g=>some g
 |t::b,j,g=>bif toInt (af t 0)==4 then mM a b (j+1) g
  else bif dn g (dQ t) then mM a b (j+1) (g.put (dQ t).s ⟨toBool (af (nth a j) 0),toInt (af (nth a j) 1),toStr (af (nth a j) 2)⟩)
  else bif !C5 (bI g (dQ t).tm) (nth a j) then none else mM a b (j+1) g
def gG(l:List _):=∀t,t∈l->toInt (af t 0)≠4->bO (dQ t).tm=true
def Dk(x:ZS):=x.j<=x.l.length/\x.l.length<=100000/\x.row.length=x.l.length/\gG x.l
def sZ(x:ZS):Out (Exit×S):= .aq (mM x.row (x.l.drop x.j) x.j x.g).isSome
 (.one (.exit 2,sp 56 [(0, .cn 0),(2, .ptr 2 0 [] 0),(3, .ptr 3 0 [] 0),(7,da ((mM x.row (x.l.drop x.j) x.j x.g).getD [])),(10, .ah 70 x.rows),(11, .int x.rows.length),(12, .int x.i)] (.ext (some x.xs)::Nk x.rel x.l x.rows x.e)))
 (.one (.exit 1,sp 56 [(0, .cn 0),(2, .ptr 2 0 [] 0),(3, .ptr 3 0 [] 0),(10, .ah 70 x.rows),(11, .int x.rows.length),(12, .int x.i)] (.ext (some x.xs)::Nk x.rel x.l x.rows x.e)))
theorem lMi κ:aU (WW κ).E 12 176 5 (aG 4 IB Dk sZ):=by
 refine aC (fun x=>x.l.length - x.j) ?_;rintro⟨d,l,a,xs,e,i,b,g,j⟩ K ⟨B,z,A,q⟩ c;simp only at B z A q;rw[show(WW κ).E.P=Pr κ from rfl];refine Eq.mpr (xMi κ ⟨d,l,a,xs,e,i,b,g,j⟩ _ _ K) ?_;simp only[Int.toNat_natCast];rw[ae,at3,aC7];refine⟨fun h=>?_,fun h=>?_⟩
 ·have o:j<l.length:=by omega
  have hd:l.drop j=nth l j::l.drop (j+1):=by rw[aD6 o,←aV l j o]
  have v:nth l j∈l:=by rw[aV l j o];exact List.getElem_mem _
  have C:(true&&decide ((j:Int)<(l.length:Int)))=true:=by simp;omega
  have u:(true&&decide ((j:Int)<(b.length:Int)))=true:=by simp;omega
  have f: ∀p,((sZ ⟨d,l,a,xs,e,i,b,p,j+1⟩).run fun y=>K y.1 y.2)->∃m,m<l.length - j/\eW IB Dk sZ (fun x=>x.l.length - x.j) K m (IB ⟨d,l,a,xs,e,i,b,p,j+1⟩):=fun p F=>
   ⟨_,by simp only;omega,⟨d,l,a,xs,e,i,b,p,j+1⟩,rfl,⟨o,z,A,q⟩,rfl,F⟩
  have D:IntKind.wrap .i64 ((j:Int)+1)=((j+1:Nat):Int):=by rw[az (by omega) (by omega)];omega
  rw[D];refine ai.2 ⟨C,ae.2 ⟨fun k=>f g ?_,fun k=>⟨⟨g,dQ (nth l j)⟩,rfl,trivial,?_⟩⟩⟩
  ·unfold sZ at c⊢
   simp only[hd,mM] at c;rw[k] at c;exact c
  ·simp only
   have w:toInt (af (nth l j) 0)≠4:=by simpa using k
   refine ae.2 ⟨fun t=>ai.2 ⟨u,⟨g,(dQ (nth l j)).s,⟨toBool (af (nth b j) 0),toInt (af (nth b j) 1),toStr (af (nth b j) 2)⟩⟩,rfl,trivial,f _ ?_⟩,fun t=>?_⟩
   ·unfold sZ at c⊢
    simp only[hd,mM] at c;rw[k,t] at c;exact c
   ·have n:aq (!C5 (bI g (dQ (nth l j)).tm) (nth b j)) (K (.exit 1) (sp 56 [(0, .cn 0),(2, .ptr 2 0 [] 0),(3, .ptr 3 0 [] 0),(10, .ah 70 a),(11, .int a.length),(12, .int i)] (.ext (some xs)::Nk d l a e))) (∃m,m<l.length - j/\eW IB Dk sZ (fun x=>x.l.length - x.j) K m (IB ⟨d,l,a,xs,e,i,b,g,j+1⟩)):=by
     unfold sZ at c;simp only[hd,mM] at c;rw[k,t] at c;refine ae.2 ⟨fun r=>?_,fun r=>f g ?_⟩
     ·rw[r] at c;exact c
     ·rw[r] at c;exact c
    exact⟨⟨⟨g,dQ (nth l j)⟩,rfl,q _ v w,ai.2 ⟨u,n⟩⟩,ai.2 ⟨u,⟨g,dQ (nth l j)⟩,rfl,q _ v w,n⟩⟩
 ·rw[show sZ ⟨d,l,a,xs,e,i,b,g,j⟩=_ from rfl] at c
  unfold sZ at c;simp only at c;rw[aD3 (by omega)] at c;exact c
noncomputable def W5 κ:=(WW κ).loop (lMi _)
structure ZT where
 rel:ByteArray
 l:List AV
 rows:List AV
 xs:List AV
 e:dq
 i:Nat
abbrev Rw(x:ZT):=sp 56 [(0, .cn 0),(2, .ptr 2 0 [] 0),(3, .ptr 3 0 [] 0),(10, .ah 70 x.rows),(11, .int x.rows.length),(12, .int x.i)] (.ext (some x.xs)::Nk x.rel x.l x.rows x.e)
theorem xMr(κ:Kp)(x:ZT)(I:Nat->S->Prop)(N:Nat)(K:Exit->S->Prop):(vc (W5 κ).E 12 176 none 4 (ad (Pr κ).toProgram 176 1) (Rw x) (bg (W5 κ).E 176 1 4 I N K))=(
 letI b:=AV.int
 letI c:=AV.agg
 letI d:=AV.bool
 letI e:=AV.str
 letI f:=Obj.box
 letI g:=Obj.ext
 letI h:=AV.ah
 letI i:=AV.fh
 aq (decide ((↑(x.i):Int)<(↑(x.rows.length):Int))) (aW (true&&decide ((↑(x.i):Int)<(↑(x.rows.length):Int))) (ad (Pg.toProgram (Env.P (EB.E (WW κ)))) 176 5=ad (Pg.toProgram (Env.P (EB.E (WW κ)))) 176 5/\∃(a:ZS),letI n:=[(0,AV.cn 0),(2,AV.ptr 2 0 [] 0),(3,AV.ptr 3 0 [] 0),(10,h 70 a.rows),(11,b (↑(a.rows.length):Int)),(12,b (IntKind.wrap IntKind.i64 ((↑(a.i):Int)+(1:Int))))];letI j:=mM a.row (List.drop a.j a.l) a.j a.g;letI k:=c [e a.rel,h 38 a.l];letI l:=h 70 a.rows;sp 56 [(0,AV.cn 0),(2,AV.ptr 2 0 [] 0),(3,AV.ptr 3 0 [] 0),(6,h 72 (ag (nth x.rows (Int.toNat (↑(x.i):Int))))),(7,i 9 72 (List.map (fun(x:ByteArray×fe)=>Value.string x.1) x.e) (List.map (fun(x:ByteArray×fe)=>c [d x.2.y,b x.2.n,e x.2.s]) x.e)),(10,h 70 x.rows),(11,b (↑(x.rows.length):Int)),(12,b (↑(x.i):Int)),(18,h 38 x.l),(19,b (↑(x.l.length):Int)),(20,b 0)] [g (some x.xs),f 51 (h 70 x.rows),f 162 (i 9 72 (List.map (fun(x:ByteArray×fe)=>Value.string x.1) x.e) (List.map (fun(x:ByteArray×fe)=>c [d x.2.y,b x.2.n,e x.2.s]) x.e)),f 45 (c [e x.rel,h 38 x.l])]=IB a/\Dk a/\aq (Option.isSome j) (∃(a_1:List AV),a.xs=AV.aH [i 9 72 (List.map (fun(x:ByteArray×fe)=>Value.string x.1) (Option.getD j [])) (List.map (fun(x:ByteArray×fe)=>c [d x.2.y,b x.2.n,e x.2.s]) (Option.getD j []))]::a_1/\(∃(m:Nat),m<N/\I m (sp 56 n [g (some a_1),f 51 l,f 162 (i 9 72 (List.map (fun(x:ByteArray×fe)=>Value.string x.1) a.e) (List.map (fun(x:ByteArray×fe)=>c [d x.2.y,b x.2.n,e x.2.s]) a.e)),f 45 k]))/\K Exit.ret (sp 56 [] [g none,f 51 l,f 162 (i 9 72 (List.map (fun(x:ByteArray×fe)=>Value.string x.1) a.e) (List.map (fun(x:ByteArray×fe)=>c [d x.2.y,b x.2.n,e x.2.s]) a.e)),f 45 k])) (∃(m:Nat),m<N/\I m (sp 56 n [g (some a.xs),f 51 l,f 162 (i 9 72 (List.map (fun(x:ByteArray×fe)=>Value.string x.1) a.e) (List.map (fun(x:ByteArray×fe)=>c [d x.2.y,b x.2.n,e x.2.s]) a.e)),f 45 k])))) (K (Exit.exit 0) (sp 56 [] [g (some x.xs),f 51 (h 70 x.rows),f 162 (i 9 72 (List.map (fun(x:ByteArray×fe)=>Value.string x.1) x.e) (List.map (fun(x:ByteArray×fe)=>c [d x.2.y,b x.2.n,e x.2.s]) x.e)),f 45 (c [e x.rel,h 38 x.l])]))):=by kernel_rfl
def mN l(a:List _) e:=a.filterMap fun r=>mM (ag r) l 0 e
def Hk(L:List dq):List AV:=L.map fun g=> .aH [da g]
structure DQ(l rows:List AV):Prop where
 n:rows.length<=100000000
 k:l.length<=100000
 h:gG l
 w: ∀r,r∈rows->(ag r).length=l.length
def Il(x:ZT):=x.i<=x.rows.length/\DQ x.l x.rows/\x.xs=Hk (mN x.l (x.rows.drop x.i) x.e)
def VZ(x:ZT):Out (Exit×S):= .all (fun _=>True) fun b=> .aq b
 (.one (.exit 0,sp 56 [] (.ext (some [])::Nk x.rel x.l x.rows x.e)))
 (.one (.ret,sp 56 [] (.ext none::Nk x.rel x.l x.rows x.e)))
theorem L8 l a(e:dq)(i:Nat)(h:i<a.length):mN l (a.drop i) e=(match mM (ag (nth a i)) l 0 e with|some g=>g::mN l (a.drop (i+1)) e|none=>mN l (a.drop (i+1)) e):=by
 rw[aD6 h,←aV _ i h,mN,List.filterMap_cons];cases mM _ l 0 e<;>rfl
theorem lMr κ:aU (W5 κ).E 12 176 1 (aG 4 Rw Il VZ):=by
 refine aC (fun x=>x.rows.length - x.i) ?_;rintro⟨c,l,a,xs,e,i⟩ K ⟨v,f,b⟩ q;simp only at v f b;rw[show(W5 κ).E.P=Pr κ from rfl];refine Eq.mpr (xMr κ ⟨c,l,a,xs,e,i⟩ _ _ K) ?_;have j:=q true trivial;have o:=q false trivial;simp only[Out.run,aq] at j o;simp only[Int.toNat_natCast];have z:=f.n;rw[ae,at3,aC7];refine⟨fun h=>?_,fun h=>?_⟩
 ·have r:i<a.length:=by omega
  have t:nth a i∈a:=by rw[aV a i r];exact List.getElem_mem _
  rw[L8 l a e i r] at b;have u:IntKind.wrap .i64 ((i:Int)+1)=((i+1:Nat):Int):=by rw[az (by omega) (by omega)];omega
  have d: ∀p,p=Hk (mN l (a.drop (i+1)) e)->∃m,m<a.length - i/\eW Rw Il VZ (fun x=>x.rows.length - x.i) K m (Rw ⟨c,l,a,p,e,i+1⟩):=fun p y=>
   ⟨_,by simp only;omega,⟨c,l,a,p,e,i+1⟩,rfl,⟨r,f,y⟩,rfl,q⟩
  refine ai.2 ⟨by simp;omega,trivial,⟨c,l,a,xs,e,i,ag (nth a i),e,0⟩,rfl,⟨Nat.zero_le _,f.k,f.w _ t,f.h⟩,?_⟩;simp only[aD5];rw[u];cases s:mM (ag (nth a i)) l 0 e with
  |some g=>
   rw[s] at b;exact⟨_,b,d _ rfl,o⟩
  |none=>
   rw[s] at b;exact d _ b
 ·rw[aD3 (by omega)] at b
  have b:xs=[]:=b;subst b;exact j
noncomputable def BMr κ:=(W5 κ).loop (lMr _)
theorem yMm κ rel l rows xs e K:(a8 (BMr κ).E 12 176 [.cn 0, .ptr 1 0 [] 0, .ptr 2 0 [] 0, .ptr 3 0 [] 0] (.ext (some xs)::Nk rel l rows e) K)=(
 letI b:=AV.int
 letI c:=AV.agg
 letI d:=AV.str
 letI f:=Obj.box
 letI g:=AV.ah
 ad (Pg.toProgram (Env.P (EB.E (W5 κ)))) 176 1=ad (Pg.toProgram (Env.P (EB.E (W5 κ)))) 176 1/\∃(a:ZT),letI h:=c [d a.rel,g 38 a.l];sp 56 [(0,AV.cn 0),(2,AV.ptr 2 0 [] 0),(3,AV.ptr 3 0 [] 0),(10,g 70 rows),(11,b (↑(rows.length):Int)),(12,b 0)] [Obj.ext (some xs),f 51 (g 70 rows),f 162 (AV.fh 9 72 (List.map (fun(x:ByteArray×fe)=>Value.string x.1) e) (List.map (fun(x:ByteArray×fe)=>c [AV.bool x.2.y,b x.2.n,d x.2.s]) e)),f 45 (c [d rel,g 38 l])]=Rw a/\Il a/\∀(y:Bool),True->aq y (K (AV.aH []) [Obj.ext (some []),f 51 (g 70 a.rows),f 162 (AV.fh 9 72 (List.map (fun(x:ByteArray×fe)=>Value.string x.1) a.e) (List.map (fun(x:ByteArray×fe)=>c [AV.bool x.2.y,b x.2.n,d x.2.s]) a.e)),f 45 h]) (K (AV.aH []) [Obj.ext none,f 51 (g 70 a.rows),f 162 (AV.fh 9 72 (List.map (fun(x:ByteArray×fe)=>Value.string x.1) a.e) (List.map (fun(x:ByteArray×fe)=>c [AV.bool x.2.y,b x.2.n,d x.2.s]) a.e)),f 45 h])):=by kernel_rfl
structure AMm where
 rel:ByteArray
 l:List AV
 rows:List AV
 e:dq
def UN(x:AMm):List AV×List Dn.Obj:=([.cn 0, .ptr 1 0 [] 0, .ptr 2 0 [] 0, .ptr 3 0 [] 0], .ext (some (Hk (mN x.l x.rows x.e)))::Nk x.rel x.l x.rows x.e)
def Dl(x:AMm):Prop:=DQ x.l x.rows
def J1(_:AMm):Out (AV×List Dn.Obj):= .all (fun st'=>tv st') fun st'=> .one (.aH [],st')
theorem cMm κ:bd (BMr κ).E 12 176 (aM UN Dl J1):=by
 refine aQ ?_;rintro⟨b,l,a,e⟩ K d c;refine Eq.mpr (yMm κ b l a _ e K) ?_;refine⟨rfl,⟨b,l,a,_,e,0⟩,rfl,⟨Nat.zero_le _,d,rfl⟩,fun y _=>?_⟩;cases y
 ·exact c _ trivial
 ·exact c _ trivial
noncomputable def BMm κ:=(BMr κ).call (cMm _)
structure vL where
 ds:List AV
 rs:List AV
 r:dx
 od:List Nat
 ins:List AV
abbrev wo(x:vL)(o:AV):AV:= .agg [eg x.ds x.rs,aw x.r, .ak 1 0 x.od.length, .ak 2 0 x.ins.length,o]
abbrev dH(x:vL)(L:RL):List Dn.Obj:=[.box 160 (wo x (.ak 3 0 L.length)), .row 3 (ints x.od), .row 51 x.ins, .row 70 (rws L)]
abbrev vV(a:ByteArray)(l:List AV):AV:= .agg [.lit (.string a), .ah 38 l]
theorem yRm κ x L rel l K:(a8 (BMm κ).E 12 143 [.ptr 0 0 [] 0,vV rel l] (dH x L) K)=(
 ∃a,([.ah 43 x.ds,AV.str rel],[])=Bh a/\gZ a/\aW (decide (0<=bu a.2 a.1)&&decide (bu a.2 a.1<
 ↑(x.ins.length))) (K (.ah 70 (ag (nth x.ins (0+Int.toNat (bu a.2 a.1))))) (dH x L))):=by kernel_rfl
structure Zp where
 x:vL
 L:RL
 rel:ByteArray
 l:List AV
def vL.at(x:vL) a:=ag (nth x.ins (bu a x.ds).toNat)
def Bi(a:Zp):=([.ptr 0 0 [] 0,vV a.rel a.l],dH a.x a.L)
def uQ(a:Zp):=a.x.ds.length<=aX/\0<=bu a.rel a.x.ds/\bu a.rel a.x.ds<a.x.ins.length
def V7(a:Zp):Out (AV×List Dn.Obj):= .one (.ah 70 (a.x.at a.rel),dH a.x a.L)
theorem cRm κ:bd (BMm κ).E 12 143 (aM Bi uQ V7):=by
 refine aQ ?_;rintro⟨x,L,a,l⟩ K ⟨c,d,e⟩ b;refine Eq.mpr (yRm _ x L _ l K) ⟨(x.ds,a),rfl,c,ai.2 ⟨?_,by rw[Nat.zero_add];exact b⟩⟩
 grind
noncomputable def Zx κ:=EB.inline (((BMm κ).call (cRm _)).calm [143]) [142,141]
structure oW where
 x:vL
 L:RL
 op:Int
 rel:ByteArray
 l:List AV
 u:AT
 v:AT
 e:dq
abbrev Nm(a:oW):AV:= .agg [.int a.op,vV a.rel a.l,dA a.u,dA a.v]
noncomputable abbrev Pd(a:oW):Dn.Obj:=
 .loop (jq Tryz.prog 147 3 .ready none (iO (bR 68) [(0, .ptr 0 0 [] 0),(1,Nm a),(2,da a.e),(4, .ptr 4 0 [] 0),(6, .int 0),(7, .bool false),(8, .ptr 5 0 [] 0),(14,da a.e),(15, .ptr 4 0 [1] 1),(16,vV a.rel a.l),(17, .ptr 0 0 [] 0),(18, .ptr 4 0 [1] 1),(19,vV a.rel a.l),(20, .ah 70 (a.x.at a.rel)),(21, .bo 176 [.ptr 8 0 [] 0, .ptr 6 0 [] 0, .ptr 7 0 [] 0])]))
noncomputable abbrev wm a:=dH a.x a.L++[.box 80 (Nm a), .box 194 .nil, .box 162 (da a.e), .box 45 (vV a.rel a.l), .box 51 (.ah 70 (a.x.at a.rel)),Pd a]
noncomputable abbrev H0 a V:=dH a.x a.L++[.box 80 (Nm a), .box 194 (.ak 10 0 V.length), .dead, .dead, .dead,Pd a, .row 2 V]
theorem sRk κ a Q:(tidy (Pr κ).toProgram 10 (dF (wm a) (b7 (wm a) [.ptr 8 0 [] 0, .ptr 6 0 [] 0, .ptr 7 0 [] 0])) Q)=(
 letI b:=Obj.row
 Q [.box 160 (wo a.x (.ak 3 0 a.L.length)),b 3 (ints a.x.od),b 51 a.x.ins,b 70 (rws a.L),.box 80 (Nm a),.box 194 (.ak 10 0
 0),.dead,.dead,.dead,Pd a,b 2 []]):=by kernel_rfl
theorem rRk κ a V g Q(K2:List Dn.Obj->Prop):(gx (vc (Zx κ).E 12) 9 [da g] (H0 a V) (fun r st''=>match r with| .lit (.bool true)=>tidy (Pr κ).toProgram 10 st'' Q| .lit (.bool false)=>K2 st''|_=>False))=(
 letI b:=Obj.box
 letI c:=Obj.row
 letI d:=decide ((V.length+1+1)*9<=70368744177664)
 letI e:=wo a.x (.ak 3 0 a.L.length)
 letI f:=.ak 10 0 (V.length+1)
 aq (a.op != 7) (∃e0,([da g,dA a.v],[])=ew e0/\bO (AT.tm e0.t)=true/\aW d (Q [b 160 e,c 3 (ints a.x.od),c 51
 a.x.ins,c 70 (rws a.L),b 80 (Nm a),b 194 f,.dead,.dead,.dead,Pd a,c 2 (List.take V.length V++[AV.int (fe.n (bI e0.e
 (AT.tm e0.t)))])])) (aW d (Q [b 160 e,c 3 (ints a.x.od),c 51 a.x.ins,c 70 (rws a.L),b 80 (Nm a),b 194 f,.dead,
 .dead,.dead,Pd a,c 2 (List.take V.length V++[AV.int 0])]))):=by kernel_rfl
abbrev GV:List AV:=[.ptr 8 0 [] 0, .ptr 6 0 [] 0, .ptr 7 0 [] 0]
theorem oRk a:mi (wm a) GV=true:=by kernel_rfl
theorem kRk a xs:(.cn 0::gf (iX (b7 (wm a) GV)) GV,.ext (some xs)::gJ (iX (b7 (wm a) GV)) (gF (wm a) (b7 (wm a) GV)))=([.cn 0, .ptr 1 0 [] 0, .ptr 2 0 [] 0, .ptr 3 0 [] 0], .ext (some xs)::Nk a.rel a.l (a.x.at a.rel) a.e):=by kernel_rfl
def mW(a:Int)(v:AT) g:=bif a != 7 then(bI g v.tm).n else 0
structure SX(a:oW):Prop where
 m:DQ a.l (a.x.at a.rel)
 v:a.op≠7->bO a.v.tm=true
def oW.gg(a:oW):=(mN a.l (a.x.at a.rel) a.e).map (mW a.op a.v)
noncomputable def am6:eO:=fun b st K=>∃a,(b,st)=(GV,wm a)/\SX a/\K (H0 a (iA a.gg))
theorem MO:am6.gl:=by
 rintro b st K g e ⟨a,d,f,c⟩;exact⟨a,d,f,e _ c⟩
theorem XP κ a st K(h:aM UN Dl J1 a st K):(Zx κ).E.call 176 a st K:=h
theorem yn l a e:(mN l a e).length<=a.length:=List.length_filterMap_le _ _
theorem gRk κ:jf (Zx κ).E 12 176 am6:=by
 rintro i st K ⟨a,u,q,t⟩;obtain⟨rfl,rfl⟩:=Prod.mk.inj (show(i,st)=(GV,wm a) from u);have A:=Nat.le_trans (yn a.l (a.x.at a.rel) a.e) q.m.n;refine⟨Hk (mN a.l (a.x.at a.rel) a.e),fun f st'=>∃d b:List dq,f=Hk b/\st'=H0 a (iA (d.map (mW a.op a.v)))/\d++b=mN a.l (a.x.at a.rel) a.e,⟨oRk a,?_,?_,?_,?_⟩⟩
 ·refine XP κ _ _ _ ⟨⟨a.rel,a.l,a.x.at a.rel,a.e⟩,?_,q.m,fun st' h=>h⟩
  rw[kRk];rfl
 ·rw[show(Zx κ).E.P=Pr κ from rfl,show(wm a).length=10 from rfl,sRk]
  exact Exists.intro [] (Exists.intro _ (And.intro (Eq.refl _) (And.intro (Eq.refl _) (List.nil_append _))))
 ·rintro y r st' ⟨d,b,p,rfl,k⟩
  cases b with
  |nil=>cases p
  | cons g b=>
   obtain⟨w,rfl⟩:=List.cons.inj p;obtain rfl:=AV.aH.inj w;rw[show(Zx κ).E.P=Pr κ from rfl,show(wm a).length=10 from rfl,show(10:Nat) - 1=9 from rfl];refine Eq.mpr (rRk κ a (iA (d.map (mW a.op a.v))) g (fun st'=>∃j o:List dq,Hk b=Hk o/\st'=H0 a (iA (j.map (mW a.op a.v)))/\j++o=mN a.l (a.x.at a.rel) a.e) K) ?_;have z:d.length<=(mN a.l (a.x.at a.rel) a.e).length:=by rw[←k];simp
   have s:decide (((iA (d.map (mW a.op a.v))).length+1+1)*9<=70368744177664)=true:=by rw[at3,jG,List.length_map];omega
   have c: ∀n:Int,n=mW a.op a.v g->∃j o:List dq,Hk b=Hk o/\H0 a (iA (d.map (mW a.op a.v))++[AV.int n])=H0 a (iA (j.map (mW a.op a.v)))/\j++o=mN a.l (a.x.at a.rel) a.e:=fun n h=>
    ⟨d++[g],b,rfl,by rw[h,List.map_append,xV];rfl,by rw[←k];simp⟩
   simp only[H0,aE1,List.length_singleton] at c;rw[List.take_length];refine ae.2 ⟨fun e7=>⟨⟨g,a.v⟩,rfl,q.v (by simpa using e7),ai.2 ⟨s,c _ (by unfold mW;rw[e7];rfl)⟩⟩,fun e7=>ai.2 ⟨s,c _ (by unfold mW;rw[e7];rfl)⟩⟩
 ·rintro st' ⟨d,b,p,rfl,k⟩
  obtain rfl:b=[]:=by cases b with|nil=>rfl|cons _ _=>cases p
  rw[List.append_nil] at k;rw[k];exact t
noncomputable def Gn κ:=(Zx _).range 147 3 MO (gRk κ) fun f=>jr f (176::Lz)
abbrev aq4(a:oW) V m(i:Nat):=sp 68 [(11, .int m),(45, .ak 4 0 V.length),(46, .int V.length),(47, .int i)] (dH a.x a.L++[.row 2 V])
theorem xSu κ a V m i I N K:(vc (Gn κ).E 12 147 none 4 (ad (Pr κ).toProgram 147 13) (aq4 a V m i) (bg (Gn κ).E 147 13 4 I N K))=(
 letI b:=IntKind.wrap .i64
 letI c:=Obj.row
 letI d:=↑i<(↑(V.length):Int)
 aq (decide d) (aW (true&&decide d) (∃e0,e0<N/\I e0 (sp 68 [(11,AV.int (b (m+toInt (nth V (0+Int.toNat ↑i))))),(45,.ak 4 0 V.length),(46,AV.int ↑(V.length)),(47,AV.int (b (↑i+1)))] [.box 160 (wo a.x
 (.ak 3 0 a.L.length)),c 3 (ints a.x.od),c 51 a.x.ins,c 70 (rws a.L),c 2 V]))) (K (.exit 3) (sp 68 [(11,AV.int m)] (dH a.x
 a.L)))):=by kernel_rfl
def Zg m(l:List _):=l.foldl (fun m x=>IntKind.wrap .i64 (m+toInt x)) m
structure ASu where
 a:oW
 V:List AV
 m:Int
 i:Nat
abbrev Wn(x:ASu):S:=aq4 x.a x.V x.m x.i
def QY(x:ASu):=x.i<=x.V.length/\x.V.length<=100000000
def Wa(x:ASu):Out (Exit×S):= .one (.exit 3,sp 68 [(11, .int (Zg x.m (x.V.drop x.i)))] (dH x.a.x x.a.L))
theorem lSu κ:aU (Gn κ).E 12 147 13 (aG 4 Wn QY Wa):=by
 refine aC (fun x=>x.V.length - x.i) ?_;rintro⟨a,V,m,i⟩ K ⟨e,d⟩ b;simp only at e d;rw[show(Gn κ).E.P=Pr κ from rfl];refine Eq.mpr (xSu κ a V m i _ _ K) ?_;simp only[Nat.zero_add,Int.toNat_natCast];rw[ae,at3,aC7];simp only[Wa,Out.run] at b;refine⟨fun h=>ai.2 ⟨by simp;omega,_,?_,⟨a,V,IntKind.wrap .i64 (m+toInt (nth V i)),i+1⟩,?_,⟨by simp only;omega,d⟩,rfl,?_⟩,fun h=>?_⟩
 ·simp only;omega
 ·grind [az]
 ·have c:i<V.length:=by omega
  rw[aD6 c,←aV V i c] at b;exact b
 ·rw[aD3 (by omega)] at b
  exact b
noncomputable def BSu κ:=(Gn κ).loop (lSu _)
theorem yRk κ a K:(a8 (BSu κ).E 12 147 [.ptr 0 0 [] 0,Nm a,da a.e] (dH a.x a.L) K)=(
 letI b:=AV.ptr 0 0 []
 letI c:=AV.int
 letI d:=AV.ptr
 letI e:=AV.bool
 letI f:=Obj.box
 letI g:=Obj.row
 letI l:=Pg.toProgram (Env.P (EB.E (Gn κ)))
 ∃e2,letI m:=wo e2.x (.ak 3 0 e2.L.length);([b 0,vV a.rel a.l],dH a.x a.L)=Bi e2/\uQ e2/\(f 160 m=f 160 (wo a.x (.ak 3 0 a.L.length))/\f 80 (Nm a)=f 80 (Nm a)/\f 194 AV.nil=f 194 AV.nil/\True)/\∃e1,letI k:=iA (oW.gg e1);letI i:=List.length k;letI h:=List.take i (List.drop 0 k);letI j:=dH e1.x e1.L;([d 8 0 [] 0,d 6 0 [] 0,d 7 0 [] 0],[f 160 m,g 3 (ints e2.x.od),g 51 e2.x.ins,g 70 (rws e2.L),f 80 (Nm a),f 194 AV.nil,f 162 (da a.e),f 45 (vV a.rel a.l),f 51 (.ah 70 (vL.at e2.x e2.rel)),.loop (jq Tryz.prog 147 3 .ready none (iO (bR 68) [(0,b 0),(1,Nm a),(2,da a.e),(4,d 4 0 [] 0),(6,c 0),(7,e false),(8,d 5 0 [] 0),(14,da a.e),(15,d 4 0 [1] 1),(16,vV a.rel a.l),(17,b 0),(18,d 4 0 [1] 1),(19,vV a.rel a.l),(20,.ah 70 (vL.at e2.x e2.rel)),(21,.bo 176 [d 8 0 [] 0,d 6 0 [] 0,d 7 0 [] 0])]))])=([d 8 0 [] 0,d 6 0 [] 0,d 7 0 [] 0],wm e1)/\SX e1/\aq (e1.op==7) (K (.aH [c ↑i,e true]) j) (aq (e1.op==8) (ad l 147 13=ad l 147 13/\∃e0,sp 68 [(11,c 0),(45,.ak 4 0 i),(46,c ↑i),(47,c 0)] [f 160 (wo e1.x (.ak 3 0 e1.L.length)),g 3 (ints e1.x.od),g 51 e1.x.ins,g 70 (rws e1.L),g 2 k]=Wn e0/\QY e0/\K (.aH [c (Zg e0.m (List.drop e0.i e0.V)),e true]) (dH e0.a.x e0.a.L)) (aq (↑i==(0:Int)) (K (.aH [c 0,e false]) j) (aq (e1.op==9) (aW (decide (1<=List.length h)&&decide (List.length h<=100000000)) (K (.aH [c (Pn (toInt (nth h 0)) (List.drop 1 h)),e true]) j)) (aW (decide (1<=List.length h)&&decide (List.length h<=100000000)) (K (.aH [c (Pk (toInt (nth h 0)) (List.drop 1 h)),e true]) j)))))):=by kernel_rfl
def nC(a:Int)(V:List AV):Int:=bif a==7 then V.length else bif a==8 then Zg 0 V else bif (V.length:Int)==0 then 0 else bif a==9 then Pn (toInt (nth V 0)) (V.drop 1) else Pk (toInt (nth V 0)) (V.drop 1)
def oL(a:Int)(V:List AV):=a==7||(a==8|| !(V.length:Int)==0)
def UX a:=([.ptr 0 0 [] 0,Nm a,da a.e],dH a.x a.L)
structure I2(a:oW):Prop where
 d:a.x.ds.length<=aX
 f0:0<=bu a.rel a.x.ds
 f1:bu a.rel a.x.ds<a.x.ins.length
 k:SX a
def V6(a:oW):Out (AV×List Dn.Obj):= .one (.aH [.int (nC a.op (iA a.gg)), .bool (oL a.op (iA a.gg))],dH a.x a.L)
theorem tE{a}(h:SX a):(iA a.gg).length<=100000000:=by
 rw[jG,oW.gg,List.length_map];exact Nat.le_trans (yn _ _ _) h.m.n
theorem cRk κ:bd (BSu κ).E 12 147 (aM UX I2 V6):=by
 refine aQ ?_;intro a K c b
 replace b:K (.aH [.int (nC a.op (iA a.gg)), .bool (oL a.op (iA a.gg))]) (dH a.x a.L):=b
 refine Eq.mpr (yRk κ a K) ?_;refine⟨⟨a.x,a.L,a.rel,a.l⟩,rfl,⟨c.d,c.f0,c.f1⟩,⟨rfl,rfl,rfl,trivial⟩,a,rfl,c.k,?_⟩;have g:=tE c.k;have h:(iA a.gg).take (iA a.gg).length=iA a.gg:=List.take_length;rw[aD5,h];unfold nC oL at b;have f:((((iA a.gg).length:Int)==0)=false)->(decide (1<=(iA a.gg).length)&&decide ((iA a.gg).length<=100000000))=true:=fun i=>by
  grind
 refine ae.2 ⟨fun e7=>?_,fun e7=>ae.2 ⟨fun e8=>⟨rfl,⟨a,iA a.gg,0,0⟩,rfl,⟨Nat.zero_le _,g⟩,?_⟩,fun e8=>ae.2 ⟨fun e0=>?_,fun e0=>ae.2 ⟨fun e=>ai.2 ⟨f e0,?_⟩,fun e=>ai.2 ⟨f e0,?_⟩⟩⟩⟩⟩
 ·rw[e7] at b;exact b
 ·rw[e7,e8] at b;exact b
 ·rw[e7,e8,e0] at b;exact b
 ·rw[e7,e8,e0,e] at b;exact b
 ·rw[e7,e8,e0,e] at b;exact b
noncomputable def DP κ:=((BSu κ).call (cRk _)).calm [147]
structure AHr where
 x:vL
 L:RL
 e:dq
 i:Nat
def gH(a:List _) e:=a.map fun t=>fq (bI e (dQ t).tm)
abbrev YZ(a:AHr) V:=sp 191 [(2,da a.e),(3, .ptr 4 0 [] 0),(6, .ak 5 0 V.length),(26, .ah 38 a.x.r.hl),(27, .int a.x.r.hl.length),(28, .int a.i)] (dH a.x a.L++[.box 158 (.ptr 0 0 [] 0), .row 72 V])
theorem xHr κ a V I N K:(vc (DP κ).E 12 98 none 4 (ad (Pr κ).toProgram 98 4) (YZ a V) (bg (DP κ).E 98 4 4 I N K))=(
 letI b:=Obj.box
 letI c:=Obj.row
 letI d:=dx.hl a.x.r
 letI e:=nth d (Int.toNat ↑(a.i))
 letI f:=↑(a.i)<(↑(List.length d):Int)
 letI g:=wo a.x (.ak 3 0 a.L.length)
 aq (decide f) (aW (true&&decide f) (∃e1,([da a.e,.agg [AV.int (toInt (af e 0)),AV.str (toStr (af e 1)),AV.int (toInt (af e 2)),.ah 38
 (ag (af e 3))]],[])=ew e1/\bO (AT.tm e1.t)=true/\aW (decide ((V.length+1+1)*33<=70368744177664)) (∃e0,e0<N/\I e0 (sp 191 [(2,da
 a.e),(3,.ptr 4 0 [] 0),(6,.ak 5 0 (V.length+1)),(26,.ah 38 d),(27,AV.int (↑(List.length d))),(28,AV.int (IntKind.wrap .i64
 (↑(a.i)+1)))] [b 160 g,c 3 (ints a.x.od),c 51 a.x.ins,c 70 (rws a.L),b 158 (.ptr 0 0 [] 0),c 72
 (List.take V.length V++[fq (bI e1.e (AT.tm e1.t))])])))) (K (.exit 0) (sp 191 [(3,.ptr 4 0 [] 0),(6,.ak 5 0 V.length)] [b 160 g,c 3
 (ints a.x.od),c 51 a.x.ins,c 70 (rws a.L),b 158 (.ptr 0 0 [] 0),c 72 V]))):=by kernel_rfl
abbrev Rs a:=YZ a (gH (a.x.r.hl.take a.i) a.e)
def QK(a:AHr):=a.i<=a.x.r.hl.length/\a.x.r.hl.length<=100000/\∀t,t∈a.x.r.hl->bO (dQ t).tm=true
def ai1(a:AHr):Out (Exit×S):= .one (.exit 0,sp 191 [(3, .ptr 4 0 [] 0),(6, .ak 5 0 (gH a.x.r.hl a.e).length)] (dH a.x a.L++[.box 158 (.ptr 0 0 [] 0), .row 72 (gH a.x.r.hl a.e)]))
theorem lHr κ:aU (DP κ).E 12 98 4 (aG 4 Rs QK ai1):=by
 refine aC (fun a=>a.x.r.hl.length - a.i) ?_;rintro⟨x,L,e,i⟩ K ⟨k,f,c⟩ d;simp only at k f c;rw[show(DP κ).E.P=Pr κ from rfl];refine Eq.mpr (xHr κ ⟨x,L,e,i⟩ _ _ _ K) ?_;simp only[Int.toNat_natCast];rw[ae,at3,aC7];refine⟨fun h=>?_,fun h=>?_⟩
 ·have b:i<x.r.hl.length:=by omega
  have j:nth x.r.hl i∈x.r.hl:=by rw[aV _ i b];exact List.getElem_mem _
  have l:gH (x.r.hl.take (i+1)) e=gH (x.r.hl.take i) e++[fq (bI e (dQ (nth x.r.hl i)).tm)]:=by
   rw[List.take_add_one,gH,gH,List.map_append,aV _ i b];simp[b]
  have m:(gH (x.r.hl.take i) e).length<=100000:=by rw[gH,List.length_map,List.length_take];omega
  refine ai.2 ⟨by simp;omega,⟨e,dQ (nth x.r.hl i)⟩,rfl,c _ j,ai.2 ⟨by rw[at3];omega,_,?_,⟨x,L,e,i+1⟩,?_,⟨b,f,c⟩,rfl,d⟩⟩
  ·simp only;omega
  ·simp only[Rs,YZ,l,List.take_length,aE1,List.length_singleton]
   rw[az (n:=(i:Int)+1) (by omega) (by omega)];rfl
 ·have g:x.r.hl.take i=x.r.hl:=List.take_of_length_le (by omega)
  simp only[g];exact d
noncomputable def BHr κ:=(DP κ).loop (lHr _)
theorem I9{b p q p' a}(d:p->p')(c:q->a)(h:aq b p q):aq b p' a:=by
 cases b
 ·exact c h
 ·exact d h
def EB.Zj(b:EB){f:Nat}{sp:dN}(e:sp.gl)(h: ∀c st K,sp c st K->b.E.call f c st K):EB:=⟨_,b.ok.fQ fun a s K d=>b.ok.call _ _ _ _ (h a s K d),b.mono.ax e⟩
def ar8(st:List Dn.Obj)(i:Nat)(k:AV->Prop):Prop:=match ay st i with| .box _ a=>k a|_=>False
def az6(st:List Dn.Obj)(i:Nat)(k:List AV->Prop):Prop:=match ay st i with| .row _ l=>k l|_=>False
def dsK(a:AV)(k:List AV->Prop):=match a with| .agg (.agg (.ah _ ds::_)::_)=>k ds|_=>False
def az4(l:List AV)(k:ByteArray->Prop):=match l with|[_, .agg [.lit (.string s),_]]=>k s|_=>False
def Rb:dN:=fun c st K=>(∃a,(c,st)=Bi a/\uQ a)/\az4 c fun d=>ar8 st 0 fun b=>dsK b fun ds=>az6 st 2 fun e=>K (.ah 70 (ag (nth e (bu d ds).toNat))) st
theorem Iz:Rb.gl:=fun b st K f e h=>by
 obtain⟨⟨a,d,g⟩,c⟩:=h;obtain⟨rfl,rfl⟩:=Prod.mk.inj d;exact⟨by grind,e _ _ c⟩
theorem YD b st K(h:Rb b st K):aM Bi uQ V7 b st K:=by
 obtain⟨⟨a,d,e⟩,c⟩:=h;obtain⟨rfl,rfl⟩:=Prod.mk.inj d;exact⟨a,rfl,e,c⟩
def Ra:dN:=fun b st K=>∃a,(b,st)=UX a/\I2 a/\K (.aH [.int (nC a.op (iA a.gg)), .bool (oL a.op (iA a.gg))]) st
theorem Iy:Ra.gl:=fun _ _ _ _ c ⟨a,d,e,b⟩=>⟨a,d,e,c _ _ b⟩
theorem YC b st K(h:Ra b st K):aM UX I2 V6 b st K:=by
 obtain⟨a,d,e,c⟩:=h;obtain⟨rfl,rfl⟩:=Prod.mk.inj d;exact⟨a,rfl,e,c⟩
theorem XQ κ a st K(h:Rb a st K):(BHr κ).E.call 143 a st K:=YD _ _ K h
noncomputable def BGa κ:=EB.Zj _ Iz (XQ κ)
theorem S9 κ a st K(h:Ra a st K):(BGa κ).E.call 147 a st K:=YC _ _ K h
noncomputable def BGb κ:=EB.Zj _ Iy (S9 κ)
structure br where
 x:vL
 L:RL
 i:Nat
 e:dq
abbrev br.j(a:br):=0+Int.toNat a.i
abbrev br.k(a:br):=nth (ints a.x.od) a.j
abbrev br.t(a:br):=nth a.x.r.bl (toInt a.k).toNat
abbrev br.rel(a:br):=toStr (af (af a.t 1) 0)
abbrev br.l(a:br):=ag (af (af a.t 1) 1)
abbrev jy(x:AV):AV:= .agg [.int (toInt (af x 0)), .lit (.string (toStr (af x 1))), .int (toInt (af x 2)), .ah 38 (ag (af x 3))]
abbrev br.lit(a:br):AV:= .agg [.int (toInt (af a.t 0)),vV a.rel a.l,jy (af a.t 2),jy (af a.t 3)]
noncomputable abbrev Hu(a:br):Dn.Obj:=
 .loop (jq Tryz.prog 98 20 .ready none (iO (bR 191) [(0, .ptr 0 0 [] 0),(1, .int a.i),(2,da a.e),(3, .ptr 4 0 [] 0),(4, .ptr 5 0 [] 0),(9, .ptr 6 0 [] 0),(10, .ptr 7 0 [] 0),(14, .int a.i),(15, .ptr 0 0 [] 0),(16, .ptr 0 0 [] 0),(17, .ptr 0 0 [2] 6),(18, .ak 1 0 a.x.od.length),(19, .int a.x.od.length),(20, .bool false),(49, .ptr 0 0 [] 0),(50, .ptr 0 0 [] 0),(51, .ptr 0 0 [1] 2),(52, .ptr 0 0 [1,1] 4),(53, .ah 80 a.x.r.bl),(54, .ptr 0 0 [] 0),(55, .ptr 0 0 [] 0),(56, .ptr 0 0 [2] 6),(57, .ak 1 0 a.x.od.length),(58, .int a.i),(59, .ptr 1 a.j [] 0),(60, .int (toInt a.k)),(61, .jK 80 a.t),(62,a.lit),(63, .bo 141 [.ptr 4 0 [] 0, .ptr 5 0 [] 0]),(64, .ptr 6 0 [0] 0),(65, .int (toInt (af a.t 0))),(101, .bool true),(102, .bool (toInt (af a.t 0)==1)),(103,da a.e),(104, .ptr 6 0 [1] 1),(105,vV a.rel a.l),(106, .ptr 0 0 [] 0),(107, .ptr 6 0 [1] 1),(108,vV a.rel a.l),(109, .ah 70 (a.x.at a.rel)),(110, .bo 176 [.ptr 10 0 [] 0, .ptr 8 0 [] 0, .ptr 9 0 [] 0])]))
noncomputable abbrev vZ a:=dH a.x a.L++[.box 158 (.ptr 0 0 [] 0), .box 3 (.int a.i), .box 80 a.lit, .box 207 (.bo 141 [.ptr 4 0 [] 0, .ptr 5 0 [] 0]), .box 162 (da a.e), .box 45 (vV a.rel a.l), .box 51 (.ah 70 (a.x.at a.rel)),Hu a]
noncomputable abbrev OJ a L:=dH a.x L++[.box 158 (.ptr 0 0 [] 0), .box 3 (.int a.i), .box 80 a.lit, .box 207 (.bo 141 [.ptr 4 0 [] 0, .ptr 5 0 [] 0]), .dead, .dead, .dead,Hu a]
def mL(x:vL):List Nat->dq->RL
 |[],e=>[gH x.r.hl e]
 | k::b,e=>
  let t:=nth x.r.bl k
  let a:=toInt (af t 0)
  let M:=mN (ag (af (af t 1) 1)) (x.at (toStr (af (af t 1) 0))) e
  let u:=dQ (af t 2)
  let v:=dQ (af t 3)
  bif a==1 then M.flatMap (mL x b)
  else bif a==2 then(bif M.isEmpty then mL x b e else[])
  else bif a==3||(a==4||(a==5||a==6)) then
   (bif a==3&&dn e u then mL x b (e.put u.s (bI e v.tm))
    else bif a==3&&dn e v then mL x b (e.put v.s (bI e u.tm))
    else bif ik a (bI e u.tm) (bI e v.tm) then mL x b e else[])
  else
   let V:=iA (M.map (mW a v))
   (bif !oL a V then[]
    else bif dn e u then mL x b (e.put u.s ⟨false,nC a V,ByteArray.mk #[]⟩)
    else bif (bI e u.tm).n==nC a V then mL x b e else[])
abbrev az5(a:br):=iO (bR 191) [(0, .ptr 0 0 [] 0),(1, .int a.i),(2,da a.e),(3, .ptr 4 0 [] 0),(4, .ptr 5 0 [] 0),(9, .ptr 6 0 [] 0),(10, .ptr 7 0 [] 0),(14, .int a.i),(15, .ptr 0 0 [] 0),(16, .ptr 0 0 [] 0),(17, .ptr 0 0 [2] 6),(18, .ak 1 0 a.x.od.length),(19, .int a.x.od.length),(20, .bool false),(49, .ptr 0 0 [] 0),(50, .ptr 0 0 [] 0),(51, .ptr 0 0 [1] 2),(52, .ptr 0 0 [1,1] 4),(53, .ah 80 a.x.r.bl),(54, .ptr 0 0 [] 0),(55, .ptr 0 0 [] 0),(56, .ptr 0 0 [2] 6),(57, .ak 1 0 a.x.od.length),(58, .int a.i),(59, .ptr 1 a.j [] 0),(60, .int (toInt a.k)),(61, .jK 80 a.t),(62,a.lit),(63, .bo 141 [.ptr 4 0 [] 0, .ptr 5 0 [] 0]),(64, .ptr 6 0 [0] 0),(65, .int (toInt (af a.t 0))),(101, .bool false),(102, .bool (toInt (af a.t 0)==1)),(115, .bool true),(116, .bool (toInt (af a.t 0)==2)),(117,da a.e),(118, .ptr 6 0 [1] 1),(119,vV a.rel a.l),(120, .ptr 0 0 [] 0),(121, .ptr 6 0 [1] 1),(122,vV a.rel a.l),(123, .ah 70 (a.x.at a.rel)),(124, .bo 176 [.ptr 10 0 [] 0, .ptr 8 0 [] 0, .ptr 9 0 [] 0])]
abbrev Ht(a:br)(s:LoopState)(p:Option Code):Dn.Obj:= .loop {state:=s,pending:=p,fn:=98,bF:=az5 a,params:= #[125],assign:= .skip,body:= .block 7 .ret}
noncomputable abbrev LB a L:=[.box 160 (wo a.x (.ak 12 0 L.length)), .row 3 (ints a.x.od), .row 51 a.x.ins, .dead, .box 158 (.ptr 0 0 [] 0), .box 3 (.int a.i), .box 80 a.lit, .box 207 (.bo 141 [.ptr 4 0 [] 0, .ptr 5 0 [] 0]), .dead, .dead, .dead,Hu a, .row 70 (rws L)]
abbrev qP:List AV:=[.ptr 10 0 [] 0, .ptr 8 0 [] 0, .ptr 9 0 [] 0]
abbrev vX a:=dH a.x a.L++[.box 158 (.ptr 0 0 [] 0), .box 3 (.int a.i), .box 80 a.lit, .box 207 (.bo 141 [.ptr 4 0 [] 0, .ptr 5 0 [] 0]), .box 162 (da a.e), .box 45 (vV a.rel a.l), .box 51 (.ah 70 (a.x.at a.rel)),Ht a .ready none]
abbrev LC(a:br) o:=dH a.x a.L++[.box 158 (.ptr 0 0 [] 0), .box 3 (.int a.i), .box 80 a.lit, .box 207 (.bo 141 [.ptr 4 0 [] 0, .ptr 5 0 [] 0]), .dead, .dead, .dead,o]
def fv(a:Int):=a==1||(a==2|| !(a==3||(a==4||(a==5||a==6))))
structure aa2(x:vL)(t:AV):Prop where
 at0:fv (toInt (af t 0))=true->0<=bu (toStr (af (af t 1) 0)) x.ds/\bu (toStr (af (af t 1) 0)) x.ds<x.ins.length
 at1:fv (toInt (af t 0))=true->DQ (ag (af (af t 1) 1)) (x.at (toStr (af (af t 1) 0)))
 u:(toInt (af t 0)==1)=false->(toInt (af t 0)==2)=false->bO (dQ (af t 2)).tm=true
 v:(toInt (af t 0)==1)=false->(toInt (af t 0)==2)=false->toInt (af t 0)≠7->bO (dQ (af t 3)).tm=true
structure SY(x:vL):Prop where
 d:x.ds.length<=aX
 n:x.od.length<=100000
 o: ∀k,k∈x.od->k<x.r.bl.length
 h:x.r.hl.length<=100000
 hv: ∀t,t∈x.r.hl->bO (dQ t).tm=true
 t: ∀k,k∈x.od->aa2 x (nth x.r.bl k)
def br.out(a:br):=mL a.x (a.x.od.drop a.i) a.e
def gL(a:br):=([.ptr 0 0 [] 0, .int a.i,da a.e],dH a.x a.L)
structure cL(a:br):Prop where
 x:SY a.x
 i:a.i<=a.x.od.length
 n:a.L.length+a.out.length<=100000000
abbrev oV(x:vL)(L:RL):List Dn.Obj:=[.box 160 (wo x (.ak 4 0 L.length)), .row 3 (ints x.od), .row 51 x.ins, .dead, .row 70 (rws L)]
def VO(a:br):Out (AV×List Dn.Obj):= .aq a.out.isEmpty (.one (.aH [],dH a.x a.L)) (.one (.aH [],oV a.x (a.L++a.out)))
def YL n:=aM gL (fun a=>cL a/\a.x.od.length - a.i=n) VO
noncomputable def Vl κ r:=(BGb κ).E.ax 98 fun a st K=>∃m,m<r/\YL m a st K
theorem sGm κ a Q:(tidy (Pr κ).toProgram 12 (dF (vZ a) (b7 (vZ a) qP)) Q)=(
 Q (OJ a a.L)):=by kernel_rfl
theorem rGm κ r a L g Q(K2:List Dn.Obj->Prop):(gx (vc (Vl κ r) 12) 11 [da g] (OJ a L) (fun r st''=>match r with| .lit (.bool true)=>tidy (Pr κ).toProgram 12 st'' Q| .lit (.bool false)=>K2 st''|_=>False))=(
 letI b:=AV.ptr 0 0 []
 letI c:=Obj.box
 letI d:=Obj.row
 letI e:=.bo 141 [.ptr 4 0 [] 0,.ptr 5 0 [] 0]
 letI f:=AV.int ↑(a.i)
 ∃e1,e1<r/\∃e0,([b 0,AV.int (IntKind.wrap .i64 (↑(a.i)+1)),da g],dH a.x L)=gL e0/\(cL e0/\
 List.length e0.x.od - e0.i=e1)/\aq (List.isEmpty (br.out e0)) (Q [c 160 (wo e0.x (.ak 3 0 e0.L.length)),d 3 (ints e0.x.od),d 51
 e0.x.ins,d 70 (rws e0.L),c 158 (b 0),c 3 f,c 80 (br.lit a),c 207 e,.dead,.dead,.dead,Hu a]) (Q
 [c 160 (wo e0.x (.ak 12 0 (List.length (e0.L++br.out e0)))),d 3 (ints e0.x.od),d 51 e0.x.ins,.dead,c 158 (b 0),
 c 3 f,c 80 (br.lit a),c 207 e,.dead,.dead,.dead,Hu a,d 70 (rws (e0.L++br.out e0))])):=by kernel_rfl
theorem sGn κ a Q:(tidy (Pr κ).toProgram 12 (dF (vX a) (b7 (vX a) qP)) Q)=(
 Q (LC a (Ht a .ready none))):=by kernel_rfl
theorem rGd κ r a L g Q(K2:List Dn.Obj->Prop):(gx (vc (Vl κ r) 12) 11 [da g] (LB a L) (fun r st''=>match r with| .lit (.bool true)=>tidy (Pr κ).toProgram 12 st'' Q| .lit (.bool false)=>K2 st''|_=>False))=(
 letI b:=AV.ptr
 letI c:=Obj.box
 letI d:=Obj.row
 letI e:=.bo 141 [b 4 0 [] 0,b 5 0 [] 0]
 letI f:=AV.int ↑(a.i)
 ∃e1,e1<r/\∃e0,([b 0 0 [] 0,AV.int (IntKind.wrap .i64 (↑(a.i)+1)),da g],dH a.x L)=gL e0/\(cL e0/\
 List.length e0.x.od - e0.i=e1)/\aq (List.isEmpty (br.out e0)) (Q [c 160 (wo e0.x (.ak 12 0 e0.L.length)),d 3 (ints e0.x.od),d 51
 e0.x.ins,.dead,c 158 (b 0 0 [] 0),c 3 f,c 80 (br.lit a),c 207 e,.dead,.dead,.dead,Hu a,d 70 (rws
 e0.L)]) (Q [c 160 (wo e0.x (.ak 12 0 (List.length (e0.L++br.out e0)))),d 3 (ints e0.x.od),d 51 e0.x.ins,.dead,c 158 (b 0
 0 [] 0),c 3 f,c 80 (br.lit a),c 207 e,.dead,.dead,.dead,Hu a,d 70 (rws (e0.L++br.out e0))])):=by kernel_rfl
def M0(a:br):=mN a.l (a.x.at a.rel) a.e
def wj(a:br):=mL a.x (a.x.od.drop (a.i+1))
structure N2(a:br)(r:Nat):Prop where
 x:SY a.x
 i:a.i<a.x.od.length
 r:a.x.od.length - a.i=r
 m:DQ a.l (a.x.at a.rel)
 n:a.L.length+((M0 a).flatMap (wj a)).length<=100000000
def br.all(a:br):RL:=(M0 a).flatMap (wj a)
noncomputable def YM(r:Nat):eO:=fun b st K=>∃a,(b,st)=(qP,vZ a)/\N2 a r/\aq a.all.isEmpty (K (OJ a a.L)) (K (LB a (a.L++a.all)))
theorem MJ r:(YM r).gl:=by
 rintro c st K g b ⟨a,d,f,e⟩;exact⟨a,d,f,I9 (b _) (b _) e⟩
noncomputable def goF a R:=bif R.isEmpty then OJ a a.L else LB a (a.L++R)
theorem TF a R T(Q:List _->Prop)(h:Q (goF a (R++T))):bif R.isEmpty then aq T.isEmpty (Q (OJ a a.L)) (Q (LB a (a.L++T))) else aq T.isEmpty (Q (LB a (a.L++R))) (Q (LB a (a.L++R++T))):=by
 cases R with
 |nil=>cases T<;>exact h
 |cons b R=>
  cases T with
  |nil=>rw[List.append_nil] at h;exact h
  |cons c T=>rw[List.append_assoc];exact h
theorem oGm a:mi (vZ a) qP=true:=by kernel_rfl
theorem kGm a xs:(.cn 0::gf (iX (b7 (vZ a) qP)) qP,.ext (some xs)::gJ (iX (b7 (vZ a) qP)) (gF (vZ a) (b7 (vZ a) qP)))=([.cn 0, .ptr 1 0 [] 0, .ptr 2 0 [] 0, .ptr 3 0 [] 0], .ext (some xs)::Nk a.rel a.l (a.x.at a.rel) a.e):=by kernel_rfl
theorem XK κ r a st K(h:aM UN Dl J1 a st K):(Vl κ r).call 176 a st K:=h
theorem gGm κ r:jf (Vl κ r) 12 176 (YM r):=by
 rintro k st K ⟨a,A,f,q⟩;obtain⟨rfl,rfl⟩:=Prod.mk.inj (show(k,st)=(qP,vZ a) from A);refine⟨Hk (M0 a),fun j st'=>∃c b:List dq,j=Hk b/\st'=goF a (c.flatMap (wj a))/\c++b=M0 a,⟨oGm a,?_,?_,?_,?_⟩⟩
 ·refine XK κ r _ _ _ ⟨⟨a.rel,a.l,a.x.at a.rel,a.e⟩,?_,f.m,fun st' h=>h⟩
  rw[kGm];rfl
 ·rw[show(Vl κ r).P=Pr κ from rfl,show(vZ a).length=12 from rfl,sGm]
  exact⟨[],_,rfl,rfl,List.nil_append _⟩
 ·rintro C z st' ⟨c,b,s,rfl,o⟩
  cases b with
  |nil=>cases s
  | cons g b=>
   obtain⟨B,rfl⟩:=List.cons.inj s;obtain rfl:=AV.aH.inj B;rw[show(Vl κ r).P=Pr κ from rfl,show(vZ a).length=12 from rfl,show(12:Nat) - 1=11 from rfl];have u:=f.i;have D:=f.x.n;have t:=f.n;have E:=f.r;rw[←o,List.flatMap_append,List.flatMap_cons] at t;simp only[aE1] at t;have d:=TF a (c.flatMap (wj a)) (wj a g) (fun st'=>∃v w:List dq,Hk b=Hk w/\st'=goF a (v.flatMap (wj a))/\v++w=M0 a) ⟨c++[g],b,rfl,by rw[List.flatMap_append,List.flatMap_cons,List.flatMap_nil,List.append_nil],by rw[←o];simp⟩;have y:=az (n:=(a.i:Int)+1) (by omega) (by omega);unfold goF;cases p:(c.flatMap (wj a)).isEmpty with
   | true=>
    rw[p] at d;refine Eq.mpr (rGm κ r a a.L g _ K) ⟨a.x.od.length - (a.i+1),by omega,⟨a.x,a.L,a.i+1,g⟩,?_,⟨⟨f.x,u,?_⟩,rfl⟩,d⟩
    ·rw[y];rfl
    ·show a.L.length+(wj a g).length<=100000000
     omega
   | false=>
    rw[p] at d;refine Eq.mpr (rGd κ r a (a.L++c.flatMap (wj a)) g _ K) ⟨a.x.od.length - (a.i+1),by omega,⟨a.x,a.L++c.flatMap (wj a),a.i+1,g⟩,?_,⟨⟨f.x,u,?_⟩,rfl⟩,d⟩
    ·rw[y];rfl
    ·show(a.L++c.flatMap (wj a)).length+(wj a g).length<=100000000
     rw[aE1];omega
 ·rintro st' ⟨c,b,s,rfl,o⟩
  obtain rfl:b=[]:=by cases b with|nil=>rfl|cons _ _=>cases s
  rw[List.append_nil] at o;rw[o];unfold goF;unfold br.all at q;cases p:((M0 a).flatMap (wj a)).isEmpty with
  |true=>rw[p] at q;exact q
  |false=>rw[p] at q;exact q
noncomputable def Vm κ r:=((Vl κ r).addRange 98 20 176 (YM r)).dc fun f=>jr f (176::Lz)
theorem rGn κ r a g Q(K2:List Dn.Obj->Prop):(gx (vc (Vm κ r) 12) 11 [da g] (LC a (Ht a .ready none)) (fun r st''=>match r with| .lit (.bool true)=>tidy (Pr κ).toProgram 12 st'' Q| .lit (.bool false)=>K2 st''|_=>False))=(
 K2 (LC a (Ht a .done (some .ret)))):=by kernel_rfl
def YN:eO:=fun b st K=>∃a,(b,st)=(qP,vX a)/\DQ a.l (a.x.at a.rel)/\aq (M0 a).isEmpty (K (LC a (Ht a .ready none))) (K (LC a (Ht a .done (some .ret))))
theorem MK:YN.gl:=by
 rintro c st K g b ⟨a,d,f,e⟩;exact⟨a,d,f,I9 (b _) (b _) e⟩
theorem oGn a:mi (vX a) qP=true:=by kernel_rfl
theorem kGn a xs:(.cn 0::gf (iX (b7 (vX a) qP)) qP,.ext (some xs)::gJ (iX (b7 (vX a) qP)) (gF (vX a) (b7 (vX a) qP)))=([.cn 0, .ptr 1 0 [] 0, .ptr 2 0 [] 0, .ptr 3 0 [] 0], .ext (some xs)::Nk a.rel a.l (a.x.at a.rel) a.e):=by kernel_rfl
theorem XL κ r a st K(h:aM UN Dl J1 a st K):(Vm κ r).call 176 a st K:=h
theorem gGn κ r:jf (Vm κ r) 12 176 YN:=by
 rintro d st K ⟨a,n,m,i⟩;obtain⟨rfl,rfl⟩:=Prod.mk.inj (show(d,st)=(qP,vX a) from n);refine⟨Hk (M0 a),fun b st'=>b=Hk (M0 a)/\st'=LC a (Ht a .ready none),⟨oGn a,?_,?_,?_,?_⟩⟩
 ·refine XL κ r _ _ _ ⟨⟨a.rel,a.l,a.x.at a.rel,a.e⟩,?_,m,fun st' h=>h⟩
  rw[kGn];rfl
 ·rw[show(Vm κ r).P=Pr κ from rfl,show(vX a).length=12 from rfl,sGn]
  exact⟨rfl,rfl⟩
 ·rintro p j st' ⟨c,rfl⟩
  cases f:M0 a with
  |nil=>rw[f] at c;cases c
  |cons g o=>
   rw[f] at c i;obtain⟨k,rfl⟩:=List.cons.inj c;obtain rfl:=AV.aH.inj k;rw[show(Vm κ r).P=Pr κ from rfl,show(vX a).length=12 from rfl,show(12:Nat) - 1=11 from rfl];exact Eq.mpr (rGn κ r a g _ K) i
 ·rintro st' ⟨c,rfl⟩
  cases f:M0 a with
  |nil=>rw[f] at i;exact i
  |cons g o=>rw[f] at c;cases c
noncomputable def EGm κ r:=((Vm κ r).addRange 98 0 176 YN).dc fun f=>jr f (176::Lz)
theorem eGm κ r(i: ∀a st K,(∃m,m<r/\YL m a st K)->cf (Pr κ) 98 a st K):aE (EGm κ r)/\aj (EGm κ r)/\(EGm κ r).P=Pr κ:=by
 have d:=(BGb κ).ok.fQ i;have b:aj (Vl κ r):=(BGb _).mono.ax fun _ _ _ _ f ⟨m,g,h⟩=>⟨m,g,aJ _ _ _ _ f h⟩
 have e:aE (Vm κ r):=(d.addRange b (gGm _ r)).dc _;have c:aj (Vm κ r):=(b.addRange (MJ r)).dc _;exact⟨(e.addRange c (gGn _ r)).dc _,(c.addRange MK).dc _,rfl⟩
theorem yGo(κ:Kp)(r:Nat)(a:br) K:(a8 (EGm κ r) 12 98 [.ptr 0 0 [] 0, .int a.i,da a.e] (dH a.x a.L) K)=(
 letI b:=IntKind.wrap IntKind.i64
 letI c:=AV.ptr 0 0 []
 letI d:=AV.int
 letI e:=AV.ptr
 letI f:=AV.bool
 letI g:=AV.lit
 letI h:=Obj.box
 letI i:=Obj.row
 letI j:=AV.aH
 letI k:=AV.ah
 letI l:=AV.ak
 letI z:=Value.int IntKind.i64 (b ((↑(a.i):Int)+(1:Int)))
 letI G:=∃(e1:Nat),e1<r/\∃(e0:br),([c 0,g z,da a.e],dH a.x a.L)=gL e0/\(cL e0/\List.length e0.x.od - e0.i=e1)/\aq
  (List.isEmpty (br.out e0)) (K (j []) (dH e0.x e0.L)) (K (j []) (oV e0.x (e0.L++br.out e0)))
 letI C:=AV.bo 141 [e 4 0 [] 0,e 5 0 [] 0]
 letI t:=af (br.t a) 0
 letI n:=List.length a.x.od
 letI p:=wo a.x (l 3 0 a.L.length)
 letI m:=af (br.t a) 2
 letI A:=∃(e0:Zp),([c 0,vV (br.rel a) (br.l a)],dH a.x a.L)=Bi e0/\uQ e0
 letI q:=toInt t==(3:Int)
 letI u:=d (↑(a.i):Int)
 letI o:=af (br.t a) 3
 letI H:=∃(e3:hH),([da a.e,jy o],[])=ew e3/\bO (AT.tm e3.t)=true/\∃(e2:Gi),([da a.e,AV.str (toStr (af m 1)),fq (bI e3.e (AT.tm e3.t))],
  [])=rX e2/\True/\∃(e1:Nat),e1<r/\∃(e0:br),([c 0,g z,da (dq.put e2.e e2.s e2.v)],dH a.x a.L)=gL e0/\(cL e0/\List.length
  e0.x.od - e0.i=e1)/\aq (List.isEmpty (br.out e0)) (K (j []) (dH e0.x e0.L)) (K (j []) (oV e0.x (e0.L++br.out e0)))
 letI v:=vL.at a.x (br.rel a)
 letI s:=c 0
 letI I:=h 160 p=h 160 p/\h 158 s=h 158 s/\h 3 u=h 3 u/\h 80 (br.lit a)=h 80 (br.lit a)
  /\h 207 C=h 207 C/\True
 letI w:=K (j []) (dH a.x a.L)
 letI D:=∃(e4:hH),([da a.e,jy m],[])=ew e4/\bO (AT.tm e4.t)=true/\∃(e3:hH),([da a.e,jy o],[])=ew e3/\bO (AT.tm e3.t)=true/\∃(e2:
  DN),([d (toInt t),fq (bI e4.e (AT.tm e4.t)),fq (bI e3.e (AT.tm e3.t))],[])=pW e2/\True/\aq (ik e2.op e2.x e2.y) G w
 letI E:=aq q (∃(e5:hH),([da a.e,jy o],[])=rW e5/\True/\aq (dn e5.e e5.t) (∃(e3:hH),([da a.e,jy m],[])=ew e3/\bO (AT.tm e3.t)=true
  /\∃(e2:Gi),([da a.e,AV.str (toStr (af o 1)),fq (bI e3.e (AT.tm e3.t))],[])=rX e2/\True/\∃(e1:Nat),e1<r/\∃(e0:br),([c 0,
  g z,da (dq.put e2.e e2.s e2.v)],dH a.x a.L)=gL e0/\(cL e0/\List.length e0.x.od - e0.i=e1)/\aq (List.isEmpty (br.out e0)) (K (j []) (dH e0.x
  e0.L)) (K (j []) (oV e0.x (e0.L++br.out e0)))) D) D
 letI F:=aq q (∃(e6:hH),([da a.e,jy m],[])=rW e6/\True/\aq (dn e6.e e6.t) H (aq q (∃(e5:hH),([da a.e,jy o],[])=rW e5/\True/\aq
  (dn e5.e e5.t) (∃(e3:hH),([da a.e,jy m],[])=ew e3/\bO (AT.tm e3.t)=true/\∃(e2:Gi),([da a.e,g (Value.string (toStr (af o 1))),fq (bI
  e3.e (AT.tm e3.t))],[])=rX e2/\True/\∃(e1:Nat),e1<r/\∃(e0:br),([c 0,g z,da (dq.put e2.e e2.s e2.v)],dH a.x a.L)=gL e0/\
  (cL e0/\List.length e0.x.od - e0.i=e1)/\aq (List.isEmpty (br.out e0)) (K (j []) (dH e0.x e0.L)) (K (j []) (oV e0.x (e0.L++br.out e0)))) D) D))
  E
 letI x:=toInt t==(1:Int)
 letI B:=Pg.toProgram (Env.P (EB.E (DP κ)))
 aq ((↑(a.i):Int)==(↑n:Int)) (ad B 98 4=ad B 98 4/\∃(e0:AHr),sp 191 [(2,da a.e),(3,e 4 0 [] 0),(6,l 5 0 0),(26,k 38 (dx.hl a.x.r)),(27,d (↑(List.length (dx.hl a.x.r)):Int)),(28,d 0)] [h 160 p,i 3 (ints a.x.od),i 51 a.x.ins,i 70 (rws a.L),h 158 s,i 72 []]=Rs e0/\QK e0/\aW (decide ((e0.L.length+1+1)*25<=70368744177664)) (K (j []) [h 160 (wo e0.x (l 4 0 (e0.L.length+1))),i 3 (ints e0.x.od),i 51 e0.x.ins,Obj.dead,i 70 (List.take e0.L.length (rws e0.L)++[k 72 (List.take (List.length (gH (dx.hl e0.x.r) e0.e)) (List.drop 0 (gH (dx.hl e0.x.r) e0.e)))])])) (aW (true&&decide ((↑(a.i):Int)<(↑n:Int))) (aW (decide ((0:Int)<=toInt (br.k a))&&decide (toInt (br.k a)<(↑(List.length (dx.bl a.x.r)):Int))) (aq x (A/\I/\∃(e0:br),([e 10 0 [] 0,e 8 0 [] 0,e 9 0 [] 0],[h 160 p,i 3 (ints a.x.od),i 51 a.x.ins,i 70 (rws a.L),h 158 s,h 3 u,h 80 (br.lit a),h 207 C,h 162 (da a.e),h 45 (vV (br.rel a) (br.l a)),h 51 (k 70 v),Dn.Obj.loop (jq Tryz.prog 98 20 LoopState.ready none (iO (bR 191) [(0,c 0),(1,d (↑(a.i):Int)),(2,da a.e),(3,e 4 0 [] 0),(4,e 5 0 [] 0),(9,e 6 0 [] 0),(10,e 7 0 [] 0),(14,d (↑(a.i):Int)),(15,c 0),(16,c 0),(17,e 0 0 [2] 6),(18,l 1 0 n),(19,d (↑n:Int)),(20,f false),(49,c 0),(50,c 0),(51,e 0 0 [1] 2),(52,e 0 0 [1,1] 4),(53,k 80 (dx.bl a.x.r)),(54,c 0),(55,c 0),(56,e 0 0 [2] 6),(57,l 1 0 n),(58,d (↑(a.i):Int)),(59,e 1 (br.j a) [] 0),(60,d (toInt (br.k a))),(61,AV.jK 80 (br.t a)),(62,br.lit a),(63,AV.bo 141 [e 4 0 [] 0,e 5 0 [] 0]),(64,e 6 0 [0] 0),(65,d (toInt t)),(101,f true),(102,f x),(103,da a.e),(104,e 6 0 [1] 1),(105,vV (br.rel a) (br.l a)),(106,c 0),(107,e 6 0 [1] 1),(108,vV (br.rel a) (br.l a)),(109,k 70 v),(110,AV.bo 176 [e 10 0 [] 0,e 8 0 [] 0,e 9 0 [] 0])]))])=([e 10 0 [] 0,e 8 0 [] 0,e 9 0 [] 0],vZ e0)/\N2 e0 r/\aq (List.isEmpty (br.all e0)) (K (j []) (dH e0.x e0.L)) (K (j []) (oV e0.x (e0.L++br.all e0)))) (aq (toInt t==(2:Int)) (A/\I/\∃(e2:br),([e 10 0 [] 0,e 8 0 [] 0,e 9 0 [] 0],[h 160 p,i 3 (ints a.x.od),i 51 a.x.ins,i 70 (rws a.L),h 158 s,h 3 u,h 80 (br.lit a),h 207 C,h 162 (da a.e),h 45 (vV (br.rel a) (br.l a)),h 51 (k 70 v),Dn.Obj.loop {state:=LoopState.ready,pending:=none,fn:=98,bF:=iO (bR 191) [(0,c 0),(1,d (↑(a.i):Int)),(2,da a.e),(3,e 4 0 [] 0),(4,e 5 0 [] 0),(9,e 6 0 [] 0),(10,e 7 0 [] 0),(14,d (↑(a.i):Int)),(15,c 0),(16,c 0),(17,e 0 0 [2] 6),(18,l 1 0 n),(19,d (↑n:Int)),(20,f false),(49,c 0),(50,c 0),(51,e 0 0 [1] 2),(52,e 0 0 [1,1] 4),(53,k 80 (dx.bl a.x.r)),(54,c 0),(55,c 0),(56,e 0 0 [2] 6),(57,l 1 0 n),(58,d (↑(a.i):Int)),(59,e 1 (br.j a) [] 0),(60,d (toInt (br.k a))),(61,AV.jK 80 (br.t a)),(62,br.lit a),(63,AV.bo 141 [e 4 0 [] 0,e 5 0 [] 0]),(64,e 6 0 [0] 0),(65,d (toInt t)),(101,f false),(102,f x),(115,f true),(116,f (toInt t==(2:Int))),(117,da a.e),(118,e 6 0 [1] 1),(119,vV (br.rel a) (br.l a)),(120,c 0),(121,e 6 0 [1] 1),(122,vV (br.rel a) (br.l a)),(123,k 70 v),(124,AV.bo 176 [e 10 0 [] 0,e 8 0 [] 0,e 9 0 [] 0])],params:={toList:=[125]},assign:=Code.skip,body:=Code.block 7 Code.ret}])=([e 10 0 [] 0,e 8 0 [] 0,e 9 0 [] 0],vX e2)/\DQ (br.l e2) (vL.at e2.x (br.rel e2))/\aq (List.isEmpty (M0 e2)) (∃(e1:Nat),e1<r/\∃(e0:br),([c 0,g (Value.int IntKind.i64 (b ((↑(e2.i):Int)+(1:Int)))),da a.e],dH e2.x e2.L)=gL e0/\(cL e0/\List.length e0.x.od - e0.i=e1)/\aq (List.isEmpty (br.out e0)) (K (j []) (dH e0.x e0.L)) (K (j []) (oV e0.x (e0.L++br.out e0)))) (K (j []) (dH e2.x e2.L))) (aq q (aq q (∃(e6:hH),([da a.e,jy m],[])=rW e6/\True/\aq (dn e6.e e6.t) H E) E) (aq (toInt t==(4:Int)) F (aq (toInt t==(5:Int)) F (aq (toInt t==(6:Int)) F (∃(e4:oW),letI y:=iA (oW.gg e4);([c 0,br.lit a,da a.e],dH a.x a.L)=UX e4/\I2 e4/\aq (!oL e4.op y) w (∃(e3:hH),([da a.e,jy m],[])=rW e3/\True/\aq (dn e3.e e3.t) (∃(e2:Gi),([da a.e,AV.str (toStr (af m 1)),AV.agg [f false,d (nC e4.op y),AV.str {data:= #[]}]],[])=rX e2/\True/\∃(e1:Nat),e1<r/\∃(e0:br),([c 0,g z,da (dq.put e2.e e2.s e2.v)],dH a.x a.L)=gL e0/\(cL e0/\List.length e0.x.od - e0.i=e1)/\aq (List.isEmpty (br.out e0)) (K (j []) (dH e0.x e0.L)) (K (j []) (oV e0.x (e0.L++br.out e0)))) (∃(e2:hH),([da a.e,jy m],[])=ew e2/\bO (AT.tm e2.t)=true/\aq (fe.n (bI e2.e (AT.tm e2.t))==nC e4.op y) G w)))))))))))):=by kernel_rfl
end Go.Proofs.YtioeffnadipbaaaGreatDoor
