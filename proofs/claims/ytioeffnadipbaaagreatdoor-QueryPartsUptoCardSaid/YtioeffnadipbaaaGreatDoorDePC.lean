import Derived.Test.YtioeffnadipbaaaGreatDoorDePB
namespace Go.Proofs.YtioeffnadipbaaaGreatDoor
open Go Go.Dn Go.Rl Go.Proofs
attribute [local irreducible] a8 vc
set_option maxRecDepth 20000
abbrev BI:=List AV×Bool×Bool
def TW(a:List AV)(f:RL->List BI):RL->List BI
 |[]=>(a,true,false)::f []
 |b::c=>bif decide (bC a b<0) then(a,true,false)::f (b::c) else bif decide (bC a b=0) then(a,true,true)::f c else(b,false,true)::TW a f c
def jT:RL->RL->List BI
 |[],c=>c.map fun b=>(b,false,true)
 |a::d,c=>TW a (jT d) c
def lE(A B:RL):RL:=(jT A B).map (·.1)
theorem Iq B:lE [] B=B:=by
 rw[lE,jT,List.map_map];exact List.map_id' B
theorem OL a(b:RL):lE (a::b) []=a::lE b []:=rfl
theorem OK a b(d c:RL):lE (a::d) (b::c)=bif decide (bC a b<0) then a::lE d (b::c) else bif decide (bC a b=0) then a::lE d c else b::lE (a::d) c:=by
 grind [lE,jT,TW]
theorem jv{A B r}(f:iL A)(g:iL B):r∈lE A B↔r∈A\/r∈B:=by
 match A,B with
 |[],B=>rw[Iq];simp
 |a::i,[]=>
  rw[OL,ap0,jv (fun s d=>f s (by simp[d])) g,ap0,or_assoc]
 | a::i,b::k=>
  have c:iL i:=fun s d=>f s (by simp[d])
  have e:iL k:=fun s d=>g s (by simp[d])
  rw[OK];by_cases j:bC a b<0
  ·rw[an8 j,an9,ap0,jv c g,ap0,ap0,or_assoc]
  ·rw[an6 j,an7]
   by_cases h:bC a b=0
   ·obtain rfl:=rT (f a (by simp)) (g b (by simp)) h
    rw[an8 h,an9,ap0,jv c e,ap0,ap0]
    grind
   ·rw[an6 h,an7,ap0,jv f e,ap0,ap0]
    grind
termination_by A.length+B.length
theorem mV{A B}(j:iL A)(g:iL B)(o:dr A=true)(m:dr B=true):dr (lE A B)=true:=by
 match A,B with
 |[],B=>rw[Iq];exact m
 |a::n,[]=>
  have e:iL n:=fun s h=>j s (by simp[h])
  obtain⟨i,k⟩:=dx.1 o;rw[OL];refine dx.2 ⟨fun c d=>?_,mV e g k m⟩;rcases(jv e g).1 d with d|d
  ·exact i c d
  ·cases d
 | a ::n,b::u=>
  have e:iL n:=fun s h=>j s (by simp[h])
  have f:iL u:=fun s h=>g s (by simp[h])
  obtain⟨i,k⟩:=dx.1 o;obtain⟨p,r⟩:=dx.1 m;rw[OK];by_cases l:bC a b<0
  ·rw[an8 l,an9]
   refine dx.2 ⟨fun c d=>?_,mV e g k m⟩;rcases(jv e g).1 d with d|d
   ·exact i c d
   ·rcases List.mem_cons.1 d with rfl|d
    ·exact l
    ·exact cf.Jw l (Int.le_of_lt (p c d))
  ·rw[an6 l,an7]
   by_cases q:bC a b=0
   ·obtain rfl:=rT (j a (by simp)) (g b (by simp)) q
    rw[an8 q,an9];refine dx.2 ⟨fun c d=>?_,mV e f k r⟩;rcases(jv e f).1 d with d|d
    ·exact i c d
    ·exact p c d
   ·rw[an6 q,an7]
    have t:bC b a<0:=by have:=cf.swap a b;omega
    refine dx.2 ⟨fun c d=>?_,mV j f o r⟩;rcases(jv j f).1 d with d|d
    ·rcases List.mem_cons.1 d with rfl|d
     ·exact t
     ·exact cf.Jw t (Int.le_of_lt (i c d))
    ·exact p c d
termination_by A.length+B.length
theorem Rq{A B}(b:iL A)(a:iL B)(c:dr A=true)(d:dr B=true):lE A B=ie (A++B):=
 x5 (fun r e=>(List.mem_append.1 e).elim (b r) (a r)) (mV b a c d) fun r=>by rw[jv b a,List.mem_append]
abbrev UX V m(i:Nat):=sp 25 [(0, .ad 2 V),(3, .int m),(4, .int i)] []
theorem xMn κ V m i I N K:(vc (Td κ).E 12 126 none 0 (ah (Pr κ).toProgram 126 5) (UX V m i) (bh (Td κ).E 126 5 0 I N K))=(
 letI a:=(↑i:Int)<(↑(V.length):Int)
 letI b:=nth V (Int.toNat (↑i:Int))
 an (decide a) (aG (true&&decide a) (∃(e0:Nat),e0<N/\I e0 (sp 25 [(0,AV.ad 2 V),(3,AV.int (if toInt b<m then toInt b else m)),(4,AV.int
 (IntKind.wrap IntKind.i64 ((↑i:Int)+(1:Int))))] []))) (K (Exit.exit 0) (sp 25 [(3,AV.int m)] []))):=by kernel_rfl
structure Ve where
 V:List AV
 m:Int
 i:Nat
abbrev H8(x:Ve):S:=UX x.V x.m x.i
def BP(x:Ve):=x.i<=x.V.length/\x.V.length<=100000000
def JB m(l:List _):=l.foldl (fun m x=>if toInt x<m then toInt x else m) m
def R7(x:Ve):Out (Exit×S):= .one (.exit 0,sp 25 [(3, .int (JB x.m (x.V.drop x.i)))] [])
theorem lMn κ:aP (Td κ).E 12 126 5 (aI 0 H8 BP R7):=by
 refine aD (fun x=>x.V.length - x.i) ?_;rintro⟨V,m,i⟩ K ⟨d,c⟩ a;simp only at d c;rw[show(Td κ).E.P=Pr κ from rfl];refine Eq.mpr (xMn κ V m i _ _ K) ?_;rw[ag,an2,an4];simp only[R7,Out.run] at a;refine⟨fun h=>ai.2 ⟨by simp;omega,_,?_,⟨V,if toInt (nth V i)<m then toInt (nth V i) else m,i+1⟩,?_,⟨by simp only;omega,c⟩,rfl,?_⟩,fun h=>?_⟩
 ·simp only;omega
 ·rw[ay (n:=(i:Int)+1) (by omega) (by omega)];rfl
 ·have b:i<V.length:=by omega
  rw[ao3 b,←aJ V i b] at a;exact a
 ·rw[ao0 (by omega)] at a
  exact a
noncomputable def S5 κ:=(Td κ).loop (lMn _)
theorem yMn κ V K:(a8 (S5 κ).E 12 126 [.ad 2 V] [] K)=(
 letI a:=Pg.toProgram (Env.P (EB.E (Td κ)))
 an (decide ((↑(V.length):Int)<(1:Int))) False (aG (true&&decide ((0:Int)<(↑(V.length):Int))) (ah a 126 5=ah a 126 5/\∃(e0:Ve),sp 25 [(0,
 AV.ad 2 V),(3,AV.int (toInt (nth V 0))),(4,AV.int 1)] []=H8 e0/\BP e0/\K (AV.int (JB e0.m (List.drop e0.i e0.V))) []))):=by kernel_rfl
def gMn:List AV->Option (Bool×AV)
 |[.ad 2 V]=>some (decide (1<=V.length)&&decide (V.length<=100000000), .int (JB (toInt (nth V 0)) (V.drop 1)))
 |_=>none
theorem pMn κ:cg (S5 κ).E 12 126 gMn:=by
 intro b x a;unfold gMn at a;split at a
 ·rename_i V
  simp only[an5,ao1,an3,an2] at a;obtain⟨⟨d,c⟩,rfl⟩:=a;refine⟨_,rfl,rfl,Eq.mpr (yMn κ V _) (ag.2 ⟨by grind,fun _=>ai.2 ⟨by simp;omega,rfl,⟨V,_,1⟩,rfl,⟨d,c⟩,rfl⟩⟩)⟩
 ·cases a
noncomputable def S4(κ:Kp):EB:=(S5 κ).pure (pMn κ)
theorem xMg κ V m i I N K:(vc (S4 κ).E 12 127 none 0 (ah (Pr κ).toProgram 127 5) (UX V m i) (bh (S4 κ).E 127 5 0 I N K))=(
 letI a:=(↑i:Int)<(↑(V.length):Int)
 letI b:=nth V (Int.toNat (↑i:Int))
 an (decide a) (aG (true&&decide a) (∃(e0:Nat),e0<N/\I e0 (sp 25 [(0,AV.ad 2 V),(3,AV.int (if toInt b>m then toInt b else m)),(4,AV.int
 (IntKind.wrap IntKind.i64 ((↑i:Int)+(1:Int))))] []))) (K (Exit.exit 0) (sp 25 [(3,AV.int m)] []))):=by kernel_rfl
def Jz m(l:List _):=l.foldl (fun m x=>if toInt x>m then toInt x else m) m
def R6(x:Ve):Out (Exit×S):= .one (.exit 0,sp 25 [(3, .int (Jz x.m (x.V.drop x.i)))] [])
theorem lMg κ:aP (S4 κ).E 12 127 5 (aI 0 H8 BP R6):=by
 refine aD (fun x=>x.V.length - x.i) ?_;rintro⟨V,m,i⟩ K ⟨d,c⟩ a;simp only at d c;rw[show(S4 κ).E.P=Pr κ from rfl];refine Eq.mpr (xMg κ V m i _ _ K) ?_;rw[ag,an2,an4];simp only[R6,Out.run] at a;refine⟨fun h=>ai.2 ⟨by simp;omega,_,?_,⟨V,if toInt (nth V i)>m then toInt (nth V i) else m,i+1⟩,?_,⟨by simp only;omega,c⟩,rfl,?_⟩,fun h=>?_⟩
 ·simp only;omega
 ·rw[ay (n:=(i:Int)+1) (by omega) (by omega)];rfl
 ·have b:i<V.length:=by omega
  rw[ao3 b,←aJ V i b] at a;exact a
 ·rw[ao0 (by omega)] at a
  exact a
noncomputable def KM κ:=(S4 κ).loop (lMg _)
theorem yMg κ V K:(a8 (KM κ).E 12 127 [.ad 2 V] [] K)=(
 letI a:=Pg.toProgram (Env.P (EB.E (S4 κ)))
 an (decide ((↑(V.length):Int)<(1:Int))) False (aG (true&&decide ((0:Int)<(↑(V.length):Int))) (ah a 127 5=ah a 127 5/\∃(e0:Ve),sp 25 [(0,
 AV.ad 2 V),(3,AV.int (toInt (nth V 0))),(4,AV.int 1)] []=H8 e0/\BP e0/\K (AV.int (Jz e0.m (List.drop e0.i e0.V))) []))):=by kernel_rfl
def gMg:List AV->Option (Bool×AV)
 |[.ad 2 V]=>some (decide (1<=V.length)&&decide (V.length<=100000000), .int (Jz (toInt (nth V 0)) (V.drop 1)))
 |_=>none
theorem pMg κ:cg (KM κ).E 12 127 gMg:=by
 intro b x a;unfold gMg at a;split at a
 ·rename_i V
  simp only[an5,ao1,an3,an2] at a;obtain⟨⟨d,c⟩,rfl⟩:=a;refine⟨_,rfl,rfl,Eq.mpr (yMg κ V _) (ag.2 ⟨by grind,fun _=>ai.2 ⟨by simp;omega,rfl,⟨V,_,1⟩,rfl,⟨d,c⟩,rfl⟩⟩)⟩
 ·cases a
noncomputable def O5(κ:Kp):EB:=(KM κ).pure (pMg κ)
end Go.Proofs.YtioeffnadipbaaaGreatDoor
namespace Go.Proofs.YtioeffnadipbaaaGreatDoor
open Go Go.Dn Go.Rl Go.Proofs Go.Shelf
attribute [local irreducible] a8 vc
set_option maxRecDepth 20000
def cI.has:cI->ByteArray->Bool
 |[],_=>false
 |(t,_)::e,s=>bif decide (s=t) then true else cI.has e s
def oM(e:cI)(t:AT):=t.op==1&& !e.has t.s
def qs(a:Int) x y:=bif a==3 then bC [gz x] [gz y]==0 else bif a==4 then bC [gz x] [gz y] != 0 else bif a==5 then decide (bC [gz x] [gz y]<0) else decide (bC [gz x] [gz y]<=0)
structure Z9 where
 op:Int
 x:fI
 y:fI
def YZ(a:Z9):List AV×List Dn.Obj:=([.int a.op,gz a.x,gz a.y],[])
def XL(a:Z9):Out (AV×List Dn.Obj):= .one (.bool (qs a.op a.x a.y),[])
end Go.Proofs.YtioeffnadipbaaaGreatDoor
namespace Go.Proofs.YtioeffnadipbaaaGreatDoor
open Go Go.Dn Go.Rl Go.Proofs
attribute [local irreducible] a8 vc
set_option maxRecDepth 20000
structure AMi where
 rel:ByteArray
 l:List AV
 rows:List AV
 xs:List AV
 e:cI
 i:Nat
 row:List AV
 g:cI
 j:Nat
def lx(a:fI) v:=a.y==toBool (af v 0)&&(a.n==toInt (af v 1)&&(a.s.toList==(toStr (af v 2)).toList&&true))
def Qo(a:List AV):List AV->Nat->cI->Option cI
 |[],_,g=>some g
 |t::b,j,g=>bif toInt (af t 0)==4 then Qo a b (j+1) g
  else bif oM g (dM t) then Qo a b (j+1) (g.put (dM t).s ⟨toBool (af (nth a j) 0),toInt (af (nth a j) 1),toStr (af (nth a j) 2)⟩)
  else bif !lx (cX g (dM t).tm) (nth a j) then none else Qo a b (j+1) g
def gB(l:List _):=∀t,t∈l->toInt (af t 0)≠4->b7 (dM t).tm=true
structure AMr where
 rel:ByteArray
 l:List AV
 rows:List AV
 xs:List AV
 e:cI
 i:Nat
def Qp l(a:List _) e:=a.filterMap fun r=>Qo (aa r) l 0 e
structure Tq(l rows:List AV):Prop where
 n:rows.length<=100000000
 k:l.length<=100000
 h:gB l
 w: ∀r,r∈rows->(aa r).length=l.length
structure AMm where
 rel:ByteArray
 l:List AV
 rows:List AV
 e:cI
structure OZ where
 ds:List AV
 rs:List AV
 r:dt
 od:List Nat
 ins:List AV
abbrev atA(a:ByteArray)(l:List AV):AV:= .agg [.lit (.string a), .ad 38 l]
structure ARm where
 x:OZ
 L:RL
 rel:ByteArray
 l:List AV
def OZ.at(x:OZ) a:=aa (nth x.ins (ck a x.ds).toNat)
structure Vh where
 x:OZ
 L:RL
 op:Int
 rel:ByteArray
 l:List AV
 u:AT
 v:AT
 e:cI
def Zl(a:Int)(v:AT) g:=bif a != 7 then(cX g v.tm).n else 0
structure Wl(a:Vh):Prop where
 m:Tq a.l (a.x.at a.rel)
 v:a.op≠7->b7 a.v.tm=true
def Vh.Zm(a:Vh):=(Qp a.l (a.x.at a.rel) a.e).map (Zl a.op a.v)
theorem Mr l a e:(Qp l a e).length<=a.length:=List.length_filterMap_le _ _
def Ku m(l:List _):=l.foldl (fun m x=>IntKind.wrap .i64 (m+toInt x)) m
structure ASu where
 a:Vh
 V:List AV
 m:Int
 i:Nat
def Sd(a:Int)(V:List AV):Int:=bif a==7 then V.length else bif a==8 then Ku 0 V else bif (V.length:Int)==0 then 0 else bif a==9 then JB (toInt (nth V 0)) (V.drop 1) else Jz (toInt (nth V 0)) (V.drop 1)
def Yj(a:Int)(V:List AV):=a==7||(a==8|| !(V.length:Int)==0)
structure an0(a:Vh):Prop where
 d:a.x.ds.length<=aU
 f0:0<=ck a.rel a.x.ds
 f1:ck a.rel a.x.ds<a.x.ins.length
 k:Wl a
theorem yf{a}(h:Wl a):(iA a.Zm).length<=100000000:=by
 rw[jf,Vh.Zm,List.length_map];exact Nat.le_trans (Mr _ _ _) h.m.n
structure AHr where
 x:OZ
 L:RL
 e:cI
 i:Nat
def RS(a:List _) e:=a.map fun t=>gz (cX e (dM t).tm)
def EB.aj4(b:EB){f:Nat}{sp:cO}(e:sp.gA)(h: ∀c st K,sp c st K->b.E.call f c st K):EB:=⟨_,b.ok.eX fun a s K d=>b.ok.call _ _ _ _ (h a s K d),b.mono.aB e⟩
def aa6(st:List Dn.Obj)(i:Nat)(k:AV->Prop):Prop:=match au st i with| .box _ a=>k a|_=>False
structure yF where
 x:OZ
 L:RL
 i:Nat
 e:cI
abbrev yF.j(a:yF):=0+Int.toNat a.i
abbrev yF.k(a:yF):=nth (ints a.x.od) a.j
abbrev yF.t(a:yF):=nth a.x.r.bl (toInt a.k).toNat
abbrev yF.rel(a:yF):=toStr (af (af a.t 1) 0)
abbrev yF.l(a:yF):=aa (af (af a.t 1) 1)
abbrev Im(x:AV):AV:= .agg [.int (toInt (af x 0)), .lit (.string (toStr (af x 1))), .int (toInt (af x 2)), .ad 38 (aa (af x 3))]
abbrev yF.lit(a:yF):AV:= .agg [.int (toInt (af a.t 0)),atA a.rel a.l,Im (af a.t 2),Im (af a.t 3)]
def P9(x:OZ):List Nat->cI->RL
 |[],e=>[RS x.r.hl e]
 | k::b,e=>
  let t:=nth x.r.bl k
  let a:=toInt (af t 0)
  let M:=Qp (aa (af (af t 1) 1)) (x.at (toStr (af (af t 1) 0))) e
  let u:=dM (af t 2)
  let v:=dM (af t 3)
  bif a==1 then M.flatMap (P9 x b)
  else bif a==2 then(bif M.isEmpty then P9 x b e else[])
  else bif a==3||(a==4||(a==5||a==6)) then
   (bif a==3&&oM e u then P9 x b (e.put u.s (cX e v.tm))
    else bif a==3&&oM e v then P9 x b (e.put v.s (cX e u.tm))
    else bif qs a (cX e u.tm) (cX e v.tm) then P9 x b e else[])
  else
   let V:=iA (M.map (Zl a v))
   (bif !Yj a V then[]
    else bif oM e u then P9 x b (e.put u.s ⟨false,Sd a V,ByteArray.mk #[]⟩)
    else bif (cX e u.tm).n==Sd a V then P9 x b e else[])
def wI(a:Int):=a==1||(a==2|| !(a==3||(a==4||(a==5||a==6))))
structure aa2(x:OZ)(t:AV):Prop where
 at0:wI (toInt (af t 0))=true->0<=ck (toStr (af (af t 1) 0)) x.ds/\ck (toStr (af (af t 1) 0)) x.ds<x.ins.length
 at1:wI (toInt (af t 0))=true->Tq (aa (af (af t 1) 1)) (x.at (toStr (af (af t 1) 0)))
 u:(toInt (af t 0)==1)=false->(toInt (af t 0)==2)=false->b7 (dM (af t 2)).tm=true
 v:(toInt (af t 0)==1)=false->(toInt (af t 0)==2)=false->toInt (af t 0)≠7->b7 (dM (af t 3)).tm=true
structure Wo(x:OZ):Prop where
 d:x.ds.length<=aU
 n:x.od.length<=100000
 o: ∀k,k∈x.od->k<x.r.bl.length
 h:x.r.hl.length<=100000
 hv: ∀t,t∈x.r.hl->b7 (dM t).tm=true
 t: ∀k,k∈x.od->aa2 x (nth x.r.bl k)
def yF.out(a:yF):=P9 a.x (a.x.od.drop a.i) a.e
structure aa3(a:yF):Prop where
 x:Wo a.x
 i:a.i<=a.x.od.length
 n:a.L.length+a.out.length<=100000000
def M0(a:yF):=Qp a.l (a.x.at a.rel) a.e
def nxG(a:yF):=P9 a.x (a.x.od.drop (a.i+1))
structure aa4(a:yF)(r:Nat):Prop where
 x:Wo a.x
 i:a.i<a.x.od.length
 r:a.x.od.length - a.i=r
 m:Tq a.l (a.x.at a.rel)
 n:a.L.length+((M0 a).flatMap (nxG a)).length<=100000000
def yF.all(a:yF):RL:=(M0 a).flatMap (nxG a)
end Go.Proofs.YtioeffnadipbaaaGreatDoor
namespace Go.Proofs.YtioeffnadipbaaaGreatDoor
open Go Go.Dn Go.Rl Go.Proofs
def JG(v:fI):=bif v.y then v.n=0 else v.s=ByteArray.mk #[]
theorem Ug{v}(h:JG v):Qq (gz v):=⟨rfl,h⟩
def xg(e:cI):=∀x,x∈e->JG x.2
theorem GV: ∀{e s},xg e->JG (e.get s)
 |[],_,_=>rfl
 |(t,w)::e,s,h=>by
  rw[cI.get];cases decide (s=t) with
  |true=>exact h (t,w) (by simp)
  |false=>exact GV fun x a=>h x (by grind)
theorem vu: ∀{e s v},xg e->JG v->xg (e.put s v)
 |[],s,v,_,b,x,a=>by
  grind [cI.put]
 | (t,w)::e,s,v,h,b,x,a=>by
  rw[cI.put] at a;cases c:decide (s=t) with
  |true=>
   rw[c] at a;rcases List.mem_cons.1 a with rfl|a
   ·exact b
   ·exact h x (by grind)
  |false=>
   rw[c] at a;rcases List.mem_cons.1 a with rfl|a
   ·exact h _ (by simp)
   ·exact vu (fun y d=>h y (by simp[d])) b x a
theorem Is{e}(h:xg e): ∀t,JG (cX e t)
 | .mk a s n l=>by
  rw[cX];cases a==1 with
  |true=>exact GV h
  | false=>cases a==2 with
   |true=>rfl
   | false=>cases a==3 with
    |true=>rfl
    |false=>
     unfold WL;split<;>rfl
theorem Qr{a}(h:Bd a) j:JG (uv (nth a j)):=by
 rcases Nat.lt_or_ge j _ with b|b
 ·rw[aJ _ j b]
  exact(h _ (by simp)).2
 ·rw[iF _ j b];rfl
theorem Cx{α β:Type}{f:α->List β}{m}: ∀{l:List _},(∀a,a∈l->(f a).length<=m)->(l.flatMap f).length<=l.length*m
 |[],_=>by simp
 |a::l,h=>by
  have d:=h a (by simp);have e:=Cx (l:=l) fun b c=>h b (by grind)
  rw[List.flatMap_cons,ao6,List.length_cons,Nat.succ_mul];omega
end Go.Proofs.YtioeffnadipbaaaGreatDoor
