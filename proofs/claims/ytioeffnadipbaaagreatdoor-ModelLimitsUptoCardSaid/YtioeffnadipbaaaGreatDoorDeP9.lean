import Derived.Test.YtioeffnadipbaaaGreatDoorDeP8
namespace Go.Proofs.YtioeffnadipbaaaGreatDoor
open Go Go.Dn Go.Rl Go.Proofs
attribute [local irreducible] a7 vc
set_option maxRecDepth 20000
theorem yMu κ N ls fs a b K:(a7 (Xs κ) 12 91 [.ptr 0 0 [] 0, .int a, .int b] (vd N ls fs) K)=(
 letI c:=AV.agg [AV.ak 1 0 N,AV.ak 2 0 fs.length]
 letI d:=AV.bool false
 aq (a==b) (K (AV.bool true) [Obj.box 145 c,Obj.rows 35 3 ls none,Obj.row 101 fs]) (aW (decide ((0:Int)<=a)&&decide (a<(↑(fs.length):Int))) (aq
 (Dn.toBool (cV (List.zip (B7 (nth fs (0+a.toNat))) (xO (nth fs (0+a.toNat)))) (Value.int IntKind.i64 b) d)) (aW (decide ((0:Int)<=b)&&decide (b<
 (↑(fs.length):Int))) (K (AV.bool (Dn.toBool (cV (List.zip (B7 (nth fs (0+b.toNat))) (xO (nth fs (0+b.toNat)))) (Value.int IntKind.i64 a) d))) [Obj.box
 145 c,Obj.rows 35 3 ls none,Obj.row 101 fs])) (K d [Obj.box 145 c,Obj.rows 35 3 ls none,Obj.row 101 fs])))):=by kernel_rfl
theorem IH: ∀l,(l.map gZ).zip (l.map fun _=>AV.lit (.bool true))=iJ l
 |[]=>rfl
 |a::l=>by
  grind [iJ]
theorem D7 n m L(k:Nat)(a:Int)(h0:0<=a)(h:a<k):nth (bw n m L k) (0+a.toNat)=WU (iV n m L a):=by
 rw[Nat.zero_add,aX _ _ (by grind [lq])];simp only[bw,List.getElem_map,List.getElem_range];rfl
theorem Ij n m L(k:Nat)(a b:Int)(h0:0<=a)(h:a<k):Dn.toBool (cV (List.zip (B7 (nth (bw n m L k) (0+a.toNat))) (xO (nth (bw n m L k) (0+a.toNat)))) (Value.int IntKind.i64 b) (AV.lit (Value.bool false)))=(iV n m L a).contains b:=by
 rw[D7 n m L k a h0 h];simp only[B7,xO];rw[IH,mo];rfl
structure VA where
 n:Nat
 m:Nat
 L:Gr
 a:Int
 b:Int
abbrev pq n m L:=vd n (dw L) (bw n m L n)
def Zo(x:VA):List AV×List Dn.Obj:=([.ptr 0 0 [] 0, .int x.a, .int x.b],pq x.n x.m x.L)
def Mj(x:VA):=(0<=x.a/\x.a<x.n)/\0<=x.b/\x.b<x.n
def PF(x:VA):Out (AV×List Dn.Obj):= .one (.bool (ly x.n x.m x.L x.a x.b),pq x.n x.m x.L)
theorem cMu κ:bg (Xs κ) 12 91 (aO Zo Mj PF):=by
 refine aQ ?_;rintro⟨n,m,L,a,b⟩ K ⟨⟨ha,ha'⟩,hb,hb'⟩ ho;refine Eq.mpr (yMu κ n (dw L) (bw n m L n) a b K) ?_;simp only[PF,Out.run,ly,pq,vd,lq] at ho;rw[Ij n m L n a b ha ha',Ij n m L n b a hb hb',lq];simp only[ai,ae,an3,an2,beq_iff_eq]
 grind
noncomputable def P5 κ:=(Xs κ).aw 91 (aO Zo Mj PF)
theorem eMu κ:aE (P5 κ):=(eOf _).aw (mOf _) (cMu _)
theorem mMu κ:aj (P5 κ):=(mOf _).aw aH
theorem xGp κ(N i:Nat) ls fs ws a I n K:(vc (P5 κ) 12 45 none 3 (ad (Pr κ).toProgram 45 3) (sp 25 [(0, .ptr 0 0 [] 0),(1, .int a),(5, .ak 3 0 ws.length),(11, .int N),(12, .int i)] (vd N ls fs++[.row 3 ws])) (bh (P5 κ) 45 3 3 I n K))=(
 letI b:=AV.ptr 0 0 []
 letI c:=AV.int
 letI d:=Obj.box
 letI e:=Obj.row
 letI f:=Obj.rows
 letI g:=AV.ak
 letI k:=IntKind.wrap IntKind.i64 ((↑i:Int)+(1:Int))
 letI l:=AV.agg [g 1 0 N,g 2 0 fs.length]
 aq (decide ((↑i:Int)<(↑N:Int))) (∃(e1:VA),letI h:=bw e1.n e1.m e1.L e1.n;letI j:=AV.agg [g 1 0 e1.n,g 2 0 (List.length h)];([b 0,c a,c (↑i:Int)],[d 145 l,f 35 3 ls none,e 101 fs])=([b 0,c e1.a,c e1.b],[d 145 j,f 35 3 (dw e1.L) none,e 101 h])/\(((0:Int)<=e1.a/\e1.a<(↑(e1.n):Int))/\(0:Int)<=e1.b/\e1.b<(↑(e1.n):Int))/\aq (ly e1.n e1.m e1.L e1.a e1.b) (aW (decide ((ws.length+1+1)*9<=70368744177664)) (∃(e0:Nat),e0<n/\I e0 (sp 25 [(0,b 0),(1,c a),(5,g 3 0 (ws.length+1)),(11,c (↑N:Int)),(12,c k)] [d 145 j,f 35 3 (dw e1.L) none,e 101 h,e 3 (List.take ws.length ws++[c (↑i:Int)])]))) (∃(e0:Nat),e0<n/\I e0 (sp 25 [(0,b 0),(1,c a),(5,g 3 0 ws.length),(11,c (↑N:Int)),(12,c k)] [d 145 j,f 35 3 (dw e1.L) none,e 101 h,e 3 ws]))) (K (Exit.exit 0) (sp 25 [(5,g 3 0 ws.length)] [d 145 l,f 35 3 ls none,e 101 fs,e 3 ws]))):=by kernel_rfl
def wc n m L a i:=(jR i).filter (ly n m L a)
theorem K8 n m L a i:wc n m L a (i+1)=bif ly n m L a i then wc n m L a i++[(i:Int)] else wc n m L a i:=by
 grind [wc,jR,List.range_succ]
theorem CO n m L a i:(wc n m L a i).length<=i:=by
 grind [jR,wc]
structure SL where
 n:Nat
 m:Nat
 L:Gr
 a:Int
 i:Nat
abbrev Qq(x:SL):=sp 25 [(0, .ptr 0 0 [] 0),(1, .int x.a),(5, .ak 3 0 (iA (wc x.n x.m x.L x.a x.i)).length),(11, .int x.n),(12, .int x.i)] (pq x.n x.m x.L++[.row 3 (iA (wc x.n x.m x.L x.a x.i))])
def L6(x:SL):=(0<=x.a/\x.a<x.n)/\x.i<=x.n/\x.n<=60
def TD(x:SL):Out (Exit×S):= .one (.exit 0,sp 25 [(5, .ak 3 0 (iA (iy x.n x.m x.L x.a)).length)] (pq x.n x.m x.L++[.row 3 (iA (iy x.n x.m x.L x.a))]))
theorem lGp κ:aR (P5 κ) 12 45 3 (aG 3 Qq L6 TD):=by
 refine aD (fun x=>x.n - x.i) ?_;rintro⟨n,m,L,a,i⟩ K ⟨ha,hi,hn⟩ ho;simp only at ha hi hn;rw[show(P5 κ).P=Pr κ from rfl];refine Eq.mpr (xGp κ n i (dw L) (bw n m L n) (iA (wc n m L a i)) a _ _ K) ?_;have hl:=CO n m L a i;rw[ae,an2,an4];refine⟨fun h=>⟨⟨n,m,L,a,i⟩,rfl,⟨ha,by simp only;omega,h⟩,?_⟩,fun h=>?_⟩
 ·rw[az (n:=(i:Int)+1) (by omega) (by omega),ae,ai,an2,List.take_length]
  have hs:=K8 n m L a i;refine⟨fun e=>⟨by rw[jm];omega,_,?_,⟨n,m,L,a,i+1⟩,?_,⟨ha,by simp only;omega,hn⟩,rfl,ho⟩,fun e=>⟨_,?_,⟨n,m,L,a,i+1⟩,?_,⟨ha,by simp only;omega,hn⟩,rfl,ho⟩⟩
  ·simp only;omega
  ·simp only at e
   rw[e,an9] at hs;simp only[Qq,hs,wA,ao7];rfl
  ·simp only;omega
  ·simp only at e
   rw[e,an7] at hs;simp only[Qq,hs];rfl
 ·obtain rfl:n=i:=by omega
  exact ho
noncomputable def EGp κ:=(P5 κ).an 45 3 (aG 3 Qq L6 TD)
theorem eGp κ:aE (EGp κ):=(eMu _).an (mMu _) (lGp _)
theorem mGp κ:aj (EGp κ):=(mMu _).an aI
theorem yGp κ N ls fs a K:(a7 (EGp κ) 12 45 [.ptr 0 0 [] 0, .int a] (vd N ls fs) K)=(
 letI b:=AV.int
 letI c:=Obj.row
 letI d:=AV.ak
 letI f:=Pg.toProgram (Env.P (P5 κ))
 ad f 45 3=ad f 45 3/\∃(e0:SL),letI e:=bw e0.n e0.m e0.L e0.n;letI g:=AV.agg [d 1 0 e0.n,d 2 0 (List.length e)];letI h:=iA (wc e0.n e0.m e0.L e0.a e0.i);letI i:=iA (iy e0.n e0.m e0.L e0.a);sp 25 [(0,AV.ptr 0 0 [] 0),(1,b a),(5,d 3 0 0),(11,b (↑N:Int)),(12,b 0)] [Obj.box 145 (AV.agg [d 1 0 N,d 2 0 fs.length]),Obj.rows 35 3 ls none,c 101 fs,c 3 []]=sp 25 [(0,AV.ptr 0 0 [] 0),(1,b e0.a),(5,d 3 0 (List.length h)),(11,b (↑(e0.n):Int)),(12,b (↑(e0.i):Int))] [Obj.box 145 g,Obj.rows 35 3 (dw e0.L) none,c 101 e,c 3 h]/\(((0:Int)<=e0.a/\e0.a<(↑(e0.n):Int))/\e0.i<=e0.n/\e0.n<=60)/\K (AV.ah 3 (List.take (List.length i) (List.drop 0 i))) [Obj.box 145 g,Obj.rows 35 3 (dw e0.L) none,c 101 e]):=by kernel_rfl
def ZH(x:SL):List AV×List Dn.Obj:=([.ptr 0 0 [] 0, .int x.a],pq x.n x.m x.L)
def Mb(x:SL):=(0<=x.a/\x.a<x.n)/\x.n<=60
def TX(x:SL):Out (AV×List Dn.Obj):= .one (.ah 3 (iA (iy x.n x.m x.L x.a)),pq x.n x.m x.L)
theorem cGq κ:bg (EGp κ) 12 45 (aO ZH Mb TX):=by
 refine aQ ?_;rintro⟨n,m,L,a,i⟩ K ⟨ha,hn⟩ ho;refine Eq.mpr (yGp _ n _ _ a K) ?_;refine⟨rfl,⟨n,m,L,a,0⟩,rfl,by grind,?_⟩;rw[ao2,List.take_length];exact ho
noncomputable def R0 κ:=(EGp κ).aw 45 (aO ZH Mb TX)
theorem eGq κ:aE (R0 κ):=(eGp _).aw (mGp _) (cGq _)
theorem mGq κ:aj (R0 κ):=(mGp _).aw aH
theorem xNi κ(N:Nat) a ls fs es ks met vs I n K:(vc (R0 κ) 12 44 none 4 (ad (Pr κ).toProgram 44 6) (sp 43 [(0, .ptr 0 0 [] 0),(1, .mp 3),(5, .int a),(11, .int N),(12, .int a),(25, .ptr 4 0 [] 0)] (vd N ls fs++[.map 3 4 es, .fit 3 4 ks vs met])) (bh (R0 κ) 44 6 4 I n K))=(
 letI b:=AV.ptr 0 0 []
 letI c:=AV.int
 letI d:=Obj.box
 letI e:=Obj.row
 letI f:=Obj.rows
 letI g:=Dn.Obj.map
 letI i:=AV.agg [AV.ak 1 0 N,AV.ak 2 0 fs.length]
 (∀(e3:Int) (e2:AV),List.Mem (Value.int IntKind.i64 e3,e2) (List.zip ks vs)->ku met (Value.int IntKind.i64 e3)=false->aq (!Dn.toBool (cV es (Value.int IntKind.i64 e3) (AV.bool false))) (∃(e1:VA),letI h:=bw e1.n e1.m e1.L e1.n;letI j:=AV.agg [AV.ak 1 0 e1.n,AV.ak 2 0 (List.length h)];([b 0,c a,c e3],[d 145 i,f 35 3 ls none,e 101 fs])=([b 0,c e1.a,c e1.b],[d 145 j,f 35 3 (dw e1.L) none,e 101 h])/\(((0:Int)<=e1.a/\e1.a<(↑(e1.n):Int))/\(0:Int)<=e1.b/\e1.b<(↑(e1.n):Int))/\aq (!ly e1.n e1.m e1.L e1.a e1.b) (K (Exit.exit 1) (sp 43 [(0,b 0),(1,AV.mp 3),(11,c (↑N:Int)),(12,c a)] [d 145 j,f 35 3 (dw e1.L) none,e 101 h,g 3 4 es])) (∃(e0:Nat),e0<n/\I e0 (sp 43 [(0,b 0),(1,AV.mp 3),(5,c a),(11,c (↑N:Int)),(12,c a),(25,AV.ptr 4 0 [] 0)] [d 145 j,f 35 3 (dw e1.L) none,e 101 h,g 3 4 es,Obj.fit 3 4 ks vs (Value.int IntKind.i64 e3::met)]))) (∃(e0:Nat),e0<n/\I e0 (sp 43 [(0,b 0),(1,AV.mp 3),(5,c a),(11,c (↑N:Int)),(12,c a),(25,AV.ptr 4 0 [] 0)] [d 145 i,f 35 3 ls none,e 101 fs,g 3 4 es,Obj.fit 3 4 ks vs (Value.int IntKind.i64 e3::met)])))/\(ky met (List.zip ks vs)=true->K (Exit.exit 2) (sp 43 [(5,c a)] [d 145 i,f 35 3 ls none,e 101 fs,g 3 4 es]))):=by kernel_rfl
theorem K6 n i(h:i<n):(jR n).drop i=(i:Int)::(jR n).drop (i+1):=by
 grind [List.drop_eq_getElem_cons,jR]
def yG n m L done i:=(((jR n).drop i).find? (kk n m L done)).getD (-1)
theorem JU{n} m L done{i}(h:i<n):yG n m L done i=bif kk n m L done i then(i:Int) else yG n m L done (i+1):=by
 grind [yG,K6]
theorem OF n m L done:yG n m L done n= -1:=by
 grind [yG,List.drop_eq_nil_of_le,jR]
structure IK where
 n:Nat
 m:Nat
 L:Gr
 done:List Int
 i:Nat
 met:List Value
def wj(x:IK):=(iV x.n x.m x.L x.i).all fun b=>x.done.contains b||ly x.n x.m x.L x.i b
abbrev R7(x:IK):S:=sp 43 [(0, .ptr 0 0 [] 0),(1, .mp 3),(5, .int x.i),(11, .int x.n),(12, .int x.i),(25, .ptr 4 0 [] 0)] (pq x.n x.m x.L++[.map 3 4 (iJ x.done), .fit 3 4 ((iV x.n x.m x.L x.i).map gZ) ((iV x.n x.m x.L x.i).map fun _=> .lit (.bool true)) x.met])
def FE(x:IK):=WG x.n x.m x.L/\x.i<x.n/\∀b,ku x.met (gZ b)=true->b∈iV x.n x.m x.L x.i->(x.done.contains b||ly x.n x.m x.L x.i b)=true
def IC(x:IK):Out (Exit×S):= .aq (wj x)
 (.one (.exit 2,sp 43 [(5, .int x.i)] (pq x.n x.m x.L++[.map 3 4 (iJ x.done)])))
 (.one (.exit 1,sp 43 [(0, .ptr 0 0 [] 0),(1, .mp 3),(11, .int x.n),(12, .int x.i)] (pq x.n x.m x.L++[.map 3 4 (iJ x.done)])))
theorem vJ c b met:ku (gZ c::met) (gZ b)=(decide (c=b)||ku met (gZ b)):=rfl
theorem CV: ∀{l met},ky met (iJ l)=true->∀b,b∈l->ku met (gZ b)=true
 |[],_,_,b,hb=>nomatch hb
 |a::l,met,h,b,hb=>by
  simp[iJ,ky] at h;rcases List.mem_cons.1 hb with rfl|hb
  ·grind
  ·exact CV  h.2 b hb
theorem Rr{x v l}(h:(gZ x,v)∈iJ l):x∈l:=by
 obtain⟨k,h1,h2⟩:=List.mem_map.1 h
 grind
theorem lNi κ:aR (R0 κ) 12 44 6 (aG 4 R7 FE IC):=by
 refine aD (fun x=>(iV x.n x.m x.L x.i).countP fun b=>!ku x.met (gZ b)) ?_;rintro⟨n,m,L,done,i,met⟩ K ⟨hG,hi,hm⟩ ho;simp only at hG hi hm;rw[show(R0 κ).P=Pr κ from rfl];refine Eq.mpr (xNi κ n i (dw L) (bw n m L n) (iJ done) ((iV n m L i).map gZ) met ((iV n m L i).map fun _=> .lit (.bool true)) _ _ K) ?_;have hi0:(0:Int)<=i:=by omega
 have ho2:=ho;simp only[IC,Out.run,ae] at ho2;rw[IH];refine⟨fun b v hbv hb=>?_,fun hs=>?_⟩
 ·have hf:b∈iV n m L i:=Rr hbv
  have hr:=Rc.lF hG hi0 ((RD hG hi0).1 hf);have hn:(done.contains b||ly n m L i b)=true->∃k,k<(iV n m L i).countP (fun b=>!ku met (gZ b))/\ei R7 FE IC (fun x=>(iV x.n x.m x.L x.i).countP fun b=>!ku x.met (gZ b)) K k (R7 ⟨n,m,L,done,i,gZ b::met⟩):=fun hok=>by
   refine⟨_,?_,⟨n,m,L,done,i,gZ b::met⟩,rfl,⟨hG,hi,fun c hc hcf=>?_⟩,rfl,ho⟩
   ·refine pT (fun c _ hc=>?_) ⟨b,hf,?_,?_⟩
    ·rw[vJ] at hc
     cases h:ku met (gZ c) with
     |true=>rw[h] at hc;simp at hc
     |false=>rfl
    ·simp only[gZ] at hb⊢;rw[hb];rfl
    ·rw[vJ];simp
   ·rw[vJ] at hc
    by_cases e:b=c
    ·subst e;exact hok
    ·rw[an6 e,Bool.false_or] at hc
     exact hm c hc hcf
  have hg:Dn.toBool (cV (iJ done) (Value.int IntKind.i64 b) (AV.lit (Value.bool false)))=done.contains b:=by rw[mo];rfl
  rw[hg];simp only[ae];refine⟨fun e=>⟨⟨n,m,L,i,b⟩,rfl,⟨⟨hi0,by simp only;omega⟩,hr⟩,fun e2=>?_,fun e2=>?_⟩,fun e=>?_⟩
  ·have h1:wj ⟨n,m,L,done,i,met⟩=false:=by
    rw[←Bool.not_eq_true,wj,List.all_eq_true];intro h;have:=h b hf
    simp only at this e2 e;rw[ao5] at this;rcases this with h|h
    ·rw[h] at e;cases e
    ·rw[h] at e2;cases e2
   exact ho2.2 h1
  ·exact hn (by simp only at e2⊢;rw[ao5];right;simpa using e2)
  ·exact hn (by rw[ao5];left;simpa using e)
 ·have h1:wj ⟨n,m,L,done,i,met⟩=true:=by
   rw[wj,List.all_eq_true];exact fun b hb=>hm b (CV hs b hb) hb
  exact ho2.1 h1
noncomputable def Gj κ:=(R0 κ).an 44 6 (aG 4 R7 FE IC)
theorem eNi κ:aE (Gj κ):=(eGq _).an (mGq _) (lNi _)
theorem mNi κ:aj (Gj κ):=(mGq _).an aI
theorem xNx κ(N i:Nat) ls fs es I n K:(vc (Gj κ) 12 44 none 4 (ad (Pr κ).toProgram 44 2) (sp 43 [(0, .ptr 0 0 [] 0),(1, .mp 3),(11, .int N),(12, .int i)] (vd N ls fs++[.map 3 4 es])) (bh (Gj κ) 44 2 4 I n K))=(
 letI a:=IntKind.wrap IntKind.i64
 letI b:=AV.ptr 0 0 []
 letI c:=AV.int
 letI d:=Obj.box
 letI e:=Obj.row
 letI f:=Obj.rows
 letI g:=Dn.Obj.map
 letI h:=AV.agg [AV.ak 1 0 N,AV.ak 2 0 fs.length]
 letI k:=Pg.toProgram (Env.P (R0 κ))
 aq (decide ((↑i:Int)<(↑N:Int))) (aq (Dn.toBool (cV es (Value.int IntKind.i64 (↑i:Int)) (AV.bool false))) (∃(e0:Nat),e0<n/\I e0 (sp 43 [(0,b 0),(1,AV.mp 3),(11,c (↑N:Int)),(12,c (a ((↑i:Int)+(1:Int))))] [d 145 h,f 35 3 ls none,e 101 fs,g 3 4 es])) (aW (true&&decide ((↑i:Int)<(↑(fs.length):Int))) (ad k 44 6=ad k 44 6/\∃(e1:IK),letI j:=bw e1.n e1.m e1.L e1.n;letI l:=AV.agg [AV.ak 1 0 e1.n,AV.ak 2 0 (List.length j)];letI m:=[d 145 l,f 35 3 (dw e1.L) none,e 101 j,g 3 4 (iJ e1.done)];sp 43 [(0,b 0),(1,AV.mp 3),(5,c (↑i:Int)),(11,c (↑N:Int)),(12,c (↑i:Int)),(25,AV.ptr 4 0 [] 0)] [d 145 h,f 35 3 ls none,e 101 fs,g 3 4 es,Obj.fit 3 4 (B7 (nth fs (0+Int.toNat (↑i:Int)))) (xO (nth fs (0+Int.toNat (↑i:Int)))) []]=sp 43 [(0,b 0),(1,AV.mp 3),(5,c (↑(e1.i):Int)),(11,c (↑(e1.n):Int)),(12,c (↑(e1.i):Int)),(25,AV.ptr 4 0 [] 0)] [d 145 l,f 35 3 (dw e1.L) none,e 101 j,g 3 4 (iJ e1.done),Obj.fit 3 4 (List.map gZ (iV e1.n e1.m e1.L (↑(e1.i):Int))) (List.map (fun(_e0:Int)=>AV.bool true) (iV e1.n e1.m e1.L (↑(e1.i):Int))) e1.met]/\(WG e1.n e1.m e1.L/\e1.i<e1.n/\∀(e0:Int),ku e1.met (Value.int IntKind.i64 e0)=true->List.Mem e0 (iV e1.n e1.m e1.L (↑(e1.i):Int))->(List.contains e1.done e0||ly e1.n e1.m e1.L (↑(e1.i):Int) e0)=true)/\aq (wj e1) (K Exit.ret (sp 43 [(4,c (↑(e1.i):Int))] m)) (∃(e0:Nat),e0<n/\I e0 (sp 43 [(0,b 0),(1,AV.mp 3),(11,c (↑(e1.n):Int)),(12,c (a ((↑(e1.i):Int)+(1:Int))))] m))))) (K (Exit.exit 0) (sp 43 [] [d 145 h,f 35 3 ls none,e 101 fs,g 3 4 es]))):=by kernel_rfl
abbrev Qk(x:IK):=sp 43 [(0, .ptr 0 0 [] 0),(1, .mp 3),(11, .int x.n),(12, .int x.i)] (pq x.n x.m x.L++[.map 3 4 (iJ x.done)])
def Fp(x:IK):=WG x.n x.m x.L/\x.i<=x.n/\x.n<=60
def Dr(x:IK):Out (Exit×S):= .aq (decide (yG x.n x.m x.L x.done x.i<0))
 (.one (.exit 0,sp 43 [] (pq x.n x.m x.L++[.map 3 4 (iJ x.done)])))
 (.one (.ret,sp 43 [(4, .int (yG x.n x.m x.L x.done x.i))] (pq x.n x.m x.L++[.map 3 4 (iJ x.done)])))
theorem BE n m L done(i:Nat) met:kk n m L done i=(!done.contains i&&wj ⟨n,m,L,done,i,met⟩):=rfl
theorem lNx κ:aR (Gj κ) 12 44 2 (aG 4 Qk Fp Dr):=by
 refine aD (fun x=>x.n - x.i) ?_;rintro⟨n,m,L,done,i,met⟩ K ⟨hG,hi,hn⟩ ho;simp only at hG hi hn;rw[show(Gj κ).P=Pr κ from rfl];refine Eq.mpr (xNx κ n i (dw L) (bw n m L n) (iJ done) _ _ K) ?_;have ho2:=ho;simp only[Dr,Out.run,ae] at ho2;have hg:Dn.toBool (cV (iJ done) (Value.int IntKind.i64 i) (AV.lit (Value.bool false)))=done.contains (i:Int):=by rw[mo];rfl
 rw[hg,ae,an2,an4];refine⟨fun h=>?_,fun h=>?_⟩
 ·have hi':i<n:=by omega
  have hs:=JU m L done hi';have next:kk n m L done i=false->∃k,k<n - i/\ei Qk Fp Dr (fun x=>x.n - x.i) K k (Qk ⟨n,m,L,done,i+1,[]⟩):=fun e=>by
   rw[e,an7] at hs;refine⟨_,?_,⟨n,m,L,done,i+1,[]⟩,rfl,⟨hG,hi',hn⟩,rfl,?_⟩
   ·simp only;omega
   ·simp only[Dr,Out.run,←hs];exact ho
  rw[ae];refine⟨fun e=>?_,fun e=>?_⟩
  ·rw[az (n:=(i:Int)+1) (by omega) (by omega)]
   exact next (by rw[BE n m L done i [],e];rfl)
  ·rw[ai,ao8,an2,lq,D7 n m L n i (by omega) h]
   refine⟨h,rfl,⟨n,m,L,done,i,[]⟩,?_,⟨hG,hi',fun b hb=>(nomatch hb)⟩,?_⟩
   ·simp only[lq]
    rfl
   ·rw[ae]
    refine⟨fun e2=>?_,fun e2=>?_⟩
    ·have hf:kk n m L done i=true:=by rw[BE n m L done i [],e,e2];rfl
     rw[hf,an9] at hs;have:=ho2.2 (by rw[hs,an4];omega)
     rw[hs] at this;exact this
    ·rw[az (n:=(i:Int)+1) (by omega) (by omega)]
     exact next (by rw[BE n m L done i [],e2,Bool.and_false])
 ·obtain rfl:i=n:=by omega
  rw[OF] at ho2;exact ho2.1 rfl
theorem xNz κ ls es I n K:(vc (Gj κ) 12 44 none 3 (ad (Pr κ).toProgram 44 2) (sp 43 [(0, .ptr 0 0 [] 0),(1, .mp 2),(11, .int 0),(12, .int 0)] (yO 0 ls++[.map 3 4 es])) (bh (Gj κ) 44 2 3 I n K))=(
 K (Exit.exit 0) (sp 43 [] [Obj.box 145 (AV.agg [AV.ak 1 0 0,AV.nil]),Obj.rows 35 3 ls none,Dn.Obj.map 3 4 es])):=by kernel_rfl
structure Sg where
 ls:List (List Value)
 es:List (Value×AV)
abbrev ac0(x:Sg):=sp 43 [(0, .ptr 0 0 [] 0),(1, .mp 2),(11, .int 0),(12, .int 0)] (yO 0 x.ls++[.map 3 4 x.es])
def Tx(x:Sg):Out (Exit×S):= .one (.exit 0,sp 43 [] (yO 0 x.ls++[.map 3 4 x.es]))
theorem lNz(κ:Kp):aR (Gj κ) 12 44 2 (aG 3 ac0 (fun _=>True) Tx):=by
 refine aD (fun _=>0) ?_;rintro⟨ls,es⟩ K _ ho;rw[show(Gj κ).P=Pr κ from rfl];exact Eq.mpr (xNz κ ls es _ _ K) ho
def Za(s:S):Bool:=Nat.beq s.st.length 4
noncomputable def V7(κ:Kp):Env:=(Gj κ).an 44 2 (rK Za (aG 4 Qk Fp Dr) (aG 3 ac0 (fun _=>True) Tx))
theorem eNx(κ:Kp):aE (V7 κ):=(eNi κ).an (mNi κ) (oR (lNx κ) (lNz κ))
theorem mNx(κ:Kp):aj (V7 κ):=(mNi κ).an (k9 aI aI)
theorem yNx(κ:Kp)(N:Nat)(ls:List (List Value))(fs:List AV)(es:List (Value×AV))(K:AV->List Dn.Obj->Prop):(a7 (V7 κ) 12 44 [.ptr 0 0 [] 0, .mp 3] (vd N ls fs++[.map 3 4 es]) K)=(
 letI b:=AV.int
 ad (Pg.toProgram (Env.P (Gj κ))) 44 2=ad (Pg.toProgram (Env.P (Gj κ))) 44 2/\∃(a:IK),letI c:=[Obj.box 145 (AV.agg [AV.ak 1 0 a.n,AV.ak 2 0 (List.length (bw a.n a.m a.L a.n))]),Obj.rows 35 3 (dw a.L) none,Obj.row 101 (bw a.n a.m a.L a.n),Dn.Obj.map 3 4 (iJ a.done)];sp 43 [(0,AV.ptr 0 0 [] 0),(1,AV.mp 3),(11,b (↑N:Int)),(12,b 0)] [Obj.box 145 (AV.agg [AV.ak 1 0 N,AV.ak 2 0 fs.length]),Obj.rows 35 3 ls none,Obj.row 101 fs,Dn.Obj.map 3 4 es]=sp 43 [(0,AV.ptr 0 0 [] 0),(1,AV.mp 3),(11,b (↑(a.n):Int)),(12,b (↑(a.i):Int))] c/\(WG a.n a.m a.L/\a.i<=a.n/\a.n<=60)/\aq (decide (yG a.n a.m a.L a.done a.i<(0:Int))) (K (b (-1)) c) (K (b (yG a.n a.m a.L a.done a.i)) c)):=by kernel_rfl
def Zm(x:IK):List AV×List Dn.Obj:=([.ptr 0 0 [] 0, .mp 3],pq x.n x.m x.L++[.map 3 4 (iJ x.done)])
def M9(x:IK):Prop:=WG x.n x.m x.L/\x.n<=60
def LJ(x:IK):Out (AV×List Dn.Obj):= .one (.int (gR x.n x.m x.L x.done),pq x.n x.m x.L++[.map 3 4 (iJ x.done)])
theorem Qt(n m:Nat)(L:Gr)(done:List Int)(h:gR n m L done<0):gR n m L done= -1:=by
 unfold gR at h⊢;cases e:(jR n).find? (kk n m L done) with
 |none=>rfl
 |some a=>
  rw[e] at h;have:=(pk.1 (List.mem_of_find?_eq_some e)).1
  simp only[Option.getD_some] at h;omega
theorem cNy(κ:Kp):bg (V7 κ) 12 44 (aO Zm M9 LJ):=by
 refine aQ ?_;rintro⟨n,m,L,done,i,met⟩ K ⟨hG,hn⟩ ho;refine Eq.mpr (yNx κ n (dw L) (bw n m L n) (iJ done) K) ?_;refine⟨rfl,⟨n,m,L,done,0,[]⟩,rfl,⟨hG,Nat.zero_le _,hn⟩,?_⟩;simp only[LJ,Out.run] at ho;rw[show yG n m L done 0=gR n m L done from rfl,ae];refine⟨fun e=>?_,fun _=>ho⟩;rw[Qt n m L done (of_decide_eq_true e)] at ho;exact ho
theorem yNz(κ:Kp)(ls:List (List Value))(es:List (Value×AV))(K:AV->List Dn.Obj->Prop):(a7 (V7 κ) 12 44 [.ptr 0 0 [] 0, .mp 2] (yO 0 ls++[.map 3 4 es]) K)=(
 letI a:=AV.int
 letI b:=AV.agg [AV.ak 1 0 0,AV.nil]
 letI c:=Pg.toProgram (Env.P (Gj κ))
 ad c 44 2=ad c 44 2/\∃(e0:Sg),letI d:=[Obj.box 145 b,Obj.rows 35 3 e0.ls none,Dn.Obj.map 3 4 e0.es];sp 43 [(0,AV.ptr 0 0 [] 0),(1,AV.mp 2),(11,a 0),(12,a 0)] [Obj.box 145 b,Obj.rows 35 3 ls none,Dn.Obj.map 3 4 es]=sp 43 [(0,AV.ptr 0 0 [] 0),(1,AV.mp 2),(11,a 0),(12,a 0)] d/\True/\K (a (-1)) d):=by kernel_rfl
def Zr(x:Sg):List AV×List Dn.Obj:=([.ptr 0 0 [] 0, .mp 2],yO 0 x.ls++[.map 3 4 x.es])
def S9(x:Sg):Out (AV×List Dn.Obj):= .one (.int (-1),yO 0 x.ls++[.map 3 4 x.es])
theorem cNw(κ:Kp):bg (V7 κ) 12 44 (aO Zr (fun _=>True) S9):=by
 refine aQ ?_;rintro⟨ls,es⟩ K _ ho;refine Eq.mpr (yNz κ ls es K) ?_;exact⟨rfl,⟨ls,es⟩,rfl,trivial,ho⟩
def Yp(st:List Dn.Obj):Bool:=Nat.beq st.length 4
noncomputable def Xz(κ:Kp):Env:=(V7 κ).aw 44 (GY Yp (aO Zm M9 LJ) (aO Zr (fun _=>True) S9))
theorem eNy(κ:Kp):aE (Xz κ):=(eNx κ).aw (mNx κ) (BW (cNy κ) (cNw κ))
theorem mNy(κ:Kp):aj (Xz κ):=(mNx κ).aw (sR aH aH)
def RS(op:Int):List AV×List Dn.Obj:=([.int op],[])
def T7(op:Int):Out (AV×List Dn.Obj):= .one (.bool (jC op),[])
def L7(op:Int):Out (AV×List Dn.Obj):= .one (.bool (jh op),[])
def Ar(_:Int):Prop:=True
theorem yIa κ op K:(a7 (Xz κ) 12 90 [.int op] [] K)=(
 K (AV.bool (op==(1:Int))) []):=by kernel_rfl
theorem cIa κ:bg (Xz κ) 12 90 (aO RS Ar T7):=by
 refine aQ ?_;rintro op K _ ho;refine Eq.mpr (yIa _ _ K) ?_;exact ho
noncomputable def YW κ:=(Xz κ).aw 90 (aO RS Ar T7)
theorem eIa κ:aE (YW κ):=(eNy _).aw (mNy _) (cIa _)
theorem mIa κ:aj (YW κ):=(mNy _).aw aH
theorem yIb κ op K:(a7 (YW κ) 12 88 [.int op] [] K)=(
 aq (op==(2:Int)) (K (AV.bool true) []) (K (AV.bool (decide (op>=(7:Int)))) [])):=by kernel_rfl
theorem cIb κ:bg (YW κ) 12 88 (aO RS Ar L7):=by
 refine aQ ?_;rintro op K _ ho;refine Eq.mpr (yIb _ _ K) ?_;simp[L7,jh] at ho;rw[W2];cases h:decide (op=2)<;>rw[h] at ho<;>exact ho
noncomputable def GN κ:=(YW κ).aw 88 (aO RS Ar L7)
theorem eIb κ:aE (GN κ):=(eIa _).aw (mIa _) (cIb _)
theorem mIb κ:aj (GN κ):=(mIa _).aw aH
structure H9 where
 n:Nat
 m:Nat
 L:Gr
 ds:List AV
 rs:List AV
 a:dh
 h:Int
def kP(isf:Int->Bool) n m L ds h(bl:List _):=bl.any fun l=>isf (toInt (af l 0))&&ly n m L h (bH (toStr (af (af l 1) 0)) ds)
def tX(isf:Int->Bool)(x:H9):=(0<=x.h/\x.h<x.n)/\x.ds.length<=aU/\x.a.bl.length<=aU/\0<=x.a.i/\x.a.i<=x.a.bl.length/\∀l,l∈x.a.bl->isf (toInt (af l 0))=true->0<=bH (toStr (af (af l 1) 0)) x.ds/\bH (toStr (af (af l 1) 0)) x.ds<x.n
def Aj(isf:Int->Bool)(x:H9):=x.h=bH x.a.rel x.ds/\(0<=x.h/\x.h<x.n)/\x.ds.length<=aU/\x.a.bl.length<=aU/\∀l,l∈x.a.bl->isf (toInt (af l 0))=true->0<=bH (toStr (af (af l 1) 0)) x.ds/\bH (toStr (af (af l 1) 0)) x.ds<x.n
theorem xAa(κ:Kp)(N:Nat) ls ds rs fs(a:dh)(h:Int) I n K:(vc (GN κ) 12 168 none 8 (ad (Pr κ).toProgram 168 2) (sp 19 [(0, .ah 80 a.bl),(1, .bm 134 [.ptr 4 0 [] 0, .ptr 6 0 [] 0, .ptr 3 0 [] 0, .ptr 7 0 [] 0]),(7, .int a.bl.length),(8, .int a.i)] (vd N ls fs++[.box 99 (.ptr 0 0 [] 0), .box 25 (fq ds rs), .box 48 (au a), .box 152 (.bm 90 []), .box 3 (.int h)])) (bh (GN κ) 168 2 8 I n K))=(
 letI b:=AV.ptr 0 0 []
 letI c:=AV.int
 letI d:=AV.ptr
 letI e:=Obj.box
 letI f:=Obj.row
 letI g:=Obj.rows
 letI i:=AV.ah
 letI k:=AV.agg [i 43 ds,i 48 rs]
 letI l:=AV.agg [AV.ak 1 0 N,AV.ak 2 0 fs.length]
 letI m:=b 0
 letI q:=IntKind.wrap IntKind.i64 (a.i+(1:Int))
 letI j:=a.bl.length
 letI o:=AV.bm 90 []
 aq (decide (a.i<(↑j:Int))) (aW (decide ((0:Int)<=a.i)&&decide (a.i<(↑j:Int))) (∃(e3:List AV×ByteArray),([i 43 ds,AV.str (toStr (af (af (nth a.bl a.i.toNat) 1) 0))],aL)=([i 43 e3.1,AV.str e3.2],aL)/\iD e3/\∃(e2:Int),([c (toInt (af (nth a.bl a.i.toNat) 0))],aL)=([c e2],aL)/\True/\aq (jC e2) (∃(e1:VA),letI p:=bw e1.n e1.m e1.L e1.n;letI r:=AV.agg [AV.ak 1 0 e1.n,AV.ak 2 0 (List.length p)];letI s:=[e 145 r,g 35 3 (dw e1.L) none,f 101 p,e 99 m,e 25 k,e 48 (au a),e 152 o,e 3 (c h)];([b 0,c h,c (bH e3.2 e3.1)],[e 145 l,g 35 3 ls none,f 101 fs])=([b 0,c e1.a,c e1.b],[e 145 r,g 35 3 (dw e1.L) none,f 101 p])/\(((0:Int)<=e1.a/\e1.a<(↑(e1.n):Int))/\(0:Int)<=e1.b/\e1.b<(↑(e1.n):Int))/\aq (ly e1.n e1.m e1.L e1.a e1.b) (K Exit.ret (sp 19 [(4,c a.i)] s)) (∃(e0:Nat),e0<n/\I e0 (sp 19 [(0,i 80 a.bl),(1,AV.bm 134 [d 4 0 [] 0,d 6 0 [] 0,d 3 0 [] 0,d 7 0 [] 0]),(7,c (↑j:Int)),(8,c q)] s))) (∃(e0:Nat),e0<n/\I e0 (sp 19 [(0,i 80 a.bl),(1,AV.bm 134 [d 4 0 [] 0,d 6 0 [] 0,d 3 0 [] 0,d 7 0 [] 0]),(7,c (↑j:Int)),(8,c q)] [e 145 l,g 35 3 ls none,f 101 fs,e 99 m,e 25 k,e 48 (au a),e 152 o,e 3 (c h)])))) (K (Exit.exit 0) (sp 19 [] [e 145 l,g 35 3 ls none,f 101 fs,e 99 m,e 25 k,e 48 (au a),e 152 o,e 3 (c h)]))):=by kernel_rfl
abbrev RY(x:H9):=sp 19 [(0, .ah 80 x.a.bl),(1, .bm 134 [.ptr 4 0 [] 0, .ptr 6 0 [] 0, .ptr 3 0 [] 0, .ptr 7 0 [] 0]),(7, .int x.a.bl.length),(8, .int x.a.i)] (vd x.n (dw x.L) (bw x.n x.m x.L x.n)++[.box 99 (.ptr 0 0 [] 0), .box 25 (fq x.ds x.rs), .box 48 (au x.a), .box 152 (.bm 90 []), .box 3 (.int x.h)])
def Hx(x:H9):Out (Exit×S):= .all (fun j:Int=>0<=j) fun j=> .aq (kP jC x.n x.m x.L x.ds x.h (x.a.bl.drop x.a.i.toNat))
 (.one (.ret,sp 19 [(4, .int j)] (pq x.n x.m x.L++[.box 99 (.ptr 0 0 [] 0), .box 25 (fq x.ds x.rs), .box 48 (au x.a), .box 152 (.bm 90 []), .box 3 (.int x.h)])))
 (.one (.exit 0,sp 19 [] (pq x.n x.m x.L++[.box 99 (.ptr 0 0 [] 0), .box 25 (fq x.ds x.rs), .box 48 (au x.a), .box 152 (.bm 90 []), .box 3 (.int x.h)])))
theorem lAa κ:aR (GN κ) 12 168 2 (aG 8 RY (tX jC) Hx):=by
 refine aD (fun x=>x.a.bl.length - x.a.i.toNat) ?_;rintro⟨n,m,L,ds,rs,⟨xs,more,rel,hl,bl,line,i⟩,h⟩ K ⟨hh,hd,hb,h0,h1,hm⟩ ho;simp only at hh hd hb h0 h1 hm;rw[show(GN κ).P=Pr κ from rfl];refine Eq.mpr (xAa κ n (dw L) ds rs (bw n m L n) ⟨xs,more,rel,hl,bl,line,i⟩ h _ _ K) ?_;simp only[aU] at hb;rw[ae,ai,an3,an2,an2,an4];refine⟨fun hi=>⟨⟨h0,hi⟩,(ds,toStr (af (af (nth bl i.toNat) 1) 0)),rfl,hd,toInt (af (nth bl i.toNat) 0),rfl,trivial,?_⟩,fun hi=>?_⟩
 ·have hi:i<(bl.length:Int):=hi
  have hk:i.toNat<bl.length:=by omega
  have hx:nth bl i.toNat∈bl:=by rw[aX _ _ hk];exact List.getElem_mem _
  have hs:kP jC n m L ds h (bl.drop i.toNat)=((jC (toInt (af (nth bl i.toNat) 0))&&ly n m L h (bH (toStr (af (af (nth bl i.toNat) 1) 0)) ds))||kP jC n m L ds h (bl.drop (i.toNat+1))):=by
   rw[ao3 hk,←aX bl i.toNat hk];rfl
  have next:(jC (toInt (af (nth bl i.toNat) 0))&&ly n m L h (bH (toStr (af (af (nth bl i.toNat) 1) 0)) ds))=false->∃k,k<bl.length - i.toNat/\ei RY (tX jC) Hx (fun x=>x.a.bl.length - x.a.i.toNat) K k (RY ⟨n,m,L,ds,rs,⟨xs,more,rel,hl,bl,line,i+1⟩,h⟩):=fun e=>by
   rw[e,Bool.false_or] at hs;refine⟨_,?_,⟨n,m,L,ds,rs,⟨xs,more,rel,hl,bl,line,i+1⟩,h⟩,rfl,⟨hh,hd,by simpa[aU] using hb,by simp only;omega,by simp only;omega,hm⟩,rfl,?_⟩
   ·simp only;omega
   ·simp only[Hx,Out.run,show(i+1).toNat=i.toNat+1 by omega,←hs]
    exact ho
  rw[az (n:=i+1) (by omega) (by omega),ae];refine⟨fun e=>⟨⟨n,m,L,h,bH (toStr (af (af (nth bl i.toNat) 1) 0)) ds⟩,rfl,⟨hh,hm _ hx e⟩,?_⟩,fun e=>?_⟩
  ·rw[ae]
   refine⟨fun e2=>?_,fun e2=>?_⟩
   ·have:=ho i h0
    simp only at e2;simp only[Out.run] at this;rw[hs,e,e2] at this;exact this
   ·exact next (by rw[e,ao8];exact e2)
  ·exact next (by rw[e,Bool.false_and])
 ·have:=ho 0 (by omega)
  simp only at hi;simp only[Out.run] at this;rw[ao0 (by omega)] at this;exact this
theorem xAb(κ:Kp)(N:Nat) ls ds rs fs(a:dh) h I n K:(vc (GN κ) 12 168 none 8 (ad (Pr κ).toProgram 168 2) (sp 19 [(0, .ah 80 a.bl),(1, .bm 134 [.ptr 4 0 [] 0, .ptr 6 0 [] 0, .ptr 3 0 [] 0, .ptr 7 0 [] 0]),(7, .int a.bl.length),(8, .int a.i)] (vd N ls fs++[.box 99 (.ptr 0 0 [] 0), .box 25 (fq ds rs), .box 48 (au a), .box 152 (.bm 88 []), .box 3 (.int h)])) (bh (GN κ) 168 2 8 I n K))=(
 letI b:=AV.ptr 0 0 []
 letI c:=AV.int
 letI d:=AV.ptr
 letI e:=Obj.box
 letI f:=Obj.row
 letI g:=Obj.rows
 letI i:=AV.ah
 letI k:=AV.agg [i 43 ds,i 48 rs]
 letI l:=AV.agg [AV.ak 1 0 N,AV.ak 2 0 fs.length]
 letI m:=b 0
 letI q:=IntKind.wrap IntKind.i64 (a.i+(1:Int))
 letI j:=a.bl.length
 letI o:=AV.bm 88 []
 aq (decide (a.i<(↑j:Int))) (aW (decide ((0:Int)<=a.i)&&decide (a.i<(↑j:Int))) (∃(e3:List AV×ByteArray),([i 43 ds,AV.str (toStr (af (af (nth a.bl a.i.toNat) 1) 0))],aL)=([i 43 e3.1,AV.str e3.2],aL)/\iD e3/\∃(e2:Int),([c (toInt (af (nth a.bl a.i.toNat) 0))],aL)=([c e2],aL)/\True/\aq (jh e2) (∃(e1:VA),letI p:=bw e1.n e1.m e1.L e1.n;letI r:=AV.agg [AV.ak 1 0 e1.n,AV.ak 2 0 (List.length p)];letI s:=[e 145 r,g 35 3 (dw e1.L) none,f 101 p,e 99 m,e 25 k,e 48 (au a),e 152 o,e 3 (c h)];([b 0,c h,c (bH e3.2 e3.1)],[e 145 l,g 35 3 ls none,f 101 fs])=([b 0,c e1.a,c e1.b],[e 145 r,g 35 3 (dw e1.L) none,f 101 p])/\(((0:Int)<=e1.a/\e1.a<(↑(e1.n):Int))/\(0:Int)<=e1.b/\e1.b<(↑(e1.n):Int))/\aq (ly e1.n e1.m e1.L e1.a e1.b) (K Exit.ret (sp 19 [(4,c a.i)] s)) (∃(e0:Nat),e0<n/\I e0 (sp 19 [(0,i 80 a.bl),(1,AV.bm 134 [d 4 0 [] 0,d 6 0 [] 0,d 3 0 [] 0,d 7 0 [] 0]),(7,c (↑j:Int)),(8,c q)] s))) (∃(e0:Nat),e0<n/\I e0 (sp 19 [(0,i 80 a.bl),(1,AV.bm 134 [d 4 0 [] 0,d 6 0 [] 0,d 3 0 [] 0,d 7 0 [] 0]),(7,c (↑j:Int)),(8,c q)] [e 145 l,g 35 3 ls none,f 101 fs,e 99 m,e 25 k,e 48 (au a),e 152 o,e 3 (c h)])))) (K (Exit.exit 0) (sp 19 [] [e 145 l,g 35 3 ls none,f 101 fs,e 99 m,e 25 k,e 48 (au a),e 152 o,e 3 (c h)]))):=by kernel_rfl
abbrev RZ(x:H9):=sp 19 [(0, .ah 80 x.a.bl),(1, .bm 134 [.ptr 4 0 [] 0, .ptr 6 0 [] 0, .ptr 3 0 [] 0, .ptr 7 0 [] 0]),(7, .int x.a.bl.length),(8, .int x.a.i)] (vd x.n (dw x.L) (bw x.n x.m x.L x.n)++[.box 99 (.ptr 0 0 [] 0), .box 25 (fq x.ds x.rs), .box 48 (au x.a), .box 152 (.bm 88 []), .box 3 (.int x.h)])
def Hd(x:H9):Out (Exit×S):= .all (fun j:Int=>0<=j) fun j=> .aq (kP jh x.n x.m x.L x.ds x.h (x.a.bl.drop x.a.i.toNat))
 (.one (.ret,sp 19 [(4, .int j)] (pq x.n x.m x.L++[.box 99 (.ptr 0 0 [] 0), .box 25 (fq x.ds x.rs), .box 48 (au x.a), .box 152 (.bm 88 []), .box 3 (.int x.h)])))
 (.one (.exit 0,sp 19 [] (pq x.n x.m x.L++[.box 99 (.ptr 0 0 [] 0), .box 25 (fq x.ds x.rs), .box 48 (au x.a), .box 152 (.bm 88 []), .box 3 (.int x.h)])))
theorem lAb(κ:Kp):aR (GN κ) 12 168 2 (aG 8 RZ (tX jh) Hd):=by
 refine aD (fun x=>x.a.bl.length - x.a.i.toNat) ?_;rintro⟨n,m,L,ds,rs,⟨xs,more,rel,hl,bl,line,i⟩,h⟩ K ⟨hh,hd,hb,h0,h1,hm⟩ ho;simp only at hh hd hb h0 h1 hm;rw[show(GN κ).P=Pr κ from rfl];refine Eq.mpr (xAb κ n (dw L) ds rs (bw n m L n) ⟨xs,more,rel,hl,bl,line,i⟩ h _ _ K) ?_;simp only[aU] at hb;rw[ae,ai,an3,an2,an2,an4];refine⟨fun hi=>⟨⟨h0,hi⟩,(ds,toStr (af (af (nth bl i.toNat) 1) 0)),rfl,hd,toInt (af (nth bl i.toNat) 0),rfl,trivial,?_⟩,fun hi=>?_⟩
 ·have hi:i<(bl.length:Int):=hi
  have hk:i.toNat<bl.length:=by omega
  have hx:nth bl i.toNat∈bl:=by rw[aX _ _ hk];exact List.getElem_mem _
  have hs:kP jh n m L ds h (bl.drop i.toNat)=((jh (toInt (af (nth bl i.toNat) 0))&&ly n m L h (bH (toStr (af (af (nth bl i.toNat) 1) 0)) ds))||kP jh n m L ds h (bl.drop (i.toNat+1))):=by
   rw[ao3 hk,←aX bl i.toNat hk];rfl
  have next:(jh (toInt (af (nth bl i.toNat) 0))&&ly n m L h (bH (toStr (af (af (nth bl i.toNat) 1) 0)) ds))=false->∃k,k<bl.length - i.toNat/\ei RZ (tX jh) Hd (fun x=>x.a.bl.length - x.a.i.toNat) K k (RZ ⟨n,m,L,ds,rs,⟨xs,more,rel,hl,bl,line,i+1⟩,h⟩):=fun e=>by
   rw[e,Bool.false_or] at hs;refine⟨_,?_,⟨n,m,L,ds,rs,⟨xs,more,rel,hl,bl,line,i+1⟩,h⟩,rfl,⟨hh,hd,by simpa[aU] using hb,by simp only;omega,by simp only;omega,hm⟩,rfl,?_⟩
   ·simp only;omega
   ·simp only[Hd,Out.run,show(i+1).toNat=i.toNat+1 by omega,←hs]
    exact ho
  rw[az (n:=i+1) (by omega) (by omega),ae];refine⟨fun e=>⟨⟨n,m,L,h,bH (toStr (af (af (nth bl i.toNat) 1) 0)) ds⟩,rfl,⟨hh,hm _ hx e⟩,?_⟩,fun e=>?_⟩
  ·rw[ae]
   refine⟨fun e2=>?_,fun e2=>?_⟩
   ·have:=ho i h0
    simp only at e2;simp only[Out.run] at this;rw[hs,e,e2] at this;exact this
   ·exact next (by rw[e,ao8];exact e2)
  ·exact next (by rw[e,Bool.false_and])
 ·have:=ho 0 (by omega)
  simp only at hi;simp only[Out.run] at this;rw[ao0 (by omega)] at this;exact this
def ak1(s:S):Bool:=match ay s.st 6 with| .box _ (.bm f _)=>Nat.beq f 90|_=>false
noncomputable def Wi(κ:Kp):Env:=(GN κ).an 168 2 (rK ak1 (aG 8 RY (tX jC) Hx) (aG 8 RZ (tX jh) Hd))
theorem eAl(κ:Kp):aE (Wi κ):=(eIb κ).an (mIb κ) (oR (lAa κ) (lAb κ))
theorem mAl(κ:Kp):aj (Wi κ):=(mIb κ).an (k9 aI aI)
theorem yAa(κ:Kp)(N:Nat)(ls:List (List Value))(ds rs fs:List AV)(a:dh)(K:AV->List Dn.Obj->Prop):(a7 (Wi κ) 12 87 [.ptr 0 0 [] 0,fq ds rs,au a, .bm 90 []] (vd N ls fs) K)=(
 letI b:=AV.int
 letI c:=AV.ptr
 letI d:=Obj.box
 letI e:=AV.ah
 letI g:=Pg.toProgram (Env.P (GN κ))
 ∃(e2:List AV×ByteArray),([e 43 ds,AV.str a.rel],aL)=([e 43 e2.1,AV.str e2.2],aL)/\iD e2/\ad g 168 2=ad g 168 2/\∃(e1:H9),letI f:=bw e1.n e1.m e1.L e1.n;letI h:=AV.agg [AV.ak 1 0 e1.n,AV.ak 2 0 (List.length f)];letI i:=[d 145 h,Obj.rows 35 3 (dw e1.L) none,Obj.row 101 f];sp 19 [(0,e 80 a.bl),(1,AV.bm 134 [c 4 0 [] 0,c 6 0 [] 0,c 3 0 [] 0,c 7 0 [] 0]),(7,b (↑(a.bl.length):Int)),(8,b 0)] [d 145 (AV.agg [AV.ak 1 0 N,AV.ak 2 0 fs.length]),Obj.rows 35 3 ls none,Obj.row 101 fs,d 99 (c 0 0 [] 0),d 25 (AV.agg [e 43 ds,e 48 rs]),d 48 (au a),d 152 (AV.bm 90 []),d 3 (b (bH e2.2 e2.1))]=sp 19 [(0,e 80 e1.a.bl),(1,AV.bm 134 [c 4 0 [] 0,c 6 0 [] 0,c 3 0 [] 0,c 7 0 [] 0]),(7,b (↑(List.length e1.a.bl):Int)),(8,b e1.a.i)] [d 145 h,Obj.rows 35 3 (dw e1.L) none,Obj.row 101 f,d 99 (c 0 0 [] 0),d 25 (AV.agg [e 43 e1.ds,e 48 e1.rs]),d 48 (au e1.a),d 152 (AV.bm 90 []),d 3 (b e1.h)]/\(((0:Int)<=e1.h/\e1.h<(↑(e1.n):Int))/\e1.ds.length<=9223372036854775807/\List.length e1.a.bl<=9223372036854775807/\(0:Int)<=e1.a.i/\e1.a.i<=(↑(List.length e1.a.bl):Int)/\∀(e0:AV),List.Mem e0 e1.a.bl->jC (toInt (af e0 0))=true->(0:Int)<=bH (toStr (af (af e0 1) 0)) e1.ds/\bH (toStr (af (af e0 1) 0)) e1.ds<(↑(e1.n):Int))/\∀(e0:Int),(0:Int)<=e0->aq (kP jC e1.n e1.m e1.L e1.ds e1.h (List.drop (Int.toNat e1.a.i) e1.a.bl)) (K (AV.bool (decide (e0>=(0:Int)))) i) (K (AV.bool false) i)):=by kernel_rfl
def SG(x:H9):List AV×List Dn.Obj:=([.ptr 0 0 [] 0,fq x.ds x.rs,au x.a, .bm 90 []],pq x.n x.m x.L)
def EU(x:H9):Out (AV×List Dn.Obj):= .one (.bool (kP jC x.n x.m x.L x.ds x.h x.a.bl),pq x.n x.m x.L)
theorem cAa(κ:Kp):bg (Wi κ) 12 87 (aO SG (Aj jC) EU):=by
 refine aQ ?_;rintro⟨n,m,L,ds,rs,⟨xs,more,rel,hl,bl,line,i⟩,h⟩ K ⟨he,hh,hd,hb,hm⟩ ho;simp only at he hh hd hb hm;refine Eq.mpr (yAa κ n (dw L) ds rs (bw n m L n) ⟨xs,more,rel,hl,bl,line,i⟩ K) ?_;simp only[EU,Out.run] at ho;refine⟨(ds,rel),rfl,hd,rfl,⟨n,m,L,ds,rs,⟨xs,more,rel,hl,bl,line,0⟩,h⟩,by simp only[he],⟨hh,hd,hb,by simp only;omega,by simp only;omega,hm⟩,fun j hj=>?_⟩;show aq (kP jC n m L ds h bl) (K (.bool (decide (j>=0))) (pq n m L)) (K (.bool false) (pq n m L))
 rw[ae,an8 (show j>=0 from hj)];exact⟨fun e=>by rw[e] at ho;exact ho,fun e=>by rw[e] at ho;exact ho⟩
theorem yAb(κ:Kp)(N:Nat)(ls:List (List Value))(ds rs fs:List AV)(a:dh)(K:AV->List Dn.Obj->Prop):(a7 (Wi κ) 12 87 [.ptr 0 0 [] 0,fq ds rs,au a, .bm 88 []] (vd N ls fs) K)=(
 letI b:=AV.int
 letI c:=AV.ptr
 letI d:=Obj.box
 letI e:=AV.ah
 letI g:=Pg.toProgram (Env.P (GN κ))
 ∃(e2:List AV×ByteArray),([e 43 ds,AV.str a.rel],aL)=([e 43 e2.1,AV.str e2.2],aL)/\iD e2/\ad g 168 2=ad g 168 2/\∃(e1:H9),letI f:=bw e1.n e1.m e1.L e1.n;letI h:=AV.agg [AV.ak 1 0 e1.n,AV.ak 2 0 (List.length f)];letI i:=[d 145 h,Obj.rows 35 3 (dw e1.L) none,Obj.row 101 f];sp 19 [(0,e 80 a.bl),(1,AV.bm 134 [c 4 0 [] 0,c 6 0 [] 0,c 3 0 [] 0,c 7 0 [] 0]),(7,b (↑(a.bl.length):Int)),(8,b 0)] [d 145 (AV.agg [AV.ak 1 0 N,AV.ak 2 0 fs.length]),Obj.rows 35 3 ls none,Obj.row 101 fs,d 99 (c 0 0 [] 0),d 25 (AV.agg [e 43 ds,e 48 rs]),d 48 (au a),d 152 (AV.bm 88 []),d 3 (b (bH e2.2 e2.1))]=sp 19 [(0,e 80 e1.a.bl),(1,AV.bm 134 [c 4 0 [] 0,c 6 0 [] 0,c 3 0 [] 0,c 7 0 [] 0]),(7,b (↑(List.length e1.a.bl):Int)),(8,b e1.a.i)] [d 145 h,Obj.rows 35 3 (dw e1.L) none,Obj.row 101 f,d 99 (c 0 0 [] 0),d 25 (AV.agg [e 43 e1.ds,e 48 e1.rs]),d 48 (au e1.a),d 152 (AV.bm 88 []),d 3 (b e1.h)]/\(((0:Int)<=e1.h/\e1.h<(↑(e1.n):Int))/\e1.ds.length<=9223372036854775807/\List.length e1.a.bl<=9223372036854775807/\(0:Int)<=e1.a.i/\e1.a.i<=(↑(List.length e1.a.bl):Int)/\∀(e0:AV),List.Mem e0 e1.a.bl->jh (toInt (af e0 0))=true->(0:Int)<=bH (toStr (af (af e0 1) 0)) e1.ds/\bH (toStr (af (af e0 1) 0)) e1.ds<(↑(e1.n):Int))/\∀(e0:Int),(0:Int)<=e0->aq (kP jh e1.n e1.m e1.L e1.ds e1.h (List.drop (Int.toNat e1.a.i) e1.a.bl)) (K (AV.bool (decide (e0>=(0:Int)))) i) (K (AV.bool false) i)):=by kernel_rfl
def TB(x:H9):List AV×List Dn.Obj:=([.ptr 0 0 [] 0,fq x.ds x.rs,au x.a, .bm 88 []],pq x.n x.m x.L)
def ES(x:H9):Out (AV×List Dn.Obj):= .one (.bool (kP jh x.n x.m x.L x.ds x.h x.a.bl),pq x.n x.m x.L)
theorem cAb(κ:Kp):bg (Wi κ) 12 87 (aO TB (Aj jh) ES):=by
 refine aQ ?_;rintro⟨n,m,L,ds,rs,⟨xs,more,rel,hl,bl,line,i⟩,h⟩ K ⟨he,hh,hd,hb,hm⟩ ho;simp only at he hh hd hb hm;refine Eq.mpr (yAb κ n (dw L) ds rs (bw n m L n) ⟨xs,more,rel,hl,bl,line,i⟩ K) ?_;simp only[ES,Out.run] at ho;refine⟨(ds,rel),rfl,hd,rfl,⟨n,m,L,ds,rs,⟨xs,more,rel,hl,bl,line,0⟩,h⟩,by simp only[he],⟨hh,hd,hb,by simp only;omega,by simp only;omega,hm⟩,fun j hj=>?_⟩;show aq (kP jh n m L ds h bl) (K (.bool (decide (j>=0))) (pq n m L)) (K (.bool false) (pq n m L))
 rw[ae,an8 (show j>=0 from hj)];exact⟨fun e=>by rw[e] at ho;exact ho,fun e=>by rw[e] at ho;exact ho⟩
def Mw(sel:List AV->Bool)(a b:dc):dc:=fun args st K=>bif sel args then a args st K else b args st K
theorem JQ{sel:List AV->Bool}{a b:dc}(ha:a.gw)(hb:b.gw):(Mw sel a b).gw:=fun args st K K' hK h=>by
 unfold Mw at h⊢;cases hs:sel args<;>simp only[hs] at h⊢
 ·exact hb _ _ _ _ hK h
 ·exact ha _ _ _ _ hK h
theorem PZ{E:Env}{N f:Nat}{sel:List AV->Bool}{a b:dc}(ha:bg E N f a)(hb:bg E N f b):bg E N f (Mw sel a b):=fun args st K h=>by
 unfold Mw at h;cases hs:sel args<;>rw[hs] at h
 ·exact hb _ _ _ h
 ·exact ha _ _ _ h
def ak0:List AV->Bool
 |[_,_,_, .bm f _]=>Nat.beq f 90
 |_=>false
noncomputable def Hi(κ:Kp):Env:=(Wi κ).aw 87 (Mw ak0 (aO SG (Aj jC) EU) (aO TB (Aj jh) ES))
theorem eAg(κ:Kp):aE (Hi κ):=(eAl κ).aw (mAl κ) (PZ (cAa κ) (cAb κ))
theorem mAg(κ:Kp):aj (Hi κ):=(mAl κ).aw (JQ aH aH)
theorem xLy(κ:Kp)(N i:Nat) ls ds rs fs I(n:Nat) K:(vc (Hi κ) 12 43 none 3 (ad (Pr κ).toProgram 43 2) (sp 38 [(0, .ptr 0 0 [] 0),(3, .ptr 3 0 [] 0),(11, .ah 48 rs),(12, .int rs.length),(13, .int i)] (vd N ls fs++[.box 25 (fq ds rs)])) (bh (Hi κ) 43 2 3 I n K))=(
 letI a:=AV.ptr 0 0 []
 letI b:=AV.int
 letI c:=AV.agg
 letI d:=Obj.box
 letI e:=Obj.row
 letI f:=Obj.rows
 letI g:=AV.ah
 letI h:=AV.ak
 letI s:=nth rs (Int.toNat (↑i:Int))
 letI w:=IntKind.wrap IntKind.i64 ((↑i:Int)+(1:Int))
 letI x:=c [g 43 ds,g 48 rs]
 letI o:=toInt (af s 2)
 letI t:=toStr (af (af s 0) 0)
 letI y:=c [h 1 0 N,h 2 0 fs.length]
 letI z:=(↑i:Int)<(↑(rs.length):Int)
 letI u:=ag (af (af s 0) 1)
 letI v:=ag (af s 1)
 aq (decide z) (aW (true&&decide z) (∃(e3:H9),letI j:=bw e3.n e3.m e3.L e3.n;letI p:=c [h 1 0 e3.n,h 2 0 (List.length j)];letI k:=∃(e0:Nat),e0<n/\I e0 (sp 38 [(0,a 0),(3,AV.ptr 3 0 [] 0),(11,g 48 rs),(12,b (↑(rs.length):Int)),(13,b w)] [d 145 p,f 35 3 (dw e3.L) none,e 101 j,d 25 x]);letI l:=[d 145 p,f 35 3 (dw e3.L) none,e 101 j];([a 0,c [g 43 ds,g 48 rs],c [c [AV.str t,g 38 u],g 80 v,b o],AV.bm 88 []],[d 145 y,f 35 3 ls none,e 101 fs])=([a 0,c [g 43 e3.ds,g 48 e3.rs],au e3.a,AV.bm 88 []],l)/\(e3.h=bH e3.a.rel e3.ds/\((0:Int)<=e3.h/\e3.h<(↑(e3.n):Int))/\e3.ds.length<=9223372036854775807/\List.length e3.a.bl<=9223372036854775807/\∀(e0:AV),List.Mem e0 e3.a.bl->jh (toInt (af e0 0))=true->(0:Int)<=bH (toStr (af (af e0 1) 0)) e3.ds/\bH (toStr (af (af e0 1) 0)) e3.ds<(↑(e3.n):Int))/\aq (kP jh e3.n e3.m e3.L e3.ds e3.h e3.a.bl) (K Exit.ret (sp 38 [(4,b o),(5,b 70)] l)) (∃(e2:dh),([c [c [AV.str t,g 38 u],g 80 v,b o]],aL)=([au e2],aL)/\(bj (aa (bn 38 e2.hl e2.bl))<=100000/\e2.bl.length<=100000)/\aq (a9 (aM e2)) (aq (jW (aM e2)) (aq (N5 (aM e2)) (∃(e1:H9),letI m:=bw e1.n e1.m e1.L e1.n;letI q:=c [h 1 0 e1.n,h 2 0 (List.length m)];letI r:=[d 145 q,f 35 3 (dw e1.L) none,e 101 m];([a 0,c [g 43 ds,g 48 rs],c [c [AV.str t,g 38 u],g 80 v,b o],AV.bm 90 []],l)=([a 0,c [g 43 e1.ds,g 48 e1.rs],au e1.a,AV.bm 90 []],r)/\(e1.h=bH e1.a.rel e1.ds/\((0:Int)<=e1.h/\e1.h<(↑(e1.n):Int))/\e1.ds.length<=9223372036854775807/\List.length e1.a.bl<=9223372036854775807/\∀(e0:AV),List.Mem e0 e1.a.bl->jC (toInt (af e0 0))=true->(0:Int)<=bH (toStr (af (af e0 1) 0)) e1.ds/\bH (toStr (af (af e0 1) 0)) e1.ds<(↑(e1.n):Int))/\aq (kP jC e1.n e1.m e1.L e1.ds e1.h e1.a.bl) (K Exit.ret (sp 38 [(4,b o),(5,b 71)] r)) (∃(e0:Nat),e0<n/\I e0 (sp 38 [(0,a 0),(3,AV.ptr 3 0 [] 0),(11,g 48 rs),(12,b (↑(rs.length):Int)),(13,b w)] [d 145 q,f 35 3 (dw e1.L) none,e 101 m,d 25 x]))) k) k) k))) (K (Exit.exit 0) (sp 38 [] [d 145 y,f 35 3 ls none,e 101 fs]))):=by kernel_rfl
theorem xLz κ ls ds I n K:(vc (Hi κ) 12 43 none 2 (ad (Pr κ).toProgram 43 2) (sp 38 [(0, .ptr 0 0 [] 0),(3, .ptr 2 0 [] 0),(11, .ah 48 []),(12, .int 0),(13, .int 0)] (yO 0 ls++[.box 25 (fq ds [])])) (bh (Hi κ) 43 2 2 I n K))=(
 K (Exit.exit 0) (sp 38 [] [Obj.box 145 (AV.agg [AV.ak 1 0 0,AV.nil]),Obj.rows 35 3 ls none])):=by kernel_rfl
def B6 r:=a9 (aM (ea r))&&jW (aM (ea r))&&N5 (aM (ea r))
def XM ds r:=bH (toStr (af (af r 0) 0)) ds
def Li isf n m L ds r:=kP isf n m L ds (XM ds r) (ag (af r 1))
def BG(n m:Nat)(L:Gr)(ds:List AV):List AV->Int×Int
 |[]=>(0,0)
 |r::rs=>bif Li jh n m L ds r then(toInt (af r 2),70) else bif B6 r&&Li jC n m L ds r then(toInt (af r 2),71) else BG n m L ds rs
structure Dp(n:Nat)(ds:List AV)(r:AV):Prop where
 hd:0<=XM ds r/\XM ds r<n
 at_: ∀l,l∈ag (af r 1)->dJ (toInt (af l 0))=true->0<=bH (toStr (af (af l 1) 0)) ds/\bH (toStr (af (af l 1) 0)) ds<n
 le:(ag (af r 1)).length<=aU
 s42:c9 (ea r)
theorem L4{op}(h:jC op=true):dJ op=true:=by
 have:op=1:=by grind [jC]
 subst this;rfl
theorem Oq{op}(h:jh op=true):dJ op=true:=by
 grind [jh,dJ]
structure S4 where
 n:Nat
 m:Nat
 L:Gr
 ds:List AV
 rs:List AV
 i:Nat
abbrev Ql(x:S4):=sp 38 [(0, .ptr 0 0 [] 0),(3, .ptr 3 0 [] 0),(11, .ah 48 x.rs),(12, .int x.rs.length),(13, .int x.i)] (pq x.n x.m x.L++[.box 25 (fq x.ds x.rs)])
def EZ(x:S4):=x.ds.length<=aU/\x.rs.length<=aU/\x.i<=x.rs.length/\∀r,r∈x.rs->Dp x.n x.ds r
def CN(x:S4):Out (Exit×S):= .aq (decide ((BG x.n x.m x.L x.ds (x.rs.drop x.i)).2=0))
 (.one (.exit 0,sp 38 [] (pq x.n x.m x.L)))
 (.one (.ret,sp 38 [(4, .int (BG x.n x.m x.L x.ds (x.rs.drop x.i)).1),(5, .int (BG x.n x.m x.L x.ds (x.rs.drop x.i)).2)] (pq x.n x.m x.L)))
theorem lLy κ:aR (Hi κ) 12 43 2 (aG 3 Ql EZ CN):=by
 refine aD (fun x=>x.rs.length - x.i) ?_;rintro⟨n,m,L,ds,rs,i⟩ K ⟨hd,hr,hi,hg⟩ ho;simp only at hd hr hi hg;rw[show(Hi κ).P=Pr κ from rfl];refine Eq.mpr (xLy κ n i (dw L) ds rs (bw n m L n) _ _ K) ?_;have ho2:=ho;simp only[CN,Out.run,ae,an2,an4] at ho2;simp only[aU] at hr;rw[ae,an2,an4,ai,ao8,an2];refine⟨fun h=>⟨h,?_⟩,fun h=>?_⟩
 ·have hk:i<rs.length:=by omega
  have hx:nth rs i∈rs:=by rw[aX _ _ hk];exact List.getElem_mem _
  have hG:=hg _ hx;have hs:BG n m L ds (rs.drop i)=bif Li jh n m L ds (nth rs i) then(toInt (af (nth rs i) 2),70) else bif B6 (nth rs i)&&Li jC n m L ds (nth rs i) then(toInt (af (nth rs i) 2),71) else BG n m L ds (rs.drop (i+1)):=by
   rw[ao3 hk,←aX rs i hk];rfl
  have next:Li jh n m L ds (nth rs i)=false->(B6 (nth rs i)&&Li jC n m L ds (nth rs i))=false->∃k,k<rs.length - i/\ei Ql EZ CN (fun x=>x.rs.length - x.i) K k (Ql ⟨n,m,L,ds,rs,i+1⟩):=fun e1 e2=>by
   rw[e1,e2,an7,an7] at hs;refine⟨_,?_,⟨n,m,L,ds,rs,i+1⟩,rfl,⟨hd,by simpa[aU] using hr,hk,hg⟩,rfl,?_⟩
   ·simp only;omega
   ·simp only[CN,Out.run,←hs];exact ho
  rw[Int.toNat_natCast,az (n:=(i:Int)+1) (by omega) (by omega)];refine⟨⟨n,m,L,ds,rs,ea (nth rs i),XM ds (nth rs i)⟩,rfl,⟨rfl,hG.hd,hd,hG.le,fun l hl h=>hG.at_ l hl (Oq h)⟩,?_⟩;rw[ae];refine⟨fun e=>?_,fun e=>?_⟩
  ·have e:Li jh n m L ds (nth rs i)=true:=e
   rw[e,an9] at hs;have:=ho2.2 (by rw[hs];exact fun h=>nomatch h)
   rw[hs] at this;exact this
  ·have e:Li jh n m L ds (nth rs i)=false:=e
   refine⟨ea (nth rs i),rfl,hG.s42,?_⟩;rw[ae];refine⟨fun e1=>?_,fun e1=>next e (by unfold B6;rw[e1];rfl)⟩;rw[ae];refine⟨fun e2=>?_,fun e2=>next e (by unfold B6;rw[e1,e2];rfl)⟩;rw[ae];refine⟨fun e3=>?_,fun e3=>next e (by unfold B6;rw[e1,e2,e3];rfl)⟩;have hv:B6 (nth rs i)=true:=by unfold B6;rw[e1,e2,e3];rfl
   refine⟨⟨n,m,L,ds,rs,ea (nth rs i),XM ds (nth rs i)⟩,rfl,⟨rfl,hG.hd,hd,hG.le,fun l hl h=>hG.at_ l hl (L4 h)⟩,?_⟩;rw[ae];refine⟨fun e4=>?_,fun e4=>next e (by have e4:Li jC n m L ds (nth rs i)=false:=e4;rw[e4,Bool.and_false])⟩;have e4:Li jC n m L ds (nth rs i)=true:=e4;rw[e,hv,e4,an7,Bool.and_true,an9] at hs;have:=ho2.2 (by rw[hs];exact fun h=>nomatch h)
   rw[hs] at this;exact this
 ·rw[ao0 (by omega)] at ho2
  exact ho2.1 rfl
structure WX where
 ls:List (List Value)
 ds:List AV
abbrev ZZ(x:WX):=sp 38 [(0, .ptr 0 0 [] 0),(3, .ptr 2 0 [] 0),(11, .ah 48 []),(12, .int 0),(13, .int 0)] (yO 0 x.ls++[.box 25 (fq x.ds [])])
def T6(x:WX):Out (Exit×S):= .one (.exit 0,sp 38 [] (yO 0 x.ls))
theorem lLz κ:aR (Hi κ) 12 43 2 (aG 2 ZZ (fun _=>True) T6):=by
 refine aD (fun _=>0) ?_;rintro⟨ls,ds⟩ K _ ho;exact Eq.mpr (xLz _ _ _ _ _ K) ho
noncomputable def Uw κ:=(Hi κ).an 43 2 (rK Za (aG 3 Ql EZ CN) (aG 2 ZZ (fun _=>True) T6))
theorem eLl κ:aE (Uw κ):=(eAg _).an (mAg _) (oR (lLy _) (lLz _))
theorem mLl κ:aj (Uw κ):=(mAg _).an (k9 aI aI)
theorem yLy κ N ls ds rs fs K:(a7 (Uw κ) 12 43 [.ptr 0 0 [] 0,fq ds rs] (vd N ls fs) K)=(
 letI b:=AV.int
 letI c:=Obj.box
 letI d:=AV.ah
 ad (Pg.toProgram (Env.P (Hi κ))) 43 2=ad (Pg.toProgram (Env.P (Hi κ))) 43 2/\∃(a:S4),letI e:=bw a.n a.m a.L a.n;letI g:=AV.agg [AV.ak 1 0 a.n,AV.ak 2 0 (List.length e)];letI h:=[c 145 g,Obj.rows 35 3 (dw a.L) none,Obj.row 101 e];letI f:=BG a.n a.m a.L a.ds (List.drop a.i a.rs);sp 38 [(0,AV.ptr 0 0 [] 0),(3,AV.ptr 3 0 [] 0),(11,d 48 rs),(12,b (↑(rs.length):Int)),(13,b 0)] [c 145 (AV.agg [AV.ak 1 0 N,AV.ak 2 0 fs.length]),Obj.rows 35 3 ls none,Obj.row 101 fs,c 25 (AV.agg [d 43 ds,d 48 rs])]=sp 38 [(0,AV.ptr 0 0 [] 0),(3,AV.ptr 3 0 [] 0),(11,d 48 a.rs),(12,b (↑(a.rs.length):Int)),(13,b (↑(a.i):Int))] [c 145 g,Obj.rows 35 3 (dw a.L) none,Obj.row 101 e,c 25 (AV.agg [d 43 a.ds,d 48 a.rs])]/\(a.ds.length<=9223372036854775807/\a.rs.length<=9223372036854775807/\a.i<=a.rs.length/\∀(r:AV),List.Mem r a.rs->Dp a.n a.ds r)/\aq (decide (Prod.snd f=(0:Int))) (K (AV.aJ [b 0,b 0]) h) (K (AV.aJ [b (Prod.fst f),b (Prod.snd f)]) h)):=by kernel_rfl
theorem yLz κ ls ds K:(a7 (Uw κ) 12 43 [.ptr 0 0 [] 0,fq ds []] (yO 0 ls) K)=(
 letI a:=AV.int
 letI b:=Obj.box
 letI c:=AV.ah
 letI d:=AV.agg [AV.ak 1 0 0,AV.nil]
 letI e:=Pg.toProgram (Env.P (Hi κ))
 ad e 43 2=ad e 43 2/\∃(e0:WX),sp 38 [(0,AV.ptr 0 0 [] 0),(3,AV.ptr 2 0 [] 0),(11,c 48 []),(12,a 0),(13,a 0)] [b 145 d,
 Obj.rows 35 3 ls none,b 25 (AV.agg [c 43 ds,c 48 []])]=sp 38 [(0,AV.ptr 0 0 [] 0),(3,AV.ptr 2 0 [] 0),(11,c 48 []),(12,a 0),
 (13,a 0)] [b 145 d,Obj.rows 35 3 e0.ls none,b 25 (AV.agg [c 43 e0.ds,c 48 []])]/\True/\K (AV.aJ [a 0,a 0]) [b
 145 d,Obj.rows 35 3 e0.ls none]):=by kernel_rfl
def Ua(x:S4):=([.ptr 0 0 [] 0,fq x.ds x.rs],pq x.n x.m x.L)
def I0(x:S4):=x.ds.length<=aU/\x.rs.length<=aU/\∀r,r∈x.rs->Dp x.n x.ds r
def GF(x:S4):Out (AV×List Dn.Obj):= .one (.aJ [.int (BG x.n x.m x.L x.ds x.rs).1, .int (BG x.n x.m x.L x.ds x.rs).2],pq x.n x.m x.L)
theorem Eo n m L ds: ∀rs,(BG n m L ds rs).2=0->BG n m L ds rs=(0,0)
 |[],_=>rfl
 | r::rs,h=>by
  rw[BG] at h⊢;cases e:Li jh n m L ds r with
  |true=>grind
  | false=>
   rw[e,an7] at h;cases e2:B6 r&&Li jC n m L ds r with
   |true=>grind
   |false=>
    rw[e2,an7] at h;exact Eo n m L ds rs h
theorem cLy κ:bg (Uw κ) 12 43 (aO Ua I0 GF):=by
 refine aQ ?_;rintro⟨n,m,L,ds,rs,i⟩ K ⟨hd,hr,hg⟩ ho;refine Eq.mpr (yLy κ n (dw L) ds rs (bw n m L n) K) ?_;refine⟨rfl,⟨n,m,L,ds,rs,0⟩,rfl,⟨hd,hr,Nat.zero_le _,hg⟩,?_⟩;simp only[GF,Out.run] at ho;rw[ao2,ae]
 grind [Eo]
def SY(x:WX):=([.ptr 0 0 [] 0,fq x.ds []],yO 0 x.ls)
def Ok(x:WX):Out (AV×List Dn.Obj):= .one (.aJ [.int 0, .int 0],yO 0 x.ls)
theorem cLz κ:bg (Uw κ) 12 43 (aO SY (fun _=>True) Ok):=by
 refine aQ ?_;rintro⟨ls,ds⟩ K _ ho;refine Eq.mpr (yLz _ _ _ K) ?_;exact⟨rfl,_,rfl,trivial,ho⟩
noncomputable def ELy κ:=(Uw κ).aw 43 (GY XK (aO Ua I0 GF) (aO SY (fun _=>True) Ok))
theorem eLy κ:aE (ELy κ):=(eLl _).aw (mLl _) (BW (cLy _) (cLz _))
theorem mLy κ:aj (ELy κ):=(mLl _).aw (sR aH aH)
noncomputable abbrev Q8(κ:Kp):Env:=ELy κ
theorem eCk(κ:Kp):aE (Q8 κ):=eLy κ
theorem mCk(κ:Kp):aj (Q8 κ):=mLy κ
theorem xGi κ(N i:Nat) ls fs gs l es I n K:(vc (Q8 κ) 12 18 none 0 (ad (Pr κ).toProgram 18 15) (sp 63 [(7, .ptr 0 0 [] 0),(10, .ak 3 0 gs.length),(11, .mp 4),(13, .ah 3 l),(49, .ah 3 l),(50, .int l.length),(51, .int i)] (vd N ls fs++[.row 35 gs, .map 3 4 es])) (bh (Q8 κ) 18 15 0 I n K))=(
 letI a:=Obj.row
 letI b:=AV.agg [AV.ak 1 0 N,AV.ak 2 0 fs.length]
 letI c:=(↑i:Int)<(↑(l.length):Int)
 aq (decide c) (aW (true&&decide c) (∃(e0:Nat),e0<n/\I e0 (sp 63 [(7,AV.ptr 0 0 [] 0),(10,AV.ak 3 0 gs.length),(11,AV.mp 4),(13,AV.ah 3 l),
 (49,AV.ah 3 l),(50,AV.int (↑(l.length):Int)),(51,AV.int (IntKind.wrap IntKind.i64 ((↑i:Int)+(1:Int))))] [Obj.box 145 b,Obj.rows 35 3 ls none,
 a 101 fs,a 35 gs,Dn.Obj.map 3 4 (eC es (Value.int IntKind.i64 (toInt (nth l (Int.toNat (↑i:Int))))) (AV.bool true))]))) (K (Exit.exit 2) (sp 63
 [(7,AV.ptr 0 0 [] 0),(10,AV.ak 3 0 gs.length),(11,AV.mp 4),(13,AV.ah 3 l)] [Obj.box 145 b,Obj.rows 35 3 ls none,a 101 fs,a 35 gs,
 Dn.Obj.map 3 4 es]))):=by kernel_rfl
def j5(gs:List (List Int)):List AV:=gs.map fun g=> .ah 3 (iA g)
theorem QC a b:j5 (a++b)=j5 a++j5 b:=by simp[j5]
theorem HT a:(j5 a).length=a.length:=by simp[j5]
structure AGi where
 n:Nat
 m:Nat
 L:Gr
 gs:List (List Int)
 l:List Int
 done:List Int
 i:Nat
abbrev VC(x:AGi):=sp 63 [(7, .ptr 0 0 [] 0),(10, .ak 3 0 (j5 x.gs).length),(11, .mp 4),(13, .ah 3 (iA x.l)),(49, .ah 3 (iA x.l)),(50, .int (iA x.l).length),(51, .int x.i)] (pq x.n x.m x.L++[.row 35 (j5 x.gs), .map 3 4 (iJ x.done)])
def OI(x:AGi):=x.i<=x.l.length/\x.l.length<=60
def Jl(x:AGi):Out (Exit×S):= .one (.exit 2,sp 63 [(7, .ptr 0 0 [] 0),(10, .ak 3 0 (j5 x.gs).length),(11, .mp 4),(13, .ah 3 (iA x.l))] (pq x.n x.m x.L++[.row 35 (j5 x.gs), .map 3 4 (iJ (wo x.done (x.l.drop x.i)))]))
theorem Wm: ∀l k h,toInt (nth (iA l) k)=l[k]:=fun l k h=>by
 grind [aX,iA,toInt]
theorem lGi κ:aR (Q8 κ) 12 18 15 (aG 0 VC OI Jl):=by
 refine aD (fun x=>x.l.length - x.i) ?_;rintro⟨n,m,L,gs,l,done,i⟩ K ⟨hi,hl⟩ ho;simp only at hi hl;rw[show(Q8 κ).P=Pr κ from rfl];refine Eq.mpr (xGi κ n i (dw L) (bw n m L n) (j5 gs) (iA l) (iJ done) _ _ K) ?_;simp only[Jl,Out.run] at ho;rw[ae,ai,ao8,an2,an4,jm];refine⟨fun h=>⟨h,?_⟩,fun h=>?_⟩
 ·have hk:i<l.length:=by omega
  rw[Int.toNat_natCast,Wm l i hk,az (n:=(i:Int)+1) (by omega) (by omega),rM];refine⟨_,?_,⟨n,m,L,gs,l,bif done.contains l[i] then done else done++[l[i]],i+1⟩,?_,⟨hk,hl⟩,rfl,?_⟩
  ·simp only;omega
  ·simp only[VC,jm];rfl
  ·rw[ao3 hk] at ho
   simp only[Jl,Out.run];exact ho
 ·rw[ao0 (by omega)] at ho
  exact ho
noncomputable def Gc κ:=(Q8 κ).an 18 15 (aG 0 VC OI Jl)
theorem eGi κ:aE (Gc κ):=(eCk _).an (mCk _) (lGi _)
theorem mGi κ:aj (Gc κ):=(mCk _).an aI
theorem xGo κ N a ls fs gs es I n K:(vc (Gc κ) 12 18 none 0 (ad (Pr κ).toProgram 18 11) (sp 63 [(7, .ptr 0 0 [] 0),(10, .ak 3 0 (j5 gs).length),(11, .mp 4),(12, .int a)] (vd N ls fs++[.row 35 (j5 gs), .map 3 4 es])) (bh (Gc κ) 18 11 0 I n K))=(
 letI b:=AV.ptr 0 0 []
 letI c:=AV.int
 letI d:=Obj.box
 letI e:=Obj.row
 letI f:=Obj.rows
 letI g:=Dn.Obj.map
 letI h:=AV.ak
 letI m:=Pg.toProgram (Env.P (Q8 κ))
 aq (decide (a>=(0:Int))) (∃(e3:SL),letI i:=bw e3.n e3.m e3.L e3.n;letI o:=AV.agg [h 1 0 e3.n,h 2 0 (List.length i)];letI j:=iA (iy e3.n e3.m e3.L e3.a);([b 0,c a],[d 145 (AV.agg [h 1 0 N,h 2 0 fs.length]),f 35 3 ls none,e 101 fs])=([b 0,c e3.a],[d 145 o,f 35 3 (dw e3.L) none,e 101 i])/\(((0:Int)<=e3.a/\e3.a<(↑(e3.n):Int))/\e3.n<=60)/\ad m 18 15=ad m 18 15/\∃(e2:AGi),letI k:=bw e2.n e2.m e2.L e2.n;letI p:=AV.agg [h 1 0 e2.n,h 2 0 (List.length k)];sp 63 [(7,b 0),(10,h 3 0 (List.length (j5 gs))),(11,AV.mp 4),(13,AV.ah 3 j),(49,AV.ah 3 j),(50,c (↑(List.length j):Int)),(51,c 0)] [d 145 o,f 35 3 (dw e3.L) none,e 101 i,e 35 (j5 gs),g 3 4 es]=sp 63 [(7,b 0),(10,h 3 0 (List.length (j5 e2.gs))),(11,AV.mp 4),(13,AV.ah 3 (iA e2.l)),(49,AV.ah 3 (iA e2.l)),(50,c (↑(List.length (iA e2.l)):Int)),(51,c (↑(e2.i):Int))] [d 145 p,f 35 3 (dw e2.L) none,e 101 k,e 35 (j5 e2.gs),g 3 4 (iJ e2.done)]/\(e2.i<=e2.l.length/\e2.l.length<=60)/\aW (decide ((List.length (j5 e2.gs)+1+1)*25<=70368744177664)) (∃(e1:IK),letI l:=bw e1.n e1.m e1.L e1.n;letI q:=AV.agg [h 1 0 e1.n,h 2 0 (List.length l)];([b 0,AV.mp 3],[d 145 p,f 35 3 (dw e2.L) none,e 101 k,g 3 4 (iJ (wo e2.done (List.drop e2.i e2.l)))])=([b 0,AV.mp 3],[d 145 q,f 35 3 (dw e1.L) none,e 101 l,g 3 4 (iJ e1.done)])/\(WG e1.n e1.m e1.L/\e1.n<=60)/\∃(e0:Nat),e0<n/\I e0 (sp 63 [(7,b 0),(10,h 3 0 (List.length (j5 e2.gs)+1)),(11,AV.mp 4),(12,c (gR e1.n e1.m e1.L e1.done))] [d 145 q,f 35 3 (dw e1.L) none,e 101 l,e 35 (List.take (List.length (j5 e2.gs)) (j5 e2.gs)++[AV.ah 3 (iA e2.l)]),g 3 4 (iJ e1.done)]))) (K (Exit.exit 0) (sp 63 [(10,h 0 0 (List.length (j5 gs)))] [e 35 (j5 gs)]))):=by kernel_rfl
theorem xGz κ ls es I n K:(vc (Gc κ) 12 18 none 0 (ad (Pr κ).toProgram 18 11) (sp 63 [(7, .ptr 0 0 [] 0),(10, .ak 2 0 0),(11, .mp 3),(12, .int (-1))] (yO 0 ls++[.row 35 [], .map 3 4 es])) (bh (Gc κ) 18 11 0 I n K))=(
 K (Exit.exit 0) (sp 63 [(10,AV.ak 0 0 0)] [Obj.row 35 []])):=by kernel_rfl
structure AGo where
 n:Nat
 m:Nat
 L:Gr
 gs:List (List Int)
 done:List Int
abbrev UW(x:AGo):=sp 63 [(7, .ptr 0 0 [] 0),(10, .ak 3 0 (j5 x.gs).length),(11, .mp 4),(12, .int (gR x.n x.m x.L x.done))] (pq x.n x.m x.L++[.row 35 (j5 x.gs), .map 3 4 (iJ x.done)])
def LK(x:AGo):=WG x.n x.m x.L/\x.n<=60/\x.gs.length+Ev x.n x.done<=x.n
def IW(x:AGo):Out (Exit×S):= .one (.exit 0,sp 63 [(10, .ak 0 0 (j5 (x.gs++uw x.n x.m x.L x.done)).length)] [.row 35 (j5 (x.gs++uw x.n x.m x.L x.done))])
theorem K9 n m L a:(iy n m L a).length<=n:=CO n m L a n
theorem lGo(κ:Kp):aR (Gc κ) 12 18 11 (aG 0 UW LK IW):=by
 refine aD (fun x=>Ev x.n x.done) ?_;rintro⟨n,m,L,gs,done⟩ K ⟨hG,hn,hl⟩ ho;simp only at hG hn hl;rw[show(Gc κ).P=Pr κ from rfl];refine Eq.mpr (xGo κ n (gR n m L done) (dw L) (bw n m L n) gs (iJ done) _ _ K) ?_;simp only[IW,Out.run] at ho;have hg:=CE (n:=n) (m:=m) (L:=L) done;rw[ae,an2,an4];refine⟨fun h=>?_,fun h=>?_⟩
 ·have h1:=(y1 (n:=n) (m:=m) (L:=L) (done:=done) h).1
  have h2:=BM (n:=n) (m:=m) (L:=L) (done:=done) h;have h3:=K9 n m L (gR n m L done);rw[an6 (by omega),an7] at hg;rw[hg] at ho;refine⟨⟨n,m,L,gR n m L done,0⟩,rfl,⟨h1,hn⟩,rfl,⟨n,m,L,gs,iy n m L (gR n m L done),done,0⟩,rfl,⟨Nat.zero_le _,by simp only;omega⟩,?_⟩;rw[ai,an2];refine⟨by rw[HT];simp only;omega,⟨n,m,L,wo done (iy n m L (gR n m L done)),0,[]⟩,rfl,⟨hG,hn⟩,_,h2,⟨n,m,L,gs++[iy n m L (gR n m L done)],wo done (iy n m L (gR n m L done))⟩,?_,⟨hG,hn,?_⟩,rfl,?_⟩
  ·rw[List.take_length]
   simp only[UW,QC,ao7];rfl
  ·simp only[ao7,List.length_singleton];omega
  ·simp only[IW,Out.run,List.append_assoc,List.singleton_append]
   exact ho
 ·rw[an8 (show gR n m L done<0 by omega),an9] at hg
  rw[hg,List.append_nil] at ho;exact ho
abbrev ac1(x:Sg):S:=sp 63 [(7, .ptr 0 0 [] 0),(10, .ak 2 0 0),(11, .mp 3),(12, .int (-1))] (yO 0 x.ls++[.row 35 [], .map 3 4 x.es])
def Ta(_:Sg):Out (Exit×S):= .one (.exit 0,sp 63 [(10, .ak 0 0 0)] [.row 35 []])
theorem lGz(κ:Kp):aR (Gc κ) 12 18 11 (aG 0 ac1 (fun _=>True) Ta):=by
 refine aD (fun _=>0) ?_;rintro⟨ls,es⟩ K _ ho;rw[show(Gc κ).P=Pr κ from rfl];exact Eq.mpr (xGz κ ls es _ _ K) ho
noncomputable def Ye(κ:Kp):Env:=(Gc κ).an 18 11 (rK X8 (aG 0 UW LK IW) (aG 0 ac1 (fun _=>True) Ta))
theorem eGo(κ:Kp):aE (Ye κ):=(eGi κ).an (mGi κ) (oR (lGo κ) (lGz κ))
theorem mGo(κ:Kp):aj (Ye κ):=(mGi κ).an (k9 aI aI)
theorem wY{ds rs:List AV}(h:(mi ds rs).2=0):yE ds rs:=by
 have h1:=(sZ.1 h).1;simp only[fF,an3,an2,List.all_eq_true] at h1;refine⟨h1.1.1.1,h1.1.1.2,fun r hr=>?_,Z7 h⟩;have h2:=h1.2 r hr;simp only[qH,a9,an3,an2] at h2;have h3:=h2.1.1.2;simpa[wN,dv] using h3
theorem NV{ds rs:List AV}(hs:nW ds rs)(h:(mi ds rs).2=0): ∀r,r∈rs->Dp ds.length ds r:=by
 intro r hr;have h1:=sJ h hr;refine⟨h1.1,h1.2,?_,hs.2.2 r hr⟩;have:=(wY h).bs r hr
 simp only[aU];omega
def yw(ds rs:List AV):Int×Int:=bif decide ((mi ds rs).2=0) then BG ds.length (so ds rs) (Dh ds rs) ds rs else mi ds rs
def Lg(ds rs:List AV):List (List Int):=uw ds.length (so ds rs) (Dh ds rs) []
theorem yGr(κ:Kp)(ds rs:List AV)(K:AV->List Dn.Obj->Prop):(a7 (Ye κ) 12 18 [fq ds rs] [] K)=(
 letI a:=AV.ptr 0 0 []
 letI b:=AV.int
 letI c:=AV.agg
 letI d:=Obj.box
 letI e:=Obj.row
 letI f:=Obj.rows
 letI g:=Dn.Obj.map
 letI h:=AV.ah
 letI i:=AV.ak
 letI j:=AV.mp
 letI l:=c [i 1 0 0,AV.nil]
 letI n:=Pg.toProgram (Env.P (Gc κ))
 ∃(e4:Ch),letI o:=mi e4.1 e4.2;([c [h 43 ds,h 48 rs]],aL)=([c [h 43 e4.1,h 48 e4.2]],aL)/\(e4.1.length<=9223372036854775807/\e4.2.length<=9223372036854775807/\∀(e0:AV),List.Mem e0 e4.2->bj (aa (bn 38 (dh.hl (ea e0)) (dh.bl (ea e0))))<=100000/\List.length (dh.bl (ea e0))<=100000)/\aq (Prod.snd o != (0:Int)) (K (AV.aJ [AV.nil,b (Prod.fst o),b (Prod.snd o)]) []) (∃(e3:Ch),letI p:=Dh e3.1 e3.2;letI s:=bw e3.1.length (so e3.1 e3.2) p e3.1.length;([c [h 43 ds,h 48 rs]],aL)=([c [h 43 e3.1,h 48 e3.2]],aL)/\yE e3.1 e3.2/\aq (Nat.beq e3.1.length 0) (∃(e2:WX),([a 0,c [h 43 ds,h 48 rs]],[d 145 (c [i 1 0 e3.1.length,AV.nil]),f 35 3 (dw p) none])=([a 0,c [h 43 e2.ds,h 48 []]],[d 145 l,f 35 3 e2.ls none])/\True/\∃(e1:Sg),([a 0,j 2],[d 145 l,f 35 3 e2.ls none,g 3 4 []])=([a 0,j 2],[d 145 l,f 35 3 e1.ls none,g 3 4 e1.es])/\True/\ad n 18 11=ad n 18 11/\∃(e0:Sg),sp 63 [(7,a 0),(10,i 2 0 0),(11,j 3),(12,b (-1))] [d 145 l,f 35 3 e1.ls none,e 35 [],g 3 4 e1.es]=sp 63 [(7,a 0),(10,i 2 0 0),(11,j 3),(12,b (-1))] [d 145 l,f 35 3 e0.ls none,e 35 [],g 3 4 e0.es]/\True/\K (AV.aJ [i 0 0 0,b 0,b 0]) [e 35 []]) (∃(e2:S4),letI q:=bw e2.n e2.m e2.L e2.n;letI t:=c [i 1 0 e2.n,i 2 0 (List.length q)];letI r:=BG e2.n e2.m e2.L e2.ds e2.rs;([a 0,c [h 43 ds,h 48 rs]],[d 145 (c [i 1 0 e3.1.length,i 2 0 (List.length s)]),f 35 3 (dw p) none,e 101 s])=([a 0,c [h 43 e2.ds,h 48 e2.rs]],[d 145 t,f 35 3 (dw e2.L) none,e 101 q])/\(e2.ds.length<=9223372036854775807/\e2.rs.length<=9223372036854775807/\∀(e0:AV),List.Mem e0 e2.rs->Dp e2.n e2.ds e0)/\aq (Prod.snd r != (0:Int)) (K (AV.aJ [AV.nil,b (Prod.fst r),b (Prod.snd r)]) []) (∃(e1:IK),letI k:=bw e1.n e1.m e1.L e1.n;letI u:=c [i 1 0 e1.n,i 2 0 (List.length k)];([a 0,j 3],[d 145 t,f 35 3 (dw e2.L) none,e 101 q,g 3 4 []])=([a 0,j 3],[d 145 u,f 35 3 (dw e1.L) none,e 101 k,g 3 4 (iJ e1.done)])/\(WG e1.n e1.m e1.L/\e1.n<=60)/\ad n 18 11=ad n 18 11/\∃(e0:AGo),letI m:=j5 (e0.gs++uw e0.n e0.m e0.L e0.done);sp 63 [(7,a 0),(10,i 3 0 0),(11,j 4),(12,b (gR e1.n e1.m e1.L e1.done))] [d 145 u,f 35 3 (dw e1.L) none,e 101 k,e 35 [],g 3 4 (iJ e1.done)]=sp 63 [(7,a 0),(10,i 3 0 (List.length (j5 e0.gs))),(11,j 4),(12,b (gR e0.n e0.m e0.L e0.done))] [d 145 (c [i 1 0 e0.n,i 2 0 (List.length (bw e0.n e0.m e0.L e0.n))]),f 35 3 (dw e0.L) none,e 101 (bw e0.n e0.m e0.L e0.n),e 35 (j5 e0.gs),g 3 4 (iJ e0.done)]/\(WG e0.n e0.m e0.L/\e0.n<=60/\e0.gs.length+Ev e0.n e0.done<=e0.n)/\K (AV.aJ [i 0 0 (List.length m),b 0,b 0]) [e 35 m])))):=by kernel_rfl
def V1(x:Ch):List AV×List Dn.Obj:=([fq x.1 x.2],[])
def G1(x:Ch):Prop:=nW x.1 x.2
def T8(x:Ch):Out (AV×List Dn.Obj):= .aq (decide ((yw x.1 x.2).2=0))
 (.one (.aJ [.ak 0 0 (j5 (Lg x.1 x.2)).length, .int 0, .int 0],[.row 35 (j5 (Lg x.1 x.2))]))
 (.one (.aJ [.nil, .int (yw x.1 x.2).1, .int (yw x.1 x.2).2],[]))
theorem cGr(κ:Kp):bg (Ye κ) 12 18 (aO V1 G1 T8):=by
 refine aQ ?_;rintro⟨ds,rs⟩ K hs ho;refine Eq.mpr (yGr κ ds rs K) ?_;have ho:aq (decide ((yw ds rs).2=0)) (K (.aJ [.ak 0 0 (j5 (Lg ds rs)).length, .int 0, .int 0]) [.row 35 (j5 (Lg ds rs))]) (K (.aJ [.nil, .int (yw ds rs).1, .int (yw ds rs).2]) []):=ho;rw[ae,an2,an4] at ho;have hs:nW ds rs:=hs;refine⟨(ds,rs),rfl,hs,?_⟩;rw[ae];by_cases hc:(mi ds rs).2=0
 ·refine⟨fun e=>absurd hc (by simpa using e),fun _=>⟨(ds,rs),rfl,wY hc,?_⟩⟩
  have hf:=wY hc;have hg:=NV hs hc;rw[show yw ds rs=BG ds.length (so ds rs) (Dh ds rs) ds rs by unfold yw;rw[an8 hc];rfl] at ho;rw[ae];refine⟨fun e=>?_,fun e=>?_⟩
  ·obtain rfl:ds=[]:=List.eq_nil_of_length_eq_zero (Nat.eq_of_beq_eq_true e)
   obtain rfl:rs=[]:=by
    cases rs with
    |nil=>rfl
    |cons r rs=>have:=(hg r (by simp)).hd;simp only[List.length_nil] at this;omega
   refine⟨⟨dw (Dh [] []),[]⟩,rfl,trivial,⟨_,[]⟩,rfl,trivial,rfl,⟨_,_⟩,rfl,trivial,?_⟩;have h1:=ho.1 rfl;have h2:Lg [] []=[]:=by
    unfold Lg;rw[CE];rfl
   rw[h2] at h1;exact h1
  ·refine⟨⟨ds.length,so ds rs,Dh ds rs,ds,rs,0⟩,rfl,⟨hs.1,hs.2.1,hg⟩,?_⟩
   rw[ae];refine⟨fun e2=>ho.2 (by simpa using e2),fun e2=>?_⟩;have h1:=ho.1 (by simpa using e2);exact⟨⟨ds.length,so ds rs,Dh ds rs,[],0,[]⟩,rfl,⟨hf.wg,hf.hd⟩,rfl,⟨ds.length,so ds rs,Dh ds rs,[],[]⟩,rfl,⟨hf.wg,hf.hd,by simp only[List.length_nil,Nat.zero_add];exact G6 _ _⟩,h1⟩
 ·rw[show yw ds rs=mi ds rs by unfold yw;rw[an6 hc];rfl] at ho
  exact⟨fun _=>ho.2 hc,fun e=>absurd (by simpa using e) hc⟩
noncomputable def EGr(κ:Kp):Env:=(Ye κ).aw 18 (aO V1 G1 T8)
theorem eGr(κ:Kp):aE (EGr κ):=(eGo κ).aw (mGo κ) (cGr κ)
theorem mGr(κ:Kp):aj (EGr κ):=(mGo κ).aw aH
noncomputable abbrev EHg(κ:Kp):Env:=EGr κ
theorem eHg(κ:Kp):aE (EHg κ):=eGr κ
theorem mHg(κ:Kp):aj (EHg κ):=mGr κ
end Go.Proofs.YtioeffnadipbaaaGreatDoor
