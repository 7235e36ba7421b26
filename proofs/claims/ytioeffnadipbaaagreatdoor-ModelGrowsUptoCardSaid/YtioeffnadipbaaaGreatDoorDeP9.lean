import Derived.Test.YtioeffnadipbaaaGreatDoorDeP8
namespace Go.Rl
open Go Go.Dn
section
variable {n m m':Nat} {L M:Gr}
structure ar1(n m:Nat)(L:Gr)(done:List Int)(gs:List (List Int)):Prop where
 srt: ∀g,g∈gs->g.Pairwise (· < ·)
 lp: ∀c,c∈gs.flatten->(0<=c/\c<n)/\c∉done
 all: ∀c:Int,0<=c->c<n->c∉done->c∈gs.flatten
 tX:gs.flatten.Nodup
end
end Go.Rl
namespace Go.Proofs.YtioeffnadipbaaaGreatDoor
open Go Go.Dn Go.Rl Go.Proofs
attribute [local irreducible] a0 vc
set_option maxRecDepth 20000
theorem yMu κ N ls fs a b K:(a0 (Yh κ) 12 91 [.ptr 0 0 [] 0, .int a, .int b] (uD N ls fs) K)=(
 letI c:=AV.agg [AV.ak 1 0 N,AV.ak 2 0 fs.length]
 letI d:=AV.bool false
 aq (a==b) (K (AV.bool true) [Obj.box 145 c,Obj.rows 35 3 ls none,Obj.row 101 fs]) (aV (decide ((0:Int)<=a)&&decide (a<(↑(fs.length):Int))) (aq
 (Dn.toBool (c6 (List.zip (B0 (nth fs (0+a.toNat))) (x9 (nth fs (0+a.toNat)))) (Value.int IntKind.i64 b) d)) (aV (decide ((0:Int)<=b)&&decide (b<
 (↑(fs.length):Int))) (K (AV.bool (Dn.toBool (c6 (List.zip (B0 (nth fs (0+b.toNat))) (x9 (nth fs (0+b.toNat)))) (Value.int IntKind.i64 a) d))) [Obj.box
 145 c,Obj.rows 35 3 ls none,Obj.row 101 fs])) (K d [Obj.box 145 c,Obj.rows 35 3 ls none,Obj.row 101 fs])))):=by kernel_rfl
theorem Jq: ∀l,(l.map gS).zip (l.map fun _=>AV.lit (.bool true))=iD l
 |[]=>rfl
 |a::l=>by
  grind [iD]
theorem Dd n m L(k:Nat)(a:Int)(b:0<=a)(h:a<k):nth (bu n m L k) (0+a.toNat)=Xs (iR n m L a):=by
 rw[Nat.zero_add,aM _ _ (by grind [kK])];simp only[bu,List.getElem_map,List.getElem_range];rfl
theorem Hz n m L(k:Nat)(a b:Int)(c:0<=a)(h:a<k):Dn.toBool (c6 (List.zip (B0 (nth (bu n m L k) (0+a.toNat))) (x9 (nth (bu n m L k) (0+a.toNat)))) (Value.int IntKind.i64 b) (AV.lit (Value.bool false)))=(iR n m L a).contains b:=by
 rw[Dd n m L k a c h];simp only[B0,x9];rw[Jq,mu];rfl
structure Uv where
 n:Nat
 m:Nat
 L:Gr
 a:Int
 b:Int
abbrev qp n m L:=uD n (dy L) (bu n m L n)
def ae4(x:Uv):List AV×List Dn.Obj:=([.ptr 0 0 [] 0, .int x.a, .int x.b],qp x.n x.m x.L)
def O0(x:Uv):=(0<=x.a/\x.a<x.n)/\0<=x.b/\x.b<x.n
def Of(x:Uv):Out (AV×List Dn.Obj):= .one (.bool (ll x.n x.m x.L x.a x.b),qp x.n x.m x.L)
theorem cMu κ:bc (Yh κ) 12 91 (aO ae4 O0 Of):=by
 refine aR ?_;rintro⟨n,m,L,a,b⟩ K ⟨⟨g,d⟩,f,c⟩ e;refine Eq.mpr (yMu κ n (dy L) (bu n m L n) a b K) ?_;simp only[Of,Out.run,ll,qp,uD,kK] at e;rw[Hz n m L n a b g d,Hz n m L n b a f c,kK];simp only[ai,ae,ar5,ar4,beq_iff_eq]
 grind
noncomputable def QL κ:=(Yh κ).aw 91 (aO ae4 O0 Of)
theorem eMu κ:aE (QL κ):=(eOf _).aw (mOf _) (cMu _)
theorem mMu κ:aj (QL κ):=(mOf _).aw aI
theorem xGp κ(N i:Nat) ls fs ws a I n K:(vc (QL κ) 12 45 none 3 (ad (Pr κ).toProgram 45 3) (sp 25 [(0, .ptr 0 0 [] 0),(1, .int a),(5, .ak 3 0 ws.length),(11, .int N),(12, .int i)] (uD N ls fs++[.row 3 ws])) (bj (QL κ) 45 3 3 I n K))=(
 letI b:=AV.ptr 0 0 []
 letI c:=AV.int
 letI d:=Obj.box
 letI e:=Obj.row
 letI f:=Obj.rows
 letI g:=AV.ak
 letI k:=IntKind.wrap IntKind.i64 ((↑i:Int)+(1:Int))
 letI l:=AV.agg [g 1 0 N,g 2 0 fs.length]
 aq (decide ((↑i:Int)<(↑N:Int))) (∃(e1:Uv),letI h:=bu e1.n e1.m e1.L e1.n;letI j:=AV.agg [g 1 0 e1.n,g 2 0 (List.length h)];([b 0,c a,c (↑i:Int)],[d 145 l,f 35 3 ls none,e 101 fs])=([b 0,c e1.a,c e1.b],[d 145 j,f 35 3 (dy e1.L) none,e 101 h])/\(((0:Int)<=e1.a/\e1.a<(↑(e1.n):Int))/\(0:Int)<=e1.b/\e1.b<(↑(e1.n):Int))/\aq (ll e1.n e1.m e1.L e1.a e1.b) (aV (decide ((ws.length+1+1)*9<=70368744177664)) (∃(e0:Nat),e0<n/\I e0 (sp 25 [(0,b 0),(1,c a),(5,g 3 0 (ws.length+1)),(11,c (↑N:Int)),(12,c k)] [d 145 j,f 35 3 (dy e1.L) none,e 101 h,e 3 (List.take ws.length ws++[c (↑i:Int)])]))) (∃(e0:Nat),e0<n/\I e0 (sp 25 [(0,b 0),(1,c a),(5,g 3 0 ws.length),(11,c (↑N:Int)),(12,c k)] [d 145 j,f 35 3 (dy e1.L) none,e 101 h,e 3 ws]))) (K (Exit.exit 0) (sp 25 [(5,g 3 0 ws.length)] [d 145 l,f 35 3 ls none,e 101 fs,e 3 ws]))):=by kernel_rfl
def wB n m L a i:=(jO i).filter (ll n m L a)
theorem J2 n m L a i:wB n m L a (i+1)=bif ll n m L a i then wB n m L a i++[(i:Int)] else wB n m L a i:=by
 grind [wB,jO,List.range_succ]
theorem CK n m L a i:(wB n m L a i).length<=i:=by
 grind [jO,wB]
structure SV where
 n:Nat
 m:Nat
 L:Gr
 a:Int
 i:Nat
abbrev Sn(x:SV):=sp 25 [(0, .ptr 0 0 [] 0),(1, .int x.a),(5, .ak 3 0 (iA (wB x.n x.m x.L x.a x.i)).length),(11, .int x.n),(12, .int x.i)] (qp x.n x.m x.L++[.row 3 (iA (wB x.n x.m x.L x.a x.i))])
def OR(x:SV):=(0<=x.a/\x.a<x.n)/\x.i<=x.n/\x.n<=60
def Tv(x:SV):Out (Exit×S):= .one (.exit 0,sp 25 [(5, .ak 3 0 (iA (ig x.n x.m x.L x.a)).length)] (qp x.n x.m x.L++[.row 3 (iA (ig x.n x.m x.L x.a))]))
theorem lGp κ:aU (QL κ) 12 45 3 (aG 3 Sn OR Tv):=by
 refine aC (fun x=>x.n - x.i) ?_;rintro⟨n,m,L,a,i⟩ K ⟨c,g,f⟩ d;simp only at c g f;rw[show(QL κ).P=Pr κ from rfl];refine Eq.mpr (xGp κ n i (dy L) (bu n m L n) (iA (wB n m L a i)) a _ _ K) ?_;have j:=CK n m L a i;rw[ae,ar4,ar6];refine⟨fun h=>⟨⟨n,m,L,a,i⟩,rfl,⟨c,by simp only;omega,h⟩,?_⟩,fun h=>?_⟩
 ·rw[az (n:=(i:Int)+1) (by omega) (by omega),ae,ai,ar4,List.take_length]
  have b:=J2 n m L a i;refine⟨fun e=>⟨by rw[jd];omega,_,?_,⟨n,m,L,a,i+1⟩,?_,⟨c,by simp only;omega,f⟩,rfl,d⟩,fun e=>⟨_,?_,⟨n,m,L,a,i+1⟩,?_,⟨c,by simp only;omega,f⟩,rfl,d⟩⟩
  ·simp only;omega
  ·simp only at e
   rw[e,as1] at b;simp only[Sn,b,wD,as9];rfl
  ·simp only;omega
  ·simp only at e
   rw[e,ar9] at b;simp only[Sn,b];rfl
 ·obtain rfl:n=i:=by omega
  exact d
noncomputable def X6 κ:=(QL κ).an 45 3 (aG 3 Sn OR Tv)
theorem eGp κ:aE (X6 κ):=(eMu _).an (mMu _) (lGp _)
theorem mGp κ:aj (X6 κ):=(mMu _).an aJ
theorem yGp κ N ls fs a K:(a0 (X6 κ) 12 45 [.ptr 0 0 [] 0, .int a] (uD N ls fs) K)=(
 letI b:=AV.int
 letI c:=Obj.row
 letI d:=AV.ak
 letI f:=Pg.toProgram (Env.P (QL κ))
 ad f 45 3=ad f 45 3/\∃(e0:SV),letI e:=bu e0.n e0.m e0.L e0.n;letI g:=AV.agg [d 1 0 e0.n,d 2 0 (List.length e)];letI h:=iA (wB e0.n e0.m e0.L e0.a e0.i);letI i:=iA (ig e0.n e0.m e0.L e0.a);sp 25 [(0,AV.ptr 0 0 [] 0),(1,b a),(5,d 3 0 0),(11,b (↑N:Int)),(12,b 0)] [Obj.box 145 (AV.agg [d 1 0 N,d 2 0 fs.length]),Obj.rows 35 3 ls none,c 101 fs,c 3 []]=sp 25 [(0,AV.ptr 0 0 [] 0),(1,b e0.a),(5,d 3 0 (List.length h)),(11,b (↑(e0.n):Int)),(12,b (↑(e0.i):Int))] [Obj.box 145 g,Obj.rows 35 3 (dy e0.L) none,c 101 e,c 3 h]/\(((0:Int)<=e0.a/\e0.a<(↑(e0.n):Int))/\e0.i<=e0.n/\e0.n<=60)/\K (AV.ah 3 (List.take (List.length i) (List.drop 0 i))) [Obj.box 145 g,Obj.rows 35 3 (dy e0.L) none,c 101 e]):=by kernel_rfl
def ad6(x:SV):List AV×List Dn.Obj:=([.ptr 0 0 [] 0, .int x.a],qp x.n x.m x.L)
def OS(x:SV):=(0<=x.a/\x.a<x.n)/\x.n<=60
def Tw(x:SV):Out (AV×List Dn.Obj):= .one (.ah 3 (iA (ig x.n x.m x.L x.a)),qp x.n x.m x.L)
theorem cGq κ:bc (X6 κ) 12 45 (aO ad6 OS Tw):=by
 refine aR ?_;rintro⟨n,m,L,a,i⟩ K ⟨c,d⟩ b;refine Eq.mpr (yGp _ n _ _ a K) ?_;refine⟨rfl,⟨n,m,L,a,0⟩,rfl,by grind,?_⟩;rw[as4,List.take_length];exact b
noncomputable def QG κ:=(X6 κ).aw 45 (aO ad6 OS Tw)
theorem eGq κ:aE (QG κ):=(eGp _).aw (mGp _) (cGq _)
theorem mGq κ:aj (QG κ):=(mGp _).aw aI
theorem xNi κ(N:Nat) a ls fs es ks met vs I n K:(vc (QG κ) 12 44 none 4 (ad (Pr κ).toProgram 44 6) (sp 43 [(0, .ptr 0 0 [] 0),(1, .mp 3),(5, .int a),(11, .int N),(12, .int a),(25, .ptr 4 0 [] 0)] (uD N ls fs++[.map 3 4 es, .fit 3 4 ks vs met])) (bj (QG κ) 44 6 4 I n K))=(
 letI b:=AV.ptr 0 0 []
 letI c:=AV.int
 letI d:=Obj.box
 letI e:=Obj.row
 letI f:=Obj.rows
 letI g:=Dn.Obj.map
 letI i:=AV.agg [AV.ak 1 0 N,AV.ak 2 0 fs.length]
 (∀(e3:Int) (e2:AV),List.Mem (Value.int IntKind.i64 e3,e2) (List.zip ks vs)->kq met (Value.int IntKind.i64 e3)=false->aq (!Dn.toBool (c6 es (Value.int IntKind.i64 e3) (AV.bool false))) (∃(e1:Uv),letI h:=bu e1.n e1.m e1.L e1.n;letI j:=AV.agg [AV.ak 1 0 e1.n,AV.ak 2 0 (List.length h)];([b 0,c a,c e3],[d 145 i,f 35 3 ls none,e 101 fs])=([b 0,c e1.a,c e1.b],[d 145 j,f 35 3 (dy e1.L) none,e 101 h])/\(((0:Int)<=e1.a/\e1.a<(↑(e1.n):Int))/\(0:Int)<=e1.b/\e1.b<(↑(e1.n):Int))/\aq (!ll e1.n e1.m e1.L e1.a e1.b) (K (Exit.exit 1) (sp 43 [(0,b 0),(1,AV.mp 3),(11,c (↑N:Int)),(12,c a)] [d 145 j,f 35 3 (dy e1.L) none,e 101 h,g 3 4 es])) (∃(e0:Nat),e0<n/\I e0 (sp 43 [(0,b 0),(1,AV.mp 3),(5,c a),(11,c (↑N:Int)),(12,c a),(25,AV.ptr 4 0 [] 0)] [d 145 j,f 35 3 (dy e1.L) none,e 101 h,g 3 4 es,Obj.fit 3 4 ks vs (Value.int IntKind.i64 e3::met)]))) (∃(e0:Nat),e0<n/\I e0 (sp 43 [(0,b 0),(1,AV.mp 3),(5,c a),(11,c (↑N:Int)),(12,c a),(25,AV.ptr 4 0 [] 0)] [d 145 i,f 35 3 ls none,e 101 fs,g 3 4 es,Obj.fit 3 4 ks vs (Value.int IntKind.i64 e3::met)])))/\(kl met (List.zip ks vs)=true->K (Exit.exit 2) (sp 43 [(5,c a)] [d 145 i,f 35 3 ls none,e 101 fs,g 3 4 es]))):=by kernel_rfl
theorem J6 n i(h:i<n):(jO n).drop i=(i:Int)::(jO n).drop (i+1):=by
 grind [List.drop_eq_getElem_cons,jO]
def Bc n m L done i:=(((jO n).drop i).find? (kP n m L done)).getD (-1)
theorem Ks{n} m L done{i}(h:i<n):Bc n m L done i=bif kP n m L done i then(i:Int) else Bc n m L done (i+1):=by
 grind [Bc,J6]
theorem NK n m L done:Bc n m L done n= -1:=by
 grind [Bc,List.drop_eq_nil_of_le,jO]
structure Hc where
 n:Nat
 m:Nat
 L:Gr
 done:List Int
 i:Nat
 met:List Value
def xe(x:Hc):=(iR x.n x.m x.L x.i).all fun b=>x.done.contains b||ll x.n x.m x.L x.i b
abbrev Sy(x:Hc):S:=sp 43 [(0, .ptr 0 0 [] 0),(1, .mp 3),(5, .int x.i),(11, .int x.n),(12, .int x.i),(25, .ptr 4 0 [] 0)] (qp x.n x.m x.L++[.map 3 4 (iD x.done), .fit 3 4 ((iR x.n x.m x.L x.i).map gS) ((iR x.n x.m x.L x.i).map fun _=> .lit (.bool true)) x.met])
def GL(x:Hc):=WG x.n x.m x.L/\x.i<x.n/\∀b,kq x.met (gS b)=true->b∈iR x.n x.m x.L x.i->(x.done.contains b||ll x.n x.m x.L x.i b)=true
def Io(x:Hc):Out (Exit×S):= .aq (xe x)
 (.one (.exit 2,sp 43 [(5, .int x.i)] (qp x.n x.m x.L++[.map 3 4 (iD x.done)])))
 (.one (.exit 1,sp 43 [(0, .ptr 0 0 [] 0),(1, .mp 3),(11, .int x.n),(12, .int x.i)] (qp x.n x.m x.L++[.map 3 4 (iD x.done)])))
theorem wC c b a:kq (gS c::a) (gS b)=(decide (c=b)||kq a (gS b)):=rfl
theorem DN: ∀{l c},kl c (iD l)=true->∀b,b∈l->kq c (gS b)=true
 |[],_,_,b,d=>nomatch d
 |a::l,c,h,b,d=>by
  simp[iD,kl] at h;rcases List.mem_cons.1 d with rfl|d
  ·grind
  ·exact DN  h.2 b d
theorem RG{x v l}(h:(gS x,v)∈iD l):x∈l:=by
 obtain⟨k,b,a⟩:=List.mem_map.1 h
 grind
theorem lNi κ:aU (QG κ) 12 44 6 (aG 4 Sy GL Io):=by
 refine aC (fun x=>(iR x.n x.m x.L x.i).countP fun b=>!kq x.met (gS b)) ?_;rintro⟨n,m,L,done,i,a⟩ K ⟨o,w,q⟩ z;simp only at o w q;rw[show(QG κ).P=Pr κ from rfl];refine Eq.mpr (xNi κ n i (dy L) (bu n m L n) (iD done) ((iR n m L i).map gS) a ((iR n m L i).map fun _=> .lit (.bool true)) _ _ K) ?_;have g:(0:Int)<=i:=by omega
 have f:=z;simp only[Io,Out.run,ae] at f;rw[Jq];refine⟨fun b v p l=>?_,fun C=>?_⟩
 ·have r:b∈iR n m L i:=RG p
  have B:=Rc.lp o g ((Ri o g).1 r);have y:(done.contains b||ll n m L i b)=true->∃k,k<(iR n m L i).countP (fun b=>!kq a (gS b))/\ep Sy GL Io (fun x=>(iR x.n x.m x.L x.i).countP fun b=>!kq x.met (gS b)) K k (Sy ⟨n,m,L,done,i,gS b::a⟩):=fun s=>by
   refine⟨_,?_,⟨n,m,L,done,i,gS b::a⟩,rfl,⟨o,w,fun c d t=>?_⟩,rfl,z⟩
   ·refine pq (fun c _ d=>?_) ⟨b,r,?_,?_⟩
    ·rw[wC] at d
     cases h:kq a (gS c) with
     |true=>rw[h] at d;simp at d
     |false=>rfl
    ·simp only[gS] at l⊢;rw[l];rfl
    ·rw[wC];simp
   ·rw[wC] at d
    by_cases e:b=c
    ·subst e;exact s
    ·rw[ar8 e,Bool.false_or] at d
     exact q c d t
  have A:Dn.toBool (c6 (iD done) (Value.int IntKind.i64 b) (AV.lit (Value.bool false)))=done.contains b:=by rw[mu];rfl
  rw[A];simp only[ae];refine⟨fun e=>⟨⟨n,m,L,i,b⟩,rfl,⟨⟨g,by simp only;omega⟩,B⟩,fun j=>?_,fun j=>?_⟩,fun e=>?_⟩
  ·have u:xe ⟨n,m,L,done,i,a⟩=false:=by
    rw[←Bool.not_eq_true,xe,List.all_eq_true];intro h;have:=h b r
    simp only at this j e;rw[as7] at this;rcases this with h|h
    ·rw[h] at e;cases e
    ·rw[h] at j;cases j
   exact f.2 u
  ·exact y (by simp only at j⊢;rw[as7];right;simpa using j)
  ·exact y (by rw[as7];left;simpa using e)
 ·have u:xe ⟨n,m,L,done,i,a⟩=true:=by
   rw[xe,List.all_eq_true];exact fun b l=>q b (DN C b l) l
  exact f.1 u
noncomputable def Hf κ:=(QG κ).an 44 6 (aG 4 Sy GL Io)
theorem eNi κ:aE (Hf κ):=(eGq _).an (mGq _) (lNi _)
theorem mNi κ:aj (Hf κ):=(mGq _).an aJ
theorem xNx κ(N i:Nat) ls fs es I n K:(vc (Hf κ) 12 44 none 4 (ad (Pr κ).toProgram 44 2) (sp 43 [(0, .ptr 0 0 [] 0),(1, .mp 3),(11, .int N),(12, .int i)] (uD N ls fs++[.map 3 4 es])) (bj (Hf κ) 44 2 4 I n K))=(
 letI a:=IntKind.wrap IntKind.i64
 letI b:=AV.ptr 0 0 []
 letI c:=AV.int
 letI d:=Obj.box
 letI e:=Obj.row
 letI f:=Obj.rows
 letI g:=Dn.Obj.map
 letI h:=AV.agg [AV.ak 1 0 N,AV.ak 2 0 fs.length]
 letI k:=Pg.toProgram (Env.P (QG κ))
 aq (decide ((↑i:Int)<(↑N:Int))) (aq (Dn.toBool (c6 es (Value.int IntKind.i64 (↑i:Int)) (AV.bool false))) (∃(e0:Nat),e0<n/\I e0 (sp 43 [(0,b 0),(1,AV.mp 3),(11,c (↑N:Int)),(12,c (a ((↑i:Int)+(1:Int))))] [d 145 h,f 35 3 ls none,e 101 fs,g 3 4 es])) (aV (true&&decide ((↑i:Int)<(↑(fs.length):Int))) (ad k 44 6=ad k 44 6/\∃(e1:Hc),letI j:=bu e1.n e1.m e1.L e1.n;letI l:=AV.agg [AV.ak 1 0 e1.n,AV.ak 2 0 (List.length j)];letI m:=[d 145 l,f 35 3 (dy e1.L) none,e 101 j,g 3 4 (iD e1.done)];sp 43 [(0,b 0),(1,AV.mp 3),(5,c (↑i:Int)),(11,c (↑N:Int)),(12,c (↑i:Int)),(25,AV.ptr 4 0 [] 0)] [d 145 h,f 35 3 ls none,e 101 fs,g 3 4 es,Obj.fit 3 4 (B0 (nth fs (0+Int.toNat (↑i:Int)))) (x9 (nth fs (0+Int.toNat (↑i:Int)))) []]=sp 43 [(0,b 0),(1,AV.mp 3),(5,c (↑(e1.i):Int)),(11,c (↑(e1.n):Int)),(12,c (↑(e1.i):Int)),(25,AV.ptr 4 0 [] 0)] [d 145 l,f 35 3 (dy e1.L) none,e 101 j,g 3 4 (iD e1.done),Obj.fit 3 4 (List.map gS (iR e1.n e1.m e1.L (↑(e1.i):Int))) (List.map (fun(e0:Int)=>AV.bool true) (iR e1.n e1.m e1.L (↑(e1.i):Int))) e1.met]/\(WG e1.n e1.m e1.L/\e1.i<e1.n/\∀(e0:Int),kq e1.met (Value.int IntKind.i64 e0)=true->List.Mem e0 (iR e1.n e1.m e1.L (↑(e1.i):Int))->(List.contains e1.done e0||ll e1.n e1.m e1.L (↑(e1.i):Int) e0)=true)/\aq (xe e1) (K Exit.ret (sp 43 [(4,c (↑(e1.i):Int))] m)) (∃(e0:Nat),e0<n/\I e0 (sp 43 [(0,b 0),(1,AV.mp 3),(11,c (↑(e1.n):Int)),(12,c (a ((↑(e1.i):Int)+(1:Int))))] m))))) (K (Exit.exit 0) (sp 43 [] [d 145 h,f 35 3 ls none,e 101 fs,g 3 4 es]))):=by kernel_rfl
abbrev Sz(x:Hc):=sp 43 [(0, .ptr 0 0 [] 0),(1, .mp 3),(11, .int x.n),(12, .int x.i)] (qp x.n x.m x.L++[.map 3 4 (iD x.done)])
def GM(x:Hc):=WG x.n x.m x.L/\x.i<=x.n/\x.n<=60
def Ds(x:Hc):Out (Exit×S):= .aq (decide (Bc x.n x.m x.L x.done x.i<0))
 (.one (.exit 0,sp 43 [] (qp x.n x.m x.L++[.map 3 4 (iD x.done)])))
 (.one (.ret,sp 43 [(4, .int (Bc x.n x.m x.L x.done x.i))] (qp x.n x.m x.L++[.map 3 4 (iD x.done)])))
theorem Aw n m L done(i:Nat) a:kP n m L done i=(!done.contains i&&xe ⟨n,m,L,done,i,a⟩):=rfl
theorem lNx κ:aU (Hf κ) 12 44 2 (aG 4 Sz GM Ds):=by
 refine aC (fun x=>x.n - x.i) ?_;rintro⟨n,m,L,done,i,p⟩ K ⟨g,q,o⟩ l;simp only at g q o;rw[show(Hf κ).P=Pr κ from rfl];refine Eq.mpr (xNx κ n i (dy L) (bu n m L n) (iD done) _ _ K) ?_;have a:=l;simp only[Ds,Out.run,ae] at a;have s:Dn.toBool (c6 (iD done) (Value.int IntKind.i64 i) (AV.lit (Value.bool false)))=done.contains (i:Int):=by rw[mu];rfl
 rw[s,ae,ar4,ar6];refine⟨fun h=>?_,fun h=>?_⟩
 ·have d:i<n:=by omega
  have f:=Ks m L done d;have c:kP n m L done i=false->∃k,k<n - i/\ep Sz GM Ds (fun x=>x.n - x.i) K k (Sz ⟨n,m,L,done,i+1,[]⟩):=fun e=>by
   rw[e,ar9] at f;refine⟨_,?_,⟨n,m,L,done,i+1,[]⟩,rfl,⟨g,d,o⟩,rfl,?_⟩
   ·simp only;omega
   ·simp only[Ds,Out.run,←f];exact l
  rw[ae];refine⟨fun e=>?_,fun e=>?_⟩
  ·rw[az (n:=(i:Int)+1) (by omega) (by omega)]
   exact c (by rw[Aw n m L done i [],e];rfl)
  ·rw[ai,at2,ar4,kK,Dd n m L n i (by omega) h]
   refine⟨h,rfl,⟨n,m,L,done,i,[]⟩,?_,⟨g,d,fun b r=>(nomatch r)⟩,?_⟩
   ·simp only[kK]
    rfl
   ·rw[ae]
    refine⟨fun j=>?_,fun j=>?_⟩
    ·have t:kP n m L done i=true:=by rw[Aw n m L done i [],e,j];rfl
     rw[t,as1] at f;have:=a.2 (by rw[f,ar6];omega)
     rw[f] at this;exact this
    ·rw[az (n:=(i:Int)+1) (by omega) (by omega)]
     exact c (by rw[Aw n m L done i [],j,Bool.and_false])
 ·obtain rfl:i=n:=by omega
  rw[NK] at a;exact a.1 rfl
theorem xNz κ ls es I n K:(vc (Hf κ) 12 44 none 3 (ad (Pr κ).toProgram 44 2) (sp 43 [(0, .ptr 0 0 [] 0),(1, .mp 2),(11, .int 0),(12, .int 0)] (yo 0 ls++[.map 3 4 es])) (bj (Hf κ) 44 2 3 I n K))=(
 K (Exit.exit 0) (sp 43 [] [Obj.box 145 (AV.agg [AV.ak 1 0 0,AV.nil]),Obj.rows 35 3 ls none,Dn.Obj.map 3 4 es])):=by kernel_rfl
structure Qh where
 ls:List (List Value)
 es:List (Value×AV)
abbrev ae8(x:Qh):=sp 43 [(0, .ptr 0 0 [] 0),(1, .mp 2),(11, .int 0),(12, .int 0)] (yo 0 x.ls++[.map 3 4 x.es])
def TJ(x:Qh):Out (Exit×S):= .one (.exit 0,sp 43 [] (yo 0 x.ls++[.map 3 4 x.es]))
theorem lNz κ:aU (Hf κ) 12 44 2 (aG 3 ae8 (fun _=>True) TJ):=by
 refine aC (fun _=>0) ?_;rintro⟨b,c⟩ K _ a;exact Eq.mpr (xNz _ _ _ _ _ K) a
def ab1(s:S):Bool:=Nat.beq s.st.length 4
noncomputable def Vh κ:=(Hf κ).an 44 2 (r6 ab1 (aG 4 Sz GM Ds) (aG 3 ae8 (fun _=>True) TJ))
theorem eNx κ:aE (Vh κ):=(eNi _).an (mNi _) (oW (lNx _) (lNz _))
theorem mNx κ:aj (Vh κ):=(mNi _).an (lf aJ aJ)
theorem yNx κ N ls fs es K:(a0 (Vh κ) 12 44 [.ptr 0 0 [] 0, .mp 3] (uD N ls fs++[.map 3 4 es]) K)=(
 letI b:=AV.int
 ad (Pg.toProgram (Env.P (Hf κ))) 44 2=ad (Pg.toProgram (Env.P (Hf κ))) 44 2/\∃(a:Hc),letI c:=[Obj.box 145 (AV.agg [AV.ak 1 0 a.n,AV.ak 2 0 (List.length (bu a.n a.m a.L a.n))]),Obj.rows 35 3 (dy a.L) none,Obj.row 101 (bu a.n a.m a.L a.n),Dn.Obj.map 3 4 (iD a.done)];sp 43 [(0,AV.ptr 0 0 [] 0),(1,AV.mp 3),(11,b (↑N:Int)),(12,b 0)] [Obj.box 145 (AV.agg [AV.ak 1 0 N,AV.ak 2 0 fs.length]),Obj.rows 35 3 ls none,Obj.row 101 fs,Dn.Obj.map 3 4 es]=sp 43 [(0,AV.ptr 0 0 [] 0),(1,AV.mp 3),(11,b (↑(a.n):Int)),(12,b (↑(a.i):Int))] c/\(WG a.n a.m a.L/\a.i<=a.n/\a.n<=60)/\aq (decide (Bc a.n a.m a.L a.done a.i<(0:Int))) (K (b (-1)) c) (K (b (Bc a.n a.m a.L a.done a.i)) c)):=by kernel_rfl
def ae7(x:Hc):List AV×List Dn.Obj:=([.ptr 0 0 [] 0, .mp 3],qp x.n x.m x.L++[.map 3 4 (iD x.done)])
def O1(x:Hc):=WG x.n x.m x.L/\x.n<=60
def Og(x:Hc):Out (AV×List Dn.Obj):= .one (.int (gY x.n x.m x.L x.done),qp x.n x.m x.L++[.map 3 4 (iD x.done)])
theorem RN n m L done(h:gY n m L done<0):gY n m L done= -1:=by
 unfold gY at h⊢;cases e:(jO n).find? _<;>grind [oG]
theorem cNy κ:bc (Vh κ) 12 44 (aO ae7 O1 Og):=by
 refine aR ?_;rintro⟨n,m,L,done,i,b⟩ K ⟨c,d⟩ a;refine Eq.mpr (yNx κ n (dy L) _ (iD done) K) ?_;refine⟨rfl,⟨n,m,L,done,0,[]⟩,rfl,by grind,?_⟩;simp only[Og,Out.run] at a;rw[ae];refine⟨fun e=>?_,fun _=>a⟩;rw[RN n m L done (of_decide_eq_true e)] at a;exact a
theorem yNz κ ls es K:(a0 (Vh κ) 12 44 [.ptr 0 0 [] 0, .mp 2] (yo 0 ls++[.map 3 4 es]) K)=(
 letI a:=AV.int
 letI b:=AV.agg [AV.ak 1 0 0,AV.nil]
 letI c:=Pg.toProgram (Env.P (Hf κ))
 ad c 44 2=ad c 44 2/\∃(e0:Qh),letI d:=[Obj.box 145 b,Obj.rows 35 3 e0.ls none,Dn.Obj.map 3 4 e0.es];sp 43 [(0,AV.ptr 0 0 [] 0),(1,AV.mp 2),(11,a 0),(12,a 0)] [Obj.box 145 b,Obj.rows 35 3 ls none,Dn.Obj.map 3 4 es]=sp 43 [(0,AV.ptr 0 0 [] 0),(1,AV.mp 2),(11,a 0),(12,a 0)] d/\True/\K (a (-1)) d):=by kernel_rfl
def ae6(x:Qh):List AV×List Dn.Obj:=([.ptr 0 0 [] 0, .mp 2],yo 0 x.ls++[.map 3 4 x.es])
def TI(x:Qh):Out (AV×List Dn.Obj):= .one (.int (-1),yo 0 x.ls++[.map 3 4 x.es])
theorem cNw κ:bc (Vh κ) 12 44 (aO ae6 (fun _=>True) TI):=by
 refine aR ?_;rintro⟨b,c⟩ K _ a;refine Eq.mpr (yNz _ _ _ K) ?_;exact⟨rfl,_,rfl,trivial,a⟩
def ab2(st:List Dn.Obj):=Nat.beq st.length 4
noncomputable def Yf κ:=(Vh κ).aw 44 (Gv ab2 (aO ae7 O1 Og) (aO ae6 (fun _=>True) TI))
theorem eNy κ:aE (Yf κ):=(eNx _).aw (mNx _) (By (cNy _) (cNw _))
theorem mNy κ:aj (Yf κ):=(mNx _).aw (tq aI aI)
def Sp(a:Int):List AV×List Dn.Obj:=([.int a],[])
def TC(a:Int):Out (AV×List Dn.Obj):= .one (.bool (jP a),[])
def N9(a:Int):Out (AV×List Dn.Obj):= .one (.bool (ik a),[])
def BL(_:Int):Prop:=True
theorem yIa κ op K:(a0 (Yf κ) 12 90 [.int op] [] K)=(
 K (AV.bool (op==(1:Int))) []):=by kernel_rfl
theorem cIa κ:bc (Yf κ) 12 90 (aO Sp BL TC):=by
 refine aR ?_;rintro b K _ a;refine Eq.mpr (yIa _ _ K) ?_;exact a
noncomputable def X7 κ:=(Yf κ).aw 90 (aO Sp BL TC)
theorem eIa κ:aE (X7 κ):=(eNy _).aw (mNy _) (cIa _)
theorem mIa κ:aj (X7 κ):=(mNy _).aw aI
theorem yIb κ op K:(a0 (X7 κ) 12 88 [.int op] [] K)=(
 aq (op==(2:Int)) (K (AV.bool true) []) (K (AV.bool (decide (op>=(7:Int)))) [])):=by kernel_rfl
theorem cIb κ:bc (X7 κ) 12 88 (aO Sp BL N9):=by
 refine aR ?_;rintro b K _ a;refine Eq.mpr (yIb _ _ K) ?_;simp[N9,ik] at a;rw[Xq];cases h:decide (b=2)<;>rw[h] at a<;>exact a
noncomputable def EN κ:=(X7 κ).aw 88 (aO Sp BL N9)
theorem eIb κ:aE (EN κ):=(eIa _).aw (mIa _) (cIb _)
theorem mIb κ:aj (EN κ):=(mIa _).aw aI
structure Ha where
 n:Nat
 m:Nat
 L:Gr
 ds:List AV
 rs:List AV
 a:dh
 h:Int
def mh(a:Int->Bool) n m L ds h(b:List _):=b.any fun l=>a (toInt (ag l 0))&&ll n m L h (bx (toStr (ag (ag l 1) 0)) ds)
def tv(b:Int->Bool)(x:Ha):=(0<=x.h/\x.h<x.n)/\x.ds.length<=aW/\x.a.bl.length<=aW/\0<=x.a.i/\x.a.i<=x.a.bl.length/\∀l,l∈x.a.bl->b (toInt (ag l 0))=true->0<=bx (toStr (ag (ag l 1) 0)) x.ds/\bx (toStr (ag (ag l 1) 0)) x.ds<x.n
def BG(b:Int->Bool)(x:Ha):=x.h=bx x.a.rel x.ds/\(0<=x.h/\x.h<x.n)/\x.ds.length<=aW/\x.a.bl.length<=aW/\∀l,l∈x.a.bl->b (toInt (ag l 0))=true->0<=bx (toStr (ag (ag l 1) 0)) x.ds/\bx (toStr (ag (ag l 1) 0)) x.ds<x.n
theorem xAa(κ:Kp)(N:Nat) ls ds rs fs(a:dh)(h:Int) I n K:(vc (EN κ) 12 168 none 8 (ad (Pr κ).toProgram 168 2) (sp 19 [(0, .ah 80 a.bl),(1, .bm 134 [.ptr 4 0 [] 0, .ptr 6 0 [] 0, .ptr 3 0 [] 0, .ptr 7 0 [] 0]),(7, .int a.bl.length),(8, .int a.i)] (uD N ls fs++[.box 99 (.ptr 0 0 [] 0), .box 25 (eH ds rs), .box 48 (au a), .box 152 (.bm 90 []), .box 3 (.int h)])) (bj (EN κ) 168 2 8 I n K))=(
 letI b:=AV.ptr 0 0 []
 letI c:=AV.int
 letI d:=AV.ptr
 letI e:=Obj.box
 letI f:=Obj.row
 letI g:=Obj.rows
 letI i:=AV.ah
 letI k:=AV.agg [i 43 ds,i 48 rs]
 letI l:=AV.agg [AV.ak 1 0 N,AV.ak 2 0 fs.length]
 letI m:=b 0
 letI q:=IntKind.wrap IntKind.i64 (a.i+(1:Int))
 letI j:=a.bl.length
 letI o:=AV.bm 90 []
 aq (decide (a.i<(↑j:Int))) (aV (decide ((0:Int)<=a.i)&&decide (a.i<(↑j:Int))) (∃(e3:List AV×ByteArray),([i 43 ds,AV.str (toStr (ag (ag (nth a.bl a.i.toNat) 1) 0))],aL)=([i 43 e3.1,AV.str e3.2],aL)/\ix e3/\∃(e2:Int),([c (toInt (ag (nth a.bl a.i.toNat) 0))],aL)=([c e2],aL)/\True/\aq (jP e2) (∃(e1:Uv),letI p:=bu e1.n e1.m e1.L e1.n;letI r:=AV.agg [AV.ak 1 0 e1.n,AV.ak 2 0 (List.length p)];letI s:=[e 145 r,g 35 3 (dy e1.L) none,f 101 p,e 99 m,e 25 k,e 48 (au a),e 152 o,e 3 (c h)];([b 0,c h,c (bx e3.2 e3.1)],[e 145 l,g 35 3 ls none,f 101 fs])=([b 0,c e1.a,c e1.b],[e 145 r,g 35 3 (dy e1.L) none,f 101 p])/\(((0:Int)<=e1.a/\e1.a<(↑(e1.n):Int))/\(0:Int)<=e1.b/\e1.b<(↑(e1.n):Int))/\aq (ll e1.n e1.m e1.L e1.a e1.b) (K Exit.ret (sp 19 [(4,c a.i)] s)) (∃(e0:Nat),e0<n/\I e0 (sp 19 [(0,i 80 a.bl),(1,AV.bm 134 [d 4 0 [] 0,d 6 0 [] 0,d 3 0 [] 0,d 7 0 [] 0]),(7,c (↑j:Int)),(8,c q)] s))) (∃(e0:Nat),e0<n/\I e0 (sp 19 [(0,i 80 a.bl),(1,AV.bm 134 [d 4 0 [] 0,d 6 0 [] 0,d 3 0 [] 0,d 7 0 [] 0]),(7,c (↑j:Int)),(8,c q)] [e 145 l,g 35 3 ls none,f 101 fs,e 99 m,e 25 k,e 48 (au a),e 152 o,e 3 (c h)])))) (K (Exit.exit 0) (sp 19 [] [e 145 l,g 35 3 ls none,f 101 fs,e 99 m,e 25 k,e 48 (au a),e 152 o,e 3 (c h)]))):=by kernel_rfl
abbrev Sf(x:Ha):=sp 19 [(0, .ah 80 x.a.bl),(1, .bm 134 [.ptr 4 0 [] 0, .ptr 6 0 [] 0, .ptr 3 0 [] 0, .ptr 7 0 [] 0]),(7, .int x.a.bl.length),(8, .int x.a.i)] (uD x.n (dy x.L) (bu x.n x.m x.L x.n)++[.box 99 (.ptr 0 0 [] 0), .box 25 (eH x.ds x.rs), .box 48 (au x.a), .box 152 (.bm 90 []), .box 3 (.int x.h)])
def Ic(x:Ha):Out (Exit×S):= .all (fun j:Int=>0<=j) fun j=> .aq (mh jP x.n x.m x.L x.ds x.h (x.a.bl.drop x.a.i.toNat))
 (.one (.ret,sp 19 [(4, .int j)] (qp x.n x.m x.L++[.box 99 (.ptr 0 0 [] 0), .box 25 (eH x.ds x.rs), .box 48 (au x.a), .box 152 (.bm 90 []), .box 3 (.int x.h)])))
 (.one (.exit 0,sp 19 [] (qp x.n x.m x.L++[.box 99 (.ptr 0 0 [] 0), .box 25 (eH x.ds x.rs), .box 48 (au x.a), .box 152 (.bm 90 []), .box 3 (.int x.h)])))
theorem lAa κ:aU (EN κ) 12 168 2 (aG 8 Sf (tv jP) Ic):=by
 refine aC (fun x=>x.a.bl.length - x.a.i.toNat) ?_;rintro⟨n,m,L,ds,o,⟨xs,d,g,t,b,c,i⟩,h⟩ K ⟨u,hd,w,q,y,r⟩ s;simp only at u hd w q y r;rw[show(EN κ).P=Pr κ from rfl];refine Eq.mpr (xAa κ n (dy L) ds o (bu n m L n) ⟨xs,d,g,t,b,c,i⟩ h _ _ K) ?_;simp only[aW] at w;rw[ae,ai,ar5,ar4,ar4,ar6];refine⟨fun j=>⟨⟨q,j⟩,(ds,toStr (ag (ag (nth b i.toNat) 1) 0)),rfl,hd,toInt (ag (nth b i.toNat) 0),rfl,trivial,?_⟩,fun j=>?_⟩
 ·have j:i<(b.length:Int):=j
  have p:i.toNat<b.length:=by omega
  have z:nth b i.toNat∈b:=by rw[aM _ _ p];exact List.getElem_mem _
  have v:mh jP n m L ds h (b.drop i.toNat)=((jP (toInt (ag (nth b i.toNat) 0))&&ll n m L h (bx (toStr (ag (ag (nth b i.toNat) 1) 0)) ds))||mh jP n m L ds h (b.drop (i.toNat+1))):=by
   rw[as5 p,←aM b i.toNat p];rfl
  have f:(jP (toInt (ag (nth b i.toNat) 0))&&ll n m L h (bx (toStr (ag (ag (nth b i.toNat) 1) 0)) ds))=false->∃k,k<b.length - i.toNat/\ep Sf (tv jP) Ic (fun x=>x.a.bl.length - x.a.i.toNat) K k (Sf ⟨n,m,L,ds,o,⟨xs,d,g,t,b,c,i+1⟩,h⟩):=fun e=>by
   rw[e,Bool.false_or] at v;refine⟨_,?_,⟨n,m,L,ds,o,⟨xs,d,g,t,b,c,i+1⟩,h⟩,rfl,⟨u,hd,by simpa[aW] using w,by simp only;omega,by simp only;omega,r⟩,rfl,?_⟩
   ·simp only;omega
   ·simp only[Ic,Out.run,show(i+1).toNat=i.toNat+1 by omega,←v]
    exact s
  rw[az (n:=i+1) (by omega) (by omega),ae];refine⟨fun e=>⟨⟨n,m,L,h,bx (toStr (ag (ag (nth b i.toNat) 1) 0)) ds⟩,rfl,⟨u,r _ z e⟩,?_⟩,fun e=>?_⟩
  ·rw[ae]
   refine⟨fun l=>?_,fun l=>?_⟩
   ·have:=s i q
    simp only at l;simp only[Out.run] at this;rw[v,e,l] at this;exact this
   ·exact f (by rw[e,at2];exact l)
  ·exact f (by rw[e,Bool.false_and])
 ·have:=s 0 (by omega)
  simp only at j;simp only[Out.run] at this;rw[as2 (by omega)] at this;exact this
theorem xAb(κ:Kp)(N:Nat) ls ds rs fs(a:dh) h I n K:(vc (EN κ) 12 168 none 8 (ad (Pr κ).toProgram 168 2) (sp 19 [(0, .ah 80 a.bl),(1, .bm 134 [.ptr 4 0 [] 0, .ptr 6 0 [] 0, .ptr 3 0 [] 0, .ptr 7 0 [] 0]),(7, .int a.bl.length),(8, .int a.i)] (uD N ls fs++[.box 99 (.ptr 0 0 [] 0), .box 25 (eH ds rs), .box 48 (au a), .box 152 (.bm 88 []), .box 3 (.int h)])) (bj (EN κ) 168 2 8 I n K))=(
 letI b:=AV.ptr 0 0 []
 letI c:=AV.int
 letI d:=AV.ptr
 letI e:=Obj.box
 letI f:=Obj.row
 letI g:=Obj.rows
 letI i:=AV.ah
 letI k:=AV.agg [i 43 ds,i 48 rs]
 letI l:=AV.agg [AV.ak 1 0 N,AV.ak 2 0 fs.length]
 letI m:=b 0
 letI q:=IntKind.wrap IntKind.i64 (a.i+(1:Int))
 letI j:=a.bl.length
 letI o:=AV.bm 88 []
 aq (decide (a.i<(↑j:Int))) (aV (decide ((0:Int)<=a.i)&&decide (a.i<(↑j:Int))) (∃(e3:List AV×ByteArray),([i 43 ds,AV.str (toStr (ag (ag (nth a.bl a.i.toNat) 1) 0))],aL)=([i 43 e3.1,AV.str e3.2],aL)/\ix e3/\∃(e2:Int),([c (toInt (ag (nth a.bl a.i.toNat) 0))],aL)=([c e2],aL)/\True/\aq (ik e2) (∃(e1:Uv),letI p:=bu e1.n e1.m e1.L e1.n;letI r:=AV.agg [AV.ak 1 0 e1.n,AV.ak 2 0 (List.length p)];letI s:=[e 145 r,g 35 3 (dy e1.L) none,f 101 p,e 99 m,e 25 k,e 48 (au a),e 152 o,e 3 (c h)];([b 0,c h,c (bx e3.2 e3.1)],[e 145 l,g 35 3 ls none,f 101 fs])=([b 0,c e1.a,c e1.b],[e 145 r,g 35 3 (dy e1.L) none,f 101 p])/\(((0:Int)<=e1.a/\e1.a<(↑(e1.n):Int))/\(0:Int)<=e1.b/\e1.b<(↑(e1.n):Int))/\aq (ll e1.n e1.m e1.L e1.a e1.b) (K Exit.ret (sp 19 [(4,c a.i)] s)) (∃(e0:Nat),e0<n/\I e0 (sp 19 [(0,i 80 a.bl),(1,AV.bm 134 [d 4 0 [] 0,d 6 0 [] 0,d 3 0 [] 0,d 7 0 [] 0]),(7,c (↑j:Int)),(8,c q)] s))) (∃(e0:Nat),e0<n/\I e0 (sp 19 [(0,i 80 a.bl),(1,AV.bm 134 [d 4 0 [] 0,d 6 0 [] 0,d 3 0 [] 0,d 7 0 [] 0]),(7,c (↑j:Int)),(8,c q)] [e 145 l,g 35 3 ls none,f 101 fs,e 99 m,e 25 k,e 48 (au a),e 152 o,e 3 (c h)])))) (K (Exit.exit 0) (sp 19 [] [e 145 l,g 35 3 ls none,f 101 fs,e 99 m,e 25 k,e 48 (au a),e 152 o,e 3 (c h)]))):=by kernel_rfl
abbrev Sg(x:Ha):=sp 19 [(0, .ah 80 x.a.bl),(1, .bm 134 [.ptr 4 0 [] 0, .ptr 6 0 [] 0, .ptr 3 0 [] 0, .ptr 7 0 [] 0]),(7, .int x.a.bl.length),(8, .int x.a.i)] (uD x.n (dy x.L) (bu x.n x.m x.L x.n)++[.box 99 (.ptr 0 0 [] 0), .box 25 (eH x.ds x.rs), .box 48 (au x.a), .box 152 (.bm 88 []), .box 3 (.int x.h)])
def Ie(x:Ha):Out (Exit×S):= .all (fun j:Int=>0<=j) fun j=> .aq (mh ik x.n x.m x.L x.ds x.h (x.a.bl.drop x.a.i.toNat))
 (.one (.ret,sp 19 [(4, .int j)] (qp x.n x.m x.L++[.box 99 (.ptr 0 0 [] 0), .box 25 (eH x.ds x.rs), .box 48 (au x.a), .box 152 (.bm 88 []), .box 3 (.int x.h)])))
 (.one (.exit 0,sp 19 [] (qp x.n x.m x.L++[.box 99 (.ptr 0 0 [] 0), .box 25 (eH x.ds x.rs), .box 48 (au x.a), .box 152 (.bm 88 []), .box 3 (.int x.h)])))
theorem lAb κ:aU (EN κ) 12 168 2 (aG 8 Sg (tv ik) Ie):=by
 refine aC (fun x=>x.a.bl.length - x.a.i.toNat) ?_;rintro⟨n,m,L,ds,o,⟨xs,d,g,t,b,c,i⟩,h⟩ K ⟨u,hd,w,q,y,r⟩ s;simp only at u hd w q y r;rw[show(EN κ).P=Pr κ from rfl];refine Eq.mpr (xAb κ n (dy L) ds o (bu n m L n) ⟨xs,d,g,t,b,c,i⟩ h _ _ K) ?_;simp only[aW] at w;rw[ae,ai,ar5,ar4,ar4,ar6];refine⟨fun j=>⟨⟨q,j⟩,(ds,toStr (ag (ag (nth b i.toNat) 1) 0)),rfl,hd,toInt (ag (nth b i.toNat) 0),rfl,trivial,?_⟩,fun j=>?_⟩
 ·have j:i<(b.length:Int):=j
  have p:i.toNat<b.length:=by omega
  have z:nth b i.toNat∈b:=by rw[aM _ _ p];exact List.getElem_mem _
  have v:mh ik n m L ds h (b.drop i.toNat)=((ik (toInt (ag (nth b i.toNat) 0))&&ll n m L h (bx (toStr (ag (ag (nth b i.toNat) 1) 0)) ds))||mh ik n m L ds h (b.drop (i.toNat+1))):=by
   rw[as5 p,←aM b i.toNat p];rfl
  have f:(ik (toInt (ag (nth b i.toNat) 0))&&ll n m L h (bx (toStr (ag (ag (nth b i.toNat) 1) 0)) ds))=false->∃k,k<b.length - i.toNat/\ep Sg (tv ik) Ie (fun x=>x.a.bl.length - x.a.i.toNat) K k (Sg ⟨n,m,L,ds,o,⟨xs,d,g,t,b,c,i+1⟩,h⟩):=fun e=>by
   rw[e,Bool.false_or] at v;refine⟨_,?_,⟨n,m,L,ds,o,⟨xs,d,g,t,b,c,i+1⟩,h⟩,rfl,⟨u,hd,by simpa[aW] using w,by simp only;omega,by simp only;omega,r⟩,rfl,?_⟩
   ·simp only;omega
   ·simp only[Ie,Out.run,show(i+1).toNat=i.toNat+1 by omega,←v]
    exact s
  rw[az (n:=i+1) (by omega) (by omega),ae];refine⟨fun e=>⟨⟨n,m,L,h,bx (toStr (ag (ag (nth b i.toNat) 1) 0)) ds⟩,rfl,⟨u,r _ z e⟩,?_⟩,fun e=>?_⟩
  ·rw[ae]
   refine⟨fun l=>?_,fun l=>?_⟩
   ·have:=s i q
    simp only at l;simp only[Out.run] at this;rw[v,e,l] at this;exact this
   ·exact f (by rw[e,at2];exact l)
  ·exact f (by rw[e,Bool.false_and])
 ·have:=s 0 (by omega)
  simp only at j;simp only[Out.run] at this;rw[as2 (by omega)] at this;exact this
def ao4(s:S):Bool:=match ay s.st 6 with| .box _ (.bm f _)=>Nat.beq f 90|_=>false
noncomputable def Vf κ:=(EN κ).an 168 2 (r6 ao4 (aG 8 Sf (tv jP) Ic) (aG 8 Sg (tv ik) Ie))
theorem eAl κ:aE (Vf κ):=(eIb _).an (mIb _) (oW (lAa _) (lAb _))
theorem mAl κ:aj (Vf κ):=(mIb _).an (lf aJ aJ)
theorem yAa κ N ls ds rs fs a K:(a0 (Vf κ) 12 87 [.ptr 0 0 [] 0,eH ds rs,au a, .bm 90 []] (uD N ls fs) K)=(
 letI b:=AV.int
 letI c:=AV.ptr
 letI d:=Obj.box
 letI e:=AV.ah
 letI g:=Pg.toProgram (Env.P (EN κ))
 ∃(e2:List AV×ByteArray),([e 43 ds,AV.str a.rel],aL)=([e 43 e2.1,AV.str e2.2],aL)/\ix e2/\ad g 168 2=ad g 168 2/\∃(e1:Ha),letI f:=bu e1.n e1.m e1.L e1.n;letI h:=AV.agg [AV.ak 1 0 e1.n,AV.ak 2 0 (List.length f)];letI i:=[d 145 h,Obj.rows 35 3 (dy e1.L) none,Obj.row 101 f];sp 19 [(0,e 80 a.bl),(1,AV.bm 134 [c 4 0 [] 0,c 6 0 [] 0,c 3 0 [] 0,c 7 0 [] 0]),(7,b (↑(a.bl.length):Int)),(8,b 0)] [d 145 (AV.agg [AV.ak 1 0 N,AV.ak 2 0 fs.length]),Obj.rows 35 3 ls none,Obj.row 101 fs,d 99 (c 0 0 [] 0),d 25 (AV.agg [e 43 ds,e 48 rs]),d 48 (au a),d 152 (AV.bm 90 []),d 3 (b (bx e2.2 e2.1))]=sp 19 [(0,e 80 e1.a.bl),(1,AV.bm 134 [c 4 0 [] 0,c 6 0 [] 0,c 3 0 [] 0,c 7 0 [] 0]),(7,b (↑(List.length e1.a.bl):Int)),(8,b e1.a.i)] [d 145 h,Obj.rows 35 3 (dy e1.L) none,Obj.row 101 f,d 99 (c 0 0 [] 0),d 25 (AV.agg [e 43 e1.ds,e 48 e1.rs]),d 48 (au e1.a),d 152 (AV.bm 90 []),d 3 (b e1.h)]/\(((0:Int)<=e1.h/\e1.h<(↑(e1.n):Int))/\e1.ds.length<=9223372036854775807/\List.length e1.a.bl<=9223372036854775807/\(0:Int)<=e1.a.i/\e1.a.i<=(↑(List.length e1.a.bl):Int)/\∀(e0:AV),List.Mem e0 e1.a.bl->jP (toInt (ag e0 0))=true->(0:Int)<=bx (toStr (ag (ag e0 1) 0)) e1.ds/\bx (toStr (ag (ag e0 1) 0)) e1.ds<(↑(e1.n):Int))/\∀(e0:Int),(0:Int)<=e0->aq (mh jP e1.n e1.m e1.L e1.ds e1.h (List.drop (Int.toNat e1.a.i) e1.a.bl)) (K (AV.bool (decide (e0>=(0:Int)))) i) (K (AV.bool false) i)):=by kernel_rfl
def Ud(x:Ha):=([.ptr 0 0 [] 0,eH x.ds x.rs,au x.a, .bm 90 []],qp x.n x.m x.L)
def F8(x:Ha):Out (AV×List Dn.Obj):= .one (.bool (mh jP x.n x.m x.L x.ds x.h x.a.bl),qp x.n x.m x.L)
theorem cAa κ:bc (Vf κ) 12 87 (aO Ud (BG jP) F8):=by
 refine aR ?_;rintro⟨n,m,L,ds,d,⟨xs,a,c,l,p,b,i⟩,h⟩ K ⟨g,f,hd,e,k⟩ o;simp only at g f hd e k;refine Eq.mpr (yAa κ n (dy L) ds d (bu n m L n) _ K) ?_;simp only[F8,Out.run] at o;refine⟨(ds,c),rfl,hd,rfl,⟨n,m,L,ds,d,⟨xs,a,c,l,p,b,0⟩,h⟩,by simp only[g],⟨f,hd,e,by simp only;omega,by simp only;omega,k⟩,fun j q=>?_⟩
 grind [ae,decide_eq_true]
theorem yAb κ N ls ds rs fs a K:(a0 (Vf κ) 12 87 [.ptr 0 0 [] 0,eH ds rs,au a, .bm 88 []] (uD N ls fs) K)=(
 letI b:=AV.int
 letI c:=AV.ptr
 letI d:=Obj.box
 letI e:=AV.ah
 letI g:=Pg.toProgram (Env.P (EN κ))
 ∃(e2:List AV×ByteArray),([e 43 ds,AV.str a.rel],aL)=([e 43 e2.1,AV.str e2.2],aL)/\ix e2/\ad g 168 2=ad g 168 2/\∃(e1:Ha),letI f:=bu e1.n e1.m e1.L e1.n;letI h:=AV.agg [AV.ak 1 0 e1.n,AV.ak 2 0 (List.length f)];letI i:=[d 145 h,Obj.rows 35 3 (dy e1.L) none,Obj.row 101 f];sp 19 [(0,e 80 a.bl),(1,AV.bm 134 [c 4 0 [] 0,c 6 0 [] 0,c 3 0 [] 0,c 7 0 [] 0]),(7,b (↑(a.bl.length):Int)),(8,b 0)] [d 145 (AV.agg [AV.ak 1 0 N,AV.ak 2 0 fs.length]),Obj.rows 35 3 ls none,Obj.row 101 fs,d 99 (c 0 0 [] 0),d 25 (AV.agg [e 43 ds,e 48 rs]),d 48 (au a),d 152 (AV.bm 88 []),d 3 (b (bx e2.2 e2.1))]=sp 19 [(0,e 80 e1.a.bl),(1,AV.bm 134 [c 4 0 [] 0,c 6 0 [] 0,c 3 0 [] 0,c 7 0 [] 0]),(7,b (↑(List.length e1.a.bl):Int)),(8,b e1.a.i)] [d 145 h,Obj.rows 35 3 (dy e1.L) none,Obj.row 101 f,d 99 (c 0 0 [] 0),d 25 (AV.agg [e 43 e1.ds,e 48 e1.rs]),d 48 (au e1.a),d 152 (AV.bm 88 []),d 3 (b e1.h)]/\(((0:Int)<=e1.h/\e1.h<(↑(e1.n):Int))/\e1.ds.length<=9223372036854775807/\List.length e1.a.bl<=9223372036854775807/\(0:Int)<=e1.a.i/\e1.a.i<=(↑(List.length e1.a.bl):Int)/\∀(e0:AV),List.Mem e0 e1.a.bl->ik (toInt (ag e0 0))=true->(0:Int)<=bx (toStr (ag (ag e0 1) 0)) e1.ds/\bx (toStr (ag (ag e0 1) 0)) e1.ds<(↑(e1.n):Int))/\∀(e0:Int),(0:Int)<=e0->aq (mh ik e1.n e1.m e1.L e1.ds e1.h (List.drop (Int.toNat e1.a.i) e1.a.bl)) (K (AV.bool (decide (e0>=(0:Int)))) i) (K (AV.bool false) i)):=by kernel_rfl
def Ue(x:Ha):=([.ptr 0 0 [] 0,eH x.ds x.rs,au x.a, .bm 88 []],qp x.n x.m x.L)
def F9(x:Ha):Out (AV×List Dn.Obj):= .one (.bool (mh ik x.n x.m x.L x.ds x.h x.a.bl),qp x.n x.m x.L)
theorem cAb κ:bc (Vf κ) 12 87 (aO Ue (BG ik) F9):=by
 refine aR ?_;rintro⟨n,m,L,ds,d,⟨xs,a,c,l,p,b,i⟩,h⟩ K ⟨g,f,hd,e,k⟩ o;simp only at g f hd e k;refine Eq.mpr (yAb κ n (dy L) ds d (bu n m L n) _ K) ?_;simp only[F9,Out.run] at o;refine⟨(ds,c),rfl,hd,rfl,⟨n,m,L,ds,d,⟨xs,a,c,l,p,b,0⟩,h⟩,by simp only[g],⟨f,hd,e,by simp only;omega,by simp only;omega,k⟩,fun j q=>?_⟩
 grind [ae,decide_eq_true]
def Oy(d:List AV->Bool)(a b:dL):dL:=fun c st K=>bif d c then a c st K else b c st K
theorem KR{c a b}(f:a.fU)(g:b.fU):(Oy c a b).fU:=fun e st K j d h=>by
 unfold Oy at h⊢;cases i:c _<;>simp[i] at h⊢
 ·exact g _ _ _ _ d h
 ·exact f _ _ _ _ d h
theorem R1{E N f c a b}(i:bc E N f a)(g:bc E N f b):bc E N f (Oy c a b):=fun d st K h=>by
 unfold Oy at h;cases e:c _<;>rw[e] at h
 ·exact g _ _ _ h
 ·exact i _ _ _ h
def am0:List AV->Bool
 |[_,_,_, .bm f _]=>Nat.beq f 90
 |_=>false
noncomputable def Hd κ:=(Vf κ).aw 87 (Oy am0 (aO Ud (BG jP) F8) (aO Ue (BG ik) F9))
theorem eAg κ:aE (Hd κ):=(eAl _).aw (mAl _) (R1 (cAa _) (cAb _))
theorem mAg κ:aj (Hd κ):=(mAl _).aw (KR aI aI)
theorem xLy(κ:Kp)(N i:Nat) ls ds rs fs I(n:Nat) K:(vc (Hd κ) 12 43 none 3 (ad (Pr κ).toProgram 43 2) (sp 38 [(0, .ptr 0 0 [] 0),(3, .ptr 3 0 [] 0),(11, .ah 48 rs),(12, .int rs.length),(13, .int i)] (uD N ls fs++[.box 25 (eH ds rs)])) (bj (Hd κ) 43 2 3 I n K))=(
 letI a:=AV.ptr 0 0 []
 letI b:=AV.int
 letI c:=AV.agg
 letI d:=Obj.box
 letI e:=Obj.row
 letI f:=Obj.rows
 letI g:=AV.ah
 letI h:=AV.ak
 letI s:=nth rs (Int.toNat (↑i:Int))
 letI w:=IntKind.wrap IntKind.i64 ((↑i:Int)+(1:Int))
 letI x:=c [g 43 ds,g 48 rs]
 letI o:=toInt (ag s 2)
 letI t:=toStr (ag (ag s 0) 0)
 letI y:=c [h 1 0 N,h 2 0 fs.length]
 letI z:=(↑i:Int)<(↑(rs.length):Int)
 letI u:=af (ag (ag s 0) 1)
 letI v:=af (ag s 1)
 aq (decide z) (aV (true&&decide z) (∃(e3:Ha),letI j:=bu e3.n e3.m e3.L e3.n;letI p:=c [h 1 0 e3.n,h 2 0 (List.length j)];letI k:=∃(e0:Nat),e0<n/\I e0 (sp 38 [(0,a 0),(3,AV.ptr 3 0 [] 0),(11,g 48 rs),(12,b (↑(rs.length):Int)),(13,b w)] [d 145 p,f 35 3 (dy e3.L) none,e 101 j,d 25 x]);letI l:=[d 145 p,f 35 3 (dy e3.L) none,e 101 j];([a 0,c [g 43 ds,g 48 rs],c [c [AV.str t,g 38 u],g 80 v,b o],AV.bm 88 []],[d 145 y,f 35 3 ls none,e 101 fs])=([a 0,c [g 43 e3.ds,g 48 e3.rs],au e3.a,AV.bm 88 []],l)/\(e3.h=bx e3.a.rel e3.ds/\((0:Int)<=e3.h/\e3.h<(↑(e3.n):Int))/\e3.ds.length<=9223372036854775807/\List.length e3.a.bl<=9223372036854775807/\∀(e0:AV),List.Mem e0 e3.a.bl->ik (toInt (ag e0 0))=true->(0:Int)<=bx (toStr (ag (ag e0 1) 0)) e3.ds/\bx (toStr (ag (ag e0 1) 0)) e3.ds<(↑(e3.n):Int))/\aq (mh ik e3.n e3.m e3.L e3.ds e3.h e3.a.bl) (K Exit.ret (sp 38 [(4,b o),(5,b 70)] l)) (∃(e2:dh),([c [c [AV.str t,g 38 u],g 80 v,b o]],aL)=([au e2],aL)/\(bk (aa (bo 38 e2.hl e2.bl))<=100000/\e2.bl.length<=100000)/\aq (a8 (aQ e2)) (aq (jT (aQ e2)) (aq (M5 (aQ e2)) (∃(e1:Ha),letI m:=bu e1.n e1.m e1.L e1.n;letI q:=c [h 1 0 e1.n,h 2 0 (List.length m)];letI r:=[d 145 q,f 35 3 (dy e1.L) none,e 101 m];([a 0,c [g 43 ds,g 48 rs],c [c [AV.str t,g 38 u],g 80 v,b o],AV.bm 90 []],l)=([a 0,c [g 43 e1.ds,g 48 e1.rs],au e1.a,AV.bm 90 []],r)/\(e1.h=bx e1.a.rel e1.ds/\((0:Int)<=e1.h/\e1.h<(↑(e1.n):Int))/\e1.ds.length<=9223372036854775807/\List.length e1.a.bl<=9223372036854775807/\∀(e0:AV),List.Mem e0 e1.a.bl->jP (toInt (ag e0 0))=true->(0:Int)<=bx (toStr (ag (ag e0 1) 0)) e1.ds/\bx (toStr (ag (ag e0 1) 0)) e1.ds<(↑(e1.n):Int))/\aq (mh jP e1.n e1.m e1.L e1.ds e1.h e1.a.bl) (K Exit.ret (sp 38 [(4,b o),(5,b 71)] r)) (∃(e0:Nat),e0<n/\I e0 (sp 38 [(0,a 0),(3,AV.ptr 3 0 [] 0),(11,g 48 rs),(12,b (↑(rs.length):Int)),(13,b w)] [d 145 q,f 35 3 (dy e1.L) none,e 101 m,d 25 x]))) k) k) k))) (K (Exit.exit 0) (sp 38 [] [d 145 y,f 35 3 ls none,e 101 fs]))):=by kernel_rfl
theorem xLz κ ls ds I n K:(vc (Hd κ) 12 43 none 2 (ad (Pr κ).toProgram 43 2) (sp 38 [(0, .ptr 0 0 [] 0),(3, .ptr 2 0 [] 0),(11, .ah 48 []),(12, .int 0),(13, .int 0)] (yo 0 ls++[.box 25 (eH ds [])])) (bj (Hd κ) 43 2 2 I n K))=(
 K (Exit.exit 0) (sp 38 [] [Obj.box 145 (AV.agg [AV.ak 1 0 0,AV.nil]),Obj.rows 35 3 ls none])):=by kernel_rfl
def AD r:=a8 (aQ (dr r))&&jT (aQ (dr r))&&M5 (aQ (dr r))
def YX ds r:=bx (toStr (ag (ag r 0) 0)) ds
def Lr a n m L ds r:=mh a n m L ds (YX ds r) (af (ag r 1))
def AU(n m:Nat)(L:Gr)(ds:List AV):List AV->Int×Int
 |[]=>(0,0)
 |r::a=>bif Lr ik n m L ds r then(toInt (ag r 2),70) else bif AD r&&Lr jP n m L ds r then(toInt (ag r 2),71) else AU n m L ds a
structure Cf(n:Nat)(ds:List AV)(r:AV):Prop where
 hd:0<=YX ds r/\YX ds r<n
 at_: ∀l,l∈af (ag r 1)->dM (toInt (ag l 0))=true->0<=bx (toStr (ag (ag l 1) 0)) ds/\bx (toStr (ag (ag l 1) 0)) ds<n
 le:(af (ag r 1)).length<=aW
 s42:dd (dr r)
theorem M7{a}(h:jP a=true):dM a=true:=by
 have:a=1:=by grind [jP]
 subst this;rfl
theorem M6{a}(h:ik a=true):dM a=true:=by
 grind [ik,dM]
structure SX where
 n:Nat
 m:Nat
 L:Gr
 ds:List AV
 rs:List AV
 i:Nat
abbrev Sv(x:SX):=sp 38 [(0, .ptr 0 0 [] 0),(3, .ptr 3 0 [] 0),(11, .ah 48 x.rs),(12, .int x.rs.length),(13, .int x.i)] (qp x.n x.m x.L++[.box 25 (eH x.ds x.rs)])
def GJ(x:SX):=x.ds.length<=aW/\x.rs.length<=aW/\x.i<=x.rs.length/\∀r,r∈x.rs->Cf x.n x.ds r
def Dr(x:SX):Out (Exit×S):= .aq (decide ((AU x.n x.m x.L x.ds (x.rs.drop x.i)).2=0))
 (.one (.exit 0,sp 38 [] (qp x.n x.m x.L)))
 (.one (.ret,sp 38 [(4, .int (AU x.n x.m x.L x.ds (x.rs.drop x.i)).1),(5, .int (AU x.n x.m x.L x.ds (x.rs.drop x.i)).2)] (qp x.n x.m x.L)))
theorem lLy κ:aU (Hd κ) 12 43 2 (aG 3 Sv GJ Dr):=by
 refine aC (fun x=>x.rs.length - x.i) ?_;rintro⟨n,m,L,ds,a,i⟩ K ⟨hd,t,w,r⟩ u;simp only at hd t w r;rw[show(Hd κ).P=Pr κ from rfl];refine Eq.mpr (xLy κ n i (dy L) ds a (bu n m L n) _ _ K) ?_;have c:=u;simp only[Dr,Out.run,ae,ar4,ar6] at c;simp only[aW] at t;rw[ae,ar4,ar6,ai,at2,ar4];refine⟨fun h=>⟨h,?_⟩,fun h=>?_⟩
 ·have p:i<a.length:=by omega
  have v:nth a i∈a:=by rw[aM _ _ p];exact List.getElem_mem _
  have g:=r _ v;have d:AU n m L ds (a.drop i)=bif Lr ik n m L ds (nth a i) then(toInt (ag (nth a i) 2),70) else bif AD (nth a i)&&Lr jP n m L ds (nth a i) then(toInt (ag (nth a i) 2),71) else AU n m L ds (a.drop (i+1)):=by
   rw[as5 p,←aM a i p];rfl
  have b:Lr ik n m L ds (nth a i)=false->(AD (nth a i)&&Lr jP n m L ds (nth a i))=false->∃k,k<a.length - i/\ep Sv GJ Dr (fun x=>x.rs.length - x.i) K k (Sv ⟨n,m,L,ds,a,i+1⟩):=fun j o=>by
   rw[j,o,ar9,ar9] at d;refine⟨_,?_,⟨n,m,L,ds,a,i+1⟩,rfl,⟨hd,by simpa[aW] using t,p,r⟩,rfl,?_⟩
   ·simp only;omega
   ·simp only[Dr,Out.run,←d];exact u
  rw[Int.toNat_natCast,az (n:=(i:Int)+1) (by omega) (by omega)];refine⟨⟨n,m,L,ds,a,dr (nth a i),YX ds (nth a i)⟩,rfl,⟨rfl,g.hd,hd,g.le,fun l q h=>g.at_ l q (M6 h)⟩,?_⟩;rw[ae];refine⟨fun e=>?_,fun e=>?_⟩
  ·have e:Lr ik n m L ds (nth a i)=true:=e
   rw[e,as1] at d;have:=c.2 (by rw[d];exact fun h=>nomatch h)
   rw[d] at this;exact this
  ·have e:Lr ik n m L ds (nth a i)=false:=e
   refine⟨dr (nth a i),rfl,g.s42,?_⟩;rw[ae];refine⟨fun j=>?_,fun j=>b e (by unfold AD;rw[j];rfl)⟩;rw[ae];refine⟨fun o=>?_,fun o=>b e (by unfold AD;rw[j,o];rfl)⟩;rw[ae];refine⟨fun s=>?_,fun s=>b e (by unfold AD;rw[j,o,s];rfl)⟩;have y:AD (nth a i)=true:=by unfold AD;rw[j,o,s];rfl
   refine⟨⟨n,m,L,ds,a,dr (nth a i),YX ds (nth a i)⟩,rfl,⟨rfl,g.hd,hd,g.le,fun l q h=>g.at_ l q (M7 h)⟩,?_⟩;rw[ae];refine⟨fun f=>?_,fun f=>b e (by have f:Lr jP n m L ds (nth a i)=false:=f;rw[f,Bool.and_false])⟩;have f:Lr jP n m L ds (nth a i)=true:=f;rw[e,y,f,ar9,Bool.and_true,as1] at d;have:=c.2 (by rw[d];exact fun h=>nomatch h)
   rw[d] at this;exact this
 ·rw[as2 (by omega)] at c
  exact c.1 rfl
structure Xc where
 ls:List (List Value)
 ds:List AV
abbrev ae1(x:Xc):=sp 38 [(0, .ptr 0 0 [] 0),(3, .ptr 2 0 [] 0),(11, .ah 48 []),(12, .int 0),(13, .int 0)] (yo 0 x.ls++[.box 25 (eH x.ds [])])
def TE(x:Xc):Out (Exit×S):= .one (.exit 0,sp 38 [] (yo 0 x.ls))
theorem lLz κ:aU (Hd κ) 12 43 2 (aG 2 ae1 (fun _=>True) TE):=by
 refine aC (fun _=>0) ?_;rintro⟨b,ds⟩ K _ a;exact Eq.mpr (xLz _ _ _ _ _ K) a
noncomputable def Vg κ:=(Hd κ).an 43 2 (r6 ab1 (aG 3 Sv GJ Dr) (aG 2 ae1 (fun _=>True) TE))
theorem eLl κ:aE (Vg κ):=(eAg _).an (mAg _) (oW (lLy _) (lLz _))
theorem mLl κ:aj (Vg κ):=(mAg _).an (lf aJ aJ)
theorem yLy κ N ls ds rs fs K:(a0 (Vg κ) 12 43 [.ptr 0 0 [] 0,eH ds rs] (uD N ls fs) K)=(
 letI b:=AV.int
 letI c:=Obj.box
 letI d:=AV.ah
 ad (Pg.toProgram (Env.P (Hd κ))) 43 2=ad (Pg.toProgram (Env.P (Hd κ))) 43 2/\∃(a:SX),letI e:=bu a.n a.m a.L a.n;letI g:=AV.agg [AV.ak 1 0 a.n,AV.ak 2 0 (List.length e)];letI h:=[c 145 g,Obj.rows 35 3 (dy a.L) none,Obj.row 101 e];letI f:=AU a.n a.m a.L a.ds (List.drop a.i a.rs);sp 38 [(0,AV.ptr 0 0 [] 0),(3,AV.ptr 3 0 [] 0),(11,d 48 rs),(12,b (↑(rs.length):Int)),(13,b 0)] [c 145 (AV.agg [AV.ak 1 0 N,AV.ak 2 0 fs.length]),Obj.rows 35 3 ls none,Obj.row 101 fs,c 25 (AV.agg [d 43 ds,d 48 rs])]=sp 38 [(0,AV.ptr 0 0 [] 0),(3,AV.ptr 3 0 [] 0),(11,d 48 a.rs),(12,b (↑(a.rs.length):Int)),(13,b (↑(a.i):Int))] [c 145 g,Obj.rows 35 3 (dy a.L) none,Obj.row 101 e,c 25 (AV.agg [d 43 a.ds,d 48 a.rs])]/\(a.ds.length<=9223372036854775807/\a.rs.length<=9223372036854775807/\a.i<=a.rs.length/\∀(r:AV),List.Mem r a.rs->Cf a.n a.ds r)/\aq (decide (Prod.snd f=(0:Int))) (K (AV.aH [b 0,b 0]) h) (K (AV.aH [b (Prod.fst f),b (Prod.snd f)]) h)):=by kernel_rfl
theorem yLz κ ls ds K:(a0 (Vg κ) 12 43 [.ptr 0 0 [] 0,eH ds []] (yo 0 ls) K)=(
 letI a:=AV.int
 letI b:=Obj.box
 letI c:=AV.ah
 letI d:=AV.agg [AV.ak 1 0 0,AV.nil]
 letI e:=Pg.toProgram (Env.P (Hd κ))
 ad e 43 2=ad e 43 2/\∃(e0:Xc),sp 38 [(0,AV.ptr 0 0 [] 0),(3,AV.ptr 2 0 [] 0),(11,c 48 []),(12,a 0),(13,a 0)] [b 145 d,
 Obj.rows 35 3 ls none,b 25 (AV.agg [c 43 ds,c 48 []])]=sp 38 [(0,AV.ptr 0 0 [] 0),(3,AV.ptr 2 0 [] 0),(11,c 48 []),(12,a 0),
 (13,a 0)] [b 145 d,Obj.rows 35 3 e0.ls none,b 25 (AV.agg [c 43 e0.ds,c 48 []])]/\True/\K (AV.aH [a 0,a 0]) [b
 145 d,Obj.rows 35 3 e0.ls none]):=by kernel_rfl
def Ug(x:SX):=([.ptr 0 0 [] 0,eH x.ds x.rs],qp x.n x.m x.L)
def IW(x:SX):=x.ds.length<=aW/\x.rs.length<=aW/\∀r,r∈x.rs->Cf x.n x.ds r
def Ga(x:SX):Out (AV×List Dn.Obj):= .one (.aH [.int (AU x.n x.m x.L x.ds x.rs).1, .int (AU x.n x.m x.L x.ds x.rs).2],qp x.n x.m x.L)
theorem CZ n m L ds: ∀a,(AU n m L ds a).2=0->AU n m L ds a=(0,0)
 |[],_=>rfl
 | r::a,h=>by
  rw[AU] at h⊢;cases e:Lr ik n m L ds r with
  |true=>grind
  | false=>
   rw[e,ar9] at h;cases b:AD r&&Lr jP n m L ds r with
   |true=>grind
   |false=>
    rw[b,ar9] at h;exact CZ n m L ds a h
theorem cLy κ:bc (Vg κ) 12 43 (aO Ug IW Ga):=by
 refine aR ?_;rintro⟨n,m,L,ds,a,i⟩ K ⟨hd,c,d⟩ b;refine Eq.mpr (yLy κ n (dy L) ds a (bu n m L n) K) ?_;refine⟨rfl,⟨n,m,L,ds,a,0⟩,rfl,⟨hd,c,Nat.zero_le _,d⟩,?_⟩;simp only[Ga,Out.run] at b;rw[as4,ae]
 grind [CZ]
def Uh(x:Xc):=([.ptr 0 0 [] 0,eH x.ds []],yo 0 x.ls)
def Om(x:Xc):Out (AV×List Dn.Obj):= .one (.aH [.int 0, .int 0],yo 0 x.ls)
theorem cLz κ:bc (Vg κ) 12 43 (aO Uh (fun _=>True) Om):=by
 refine aR ?_;rintro⟨b,ds⟩ K _ a;refine Eq.mpr (yLz _ _ _ K) ?_;exact⟨rfl,_,rfl,trivial,a⟩
noncomputable def ELy κ:=(Vg κ).aw 43 (Gv ab0 (aO Ug IW Ga) (aO Uh (fun _=>True) Om))
theorem eLy κ:aE (ELy κ):=(eLl _).aw (mLl _) (By (cLy _) (cLz _))
theorem mLy κ:aj (ELy κ):=(mLl _).aw (tq aI aI)
noncomputable abbrev QC(κ:Kp):Env:=ELy κ
theorem eCk(κ:Kp):aE (QC κ):=eLy κ
theorem mCk(κ:Kp):aj (QC κ):=mLy κ
theorem xGi κ(N i:Nat) ls fs gs l es I n K:(vc (QC κ) 12 18 none 0 (ad (Pr κ).toProgram 18 15) (sp 63 [(7, .ptr 0 0 [] 0),(10, .ak 3 0 gs.length),(11, .mp 4),(13, .ah 3 l),(49, .ah 3 l),(50, .int l.length),(51, .int i)] (uD N ls fs++[.row 35 gs, .map 3 4 es])) (bj (QC κ) 18 15 0 I n K))=(
 letI a:=Obj.row
 letI b:=AV.agg [AV.ak 1 0 N,AV.ak 2 0 fs.length]
 letI c:=(↑i:Int)<(↑(l.length):Int)
 aq (decide c) (aV (true&&decide c) (∃(e0:Nat),e0<n/\I e0 (sp 63 [(7,AV.ptr 0 0 [] 0),(10,AV.ak 3 0 gs.length),(11,AV.mp 4),(13,AV.ah 3 l),
 (49,AV.ah 3 l),(50,AV.int (↑(l.length):Int)),(51,AV.int (IntKind.wrap IntKind.i64 ((↑i:Int)+(1:Int))))] [Obj.box 145 b,Obj.rows 35 3 ls none,
 a 101 fs,a 35 gs,Dn.Obj.map 3 4 (eE es (Value.int IntKind.i64 (toInt (nth l (Int.toNat (↑i:Int))))) (AV.bool true))]))) (K (Exit.exit 2) (sp 63
 [(7,AV.ptr 0 0 [] 0),(10,AV.ak 3 0 gs.length),(11,AV.mp 4),(13,AV.ah 3 l)] [Obj.box 145 b,Obj.rows 35 3 ls none,a 101 fs,a 35 gs,
 Dn.Obj.map 3 4 es]))):=by kernel_rfl
def jY(a:List (List Int)):List AV:=a.map fun g=> .ah 3 (iA g)
theorem Rq a b:jY (a++b)=jY a++jY b:=by simp[jY]
theorem HH a:(jY a).length=a.length:=by simp[jY]
structure AGi where
 n:Nat
 m:Nat
 L:Gr
 gs:List (List Int)
 l:List Int
 done:List Int
 i:Nat
abbrev WI(x:AGi):=sp 63 [(7, .ptr 0 0 [] 0),(10, .ak 3 0 (jY x.gs).length),(11, .mp 4),(13, .ah 3 (iA x.l)),(49, .ah 3 (iA x.l)),(50, .int (iA x.l).length),(51, .int x.i)] (qp x.n x.m x.L++[.row 35 (jY x.gs), .map 3 4 (iD x.done)])
def OP(x:AGi):=x.i<=x.l.length/\x.l.length<=60
def Ij(x:AGi):Out (Exit×S):= .one (.exit 2,sp 63 [(7, .ptr 0 0 [] 0),(10, .ak 3 0 (jY x.gs).length),(11, .mp 4),(13, .ah 3 (iA x.l))] (qp x.n x.m x.L++[.row 35 (jY x.gs), .map 3 4 (iD (vB x.done (x.l.drop x.i)))]))
theorem V7: ∀l k h,toInt (nth (iA l) k)=l[k]:=fun l k h=>by
 grind [aM,iA,toInt]
theorem lGi κ:aU (QC κ) 12 18 15 (aG 0 WI OP Ij):=by
 refine aC (fun x=>x.l.length - x.i) ?_;rintro⟨n,m,L,c,l,done,i⟩ K ⟨e,d⟩ a;simp only at e d;rw[show(QC κ).P=Pr κ from rfl];refine Eq.mpr (xGi κ n i (dy L) (bu n m L n) (jY c) (iA l) (iD done) _ _ K) ?_;simp only[Ij,Out.run] at a;rw[ae,ai,at2,ar4,ar6,jd];refine⟨fun h=>⟨h,?_⟩,fun h=>?_⟩
 ·have b:i<l.length:=by omega
  rw[Int.toNat_natCast,V7 l i b,az (n:=(i:Int)+1) (by omega) (by omega),sl];refine⟨_,?_,⟨n,m,L,c,l,bif done.contains l[i] then done else done++[l[i]],i+1⟩,?_,⟨b,d⟩,rfl,?_⟩
  ·simp only;omega
  ·simp only[WI,jd];rfl
  ·rw[as5 b] at a
   simp only[Ij,Out.run];exact a
 ·rw[as2 (by omega)] at a
  exact a
noncomputable def He κ:=(QC κ).an 18 15 (aG 0 WI OP Ij)
theorem eGi κ:aE (He κ):=(eCk _).an (mCk _) (lGi _)
theorem mGi κ:aj (He κ):=(mCk _).an aJ
theorem xGo κ N a ls fs gs es I n K:(vc (He κ) 12 18 none 0 (ad (Pr κ).toProgram 18 11) (sp 63 [(7, .ptr 0 0 [] 0),(10, .ak 3 0 (jY gs).length),(11, .mp 4),(12, .int a)] (uD N ls fs++[.row 35 (jY gs), .map 3 4 es])) (bj (He κ) 18 11 0 I n K))=(
 letI b:=AV.ptr 0 0 []
 letI c:=AV.int
 letI d:=Obj.box
 letI e:=Obj.row
 letI f:=Obj.rows
 letI g:=Dn.Obj.map
 letI h:=AV.ak
 letI m:=Pg.toProgram (Env.P (QC κ))
 aq (decide (a>=(0:Int))) (∃(e3:SV),letI i:=bu e3.n e3.m e3.L e3.n;letI o:=AV.agg [h 1 0 e3.n,h 2 0 (List.length i)];letI j:=iA (ig e3.n e3.m e3.L e3.a);([b 0,c a],[d 145 (AV.agg [h 1 0 N,h 2 0 fs.length]),f 35 3 ls none,e 101 fs])=([b 0,c e3.a],[d 145 o,f 35 3 (dy e3.L) none,e 101 i])/\(((0:Int)<=e3.a/\e3.a<(↑(e3.n):Int))/\e3.n<=60)/\ad m 18 15=ad m 18 15/\∃(e2:AGi),letI k:=bu e2.n e2.m e2.L e2.n;letI p:=AV.agg [h 1 0 e2.n,h 2 0 (List.length k)];sp 63 [(7,b 0),(10,h 3 0 (List.length (jY gs))),(11,AV.mp 4),(13,AV.ah 3 j),(49,AV.ah 3 j),(50,c (↑(List.length j):Int)),(51,c 0)] [d 145 o,f 35 3 (dy e3.L) none,e 101 i,e 35 (jY gs),g 3 4 es]=sp 63 [(7,b 0),(10,h 3 0 (List.length (jY e2.gs))),(11,AV.mp 4),(13,AV.ah 3 (iA e2.l)),(49,AV.ah 3 (iA e2.l)),(50,c (↑(List.length (iA e2.l)):Int)),(51,c (↑(e2.i):Int))] [d 145 p,f 35 3 (dy e2.L) none,e 101 k,e 35 (jY e2.gs),g 3 4 (iD e2.done)]/\(e2.i<=e2.l.length/\e2.l.length<=60)/\aV (decide ((List.length (jY e2.gs)+1+1)*25<=70368744177664)) (∃(e1:Hc),letI l:=bu e1.n e1.m e1.L e1.n;letI q:=AV.agg [h 1 0 e1.n,h 2 0 (List.length l)];([b 0,AV.mp 3],[d 145 p,f 35 3 (dy e2.L) none,e 101 k,g 3 4 (iD (vB e2.done (List.drop e2.i e2.l)))])=([b 0,AV.mp 3],[d 145 q,f 35 3 (dy e1.L) none,e 101 l,g 3 4 (iD e1.done)])/\(WG e1.n e1.m e1.L/\e1.n<=60)/\∃(e0:Nat),e0<n/\I e0 (sp 63 [(7,b 0),(10,h 3 0 (List.length (jY e2.gs)+1)),(11,AV.mp 4),(12,c (gY e1.n e1.m e1.L e1.done))] [d 145 q,f 35 3 (dy e1.L) none,e 101 l,e 35 (List.take (List.length (jY e2.gs)) (jY e2.gs)++[AV.ah 3 (iA e2.l)]),g 3 4 (iD e1.done)]))) (K (Exit.exit 0) (sp 63 [(10,h 0 0 (List.length (jY gs)))] [e 35 (jY gs)]))):=by kernel_rfl
theorem xGz κ ls es I n K:(vc (He κ) 12 18 none 0 (ad (Pr κ).toProgram 18 11) (sp 63 [(7, .ptr 0 0 [] 0),(10, .ak 2 0 0),(11, .mp 3),(12, .int (-1))] (yo 0 ls++[.row 35 [], .map 3 4 es])) (bj (He κ) 18 11 0 I n K))=(
 K (Exit.exit 0) (sp 63 [(10,AV.ak 0 0 0)] [Obj.row 35 []])):=by kernel_rfl
structure AGo where
 n:Nat
 m:Nat
 L:Gr
 gs:List (List Int)
 done:List Int
abbrev WJ(x:AGo):=sp 63 [(7, .ptr 0 0 [] 0),(10, .ak 3 0 (jY x.gs).length),(11, .mp 4),(12, .int (gY x.n x.m x.L x.done))] (qp x.n x.m x.L++[.row 35 (jY x.gs), .map 3 4 (iD x.done)])
def OQ(x:AGo):=WG x.n x.m x.L/\x.n<=60/\x.gs.length+EA x.n x.done<=x.n
def Ik(x:AGo):Out (Exit×S):= .one (.exit 0,sp 63 [(10, .ak 0 0 (jY (x.gs++ub x.n x.m x.L x.done)).length)] [.row 35 (jY (x.gs++ub x.n x.m x.L x.done))])
theorem J3 n m L a:(ig n m L a).length<=n:=CK n m L a n
theorem lGo κ:aU (He κ) 12 18 11 (aG 0 WJ OQ Ik):=by
 refine aC (fun x=>EA x.n x.done) ?_;rintro⟨n,m,L,d,done⟩ K ⟨c,a,g⟩ b;simp only at c a g;rw[show(He κ).P=Pr κ from rfl];refine Eq.mpr (xGo κ n (gY n m L done) (dy L) (bu n m L n) d (iD done) _ _ K) ?_;simp only[Ik,Out.run] at b;have e:=CL (n:=n) (m:=m) (L:=L) done;rw[ae,ar4,ar6];refine⟨fun h=>?_,fun h=>?_⟩
 ·have f:=(zj (n:=n) (m:=m) (L:=L) (done:=done) h).1
  have i:=B5 (n:=n) (m:=m) (L:=L) (done:=done) h;have j:=J3 n m L (gY n m L done);rw[ar8 (by omega),ar9] at e;rw[e] at b;refine⟨⟨n,m,L,gY n m L done,0⟩,rfl,⟨f,a⟩,rfl,⟨n,m,L,d,ig n m L (gY n m L done),done,0⟩,rfl,⟨Nat.zero_le _,by simp only;omega⟩,?_⟩;rw[ai,ar4];refine⟨by rw[HH];simp only;omega,⟨n,m,L,vB done (ig n m L (gY n m L done)),0,[]⟩,rfl,⟨c,a⟩,_,i,⟨n,m,L,d++[ig n m L (gY n m L done)],vB done (ig n m L (gY n m L done))⟩,?_,⟨c,a,?_⟩,rfl,?_⟩
  ·rw[List.take_length]
   simp only[WJ,Rq,as9];rfl
  ·simp only[as9,List.length_singleton];omega
  ·simp only[Ik,Out.run,List.append_assoc,List.singleton_append]
   exact b
 grind
abbrev ad7(x:Qh):=sp 63 [(7, .ptr 0 0 [] 0),(10, .ak 2 0 0),(11, .mp 3),(12, .int (-1))] (yo 0 x.ls++[.row 35 [], .map 3 4 x.es])
def TB(_:Qh):Out (Exit×S):= .one (.exit 0,sp 63 [(10, .ak 0 0 0)] [.row 35 []])
theorem lGz κ:aU (He κ) 12 18 11 (aG 0 ad7 (fun _=>True) TB):=by
 refine aC (fun _=>0) ?_;rintro⟨b,c⟩ K _ a;exact Eq.mpr (xGz _ _ _ _ _ K) a
noncomputable def X5 κ:=(He κ).an 18 11 (r6 ab3 (aG 0 WJ OQ Ik) (aG 0 ad7 (fun _=>True) TB))
theorem eGo κ:aE (X5 κ):=(eGi _).an (mGi _) (oW (lGo _) (lGz _))
theorem mGo κ:aj (X5 κ):=(mGi _).an (lf aJ aJ)
theorem vV{ds b}(h:(lZ ds b).2=0):yh ds b:=by
 have a:=(sE.1 h).1;simp[fA] at a;refine⟨a.1.1.1,a.1.1.2,fun r c=>?_,YR h⟩
 grind [qB,a8,xK,dw]
theorem My{ds b}(d:nJ ds b)(h:(lZ ds b).2=0): ∀r,r∈b->Cf ds.length ds r:=by
 intro r a;have c:=r4 h a;refine⟨c.1,c.2,?_,d.2.2 r a⟩;have:=(vV h).bs r a
 grind [aW]
def wy ds a:=bif decide ((lZ ds a).2=0) then AU ds.length (rE ds a) (CG ds a) ds a else lZ ds a
def Lv ds a:=ub ds.length (rE ds a) (CG ds a) []
theorem yGr κ ds rs K:(a0 (X5 κ) 12 18 [eH ds rs] [] K)=(
 letI a:=AV.ptr 0 0 []
 letI b:=AV.int
 letI c:=AV.agg
 letI d:=Obj.box
 letI e:=Obj.row
 letI f:=Obj.rows
 letI g:=Dn.Obj.map
 letI h:=AV.ah
 letI i:=AV.ak
 letI j:=AV.mp
 letI l:=c [i 1 0 0,AV.nil]
 letI n:=Pg.toProgram (Env.P (He κ))
 ∃(e4:Ca),letI o:=lZ e4.1 e4.2;([c [h 43 ds,h 48 rs]],aL)=([c [h 43 e4.1,h 48 e4.2]],aL)/\(e4.1.length<=9223372036854775807/\e4.2.length<=9223372036854775807/\∀(e0:AV),List.Mem e0 e4.2->bk (aa (bo 38 (dh.hl (dr e0)) (dh.bl (dr e0))))<=100000/\List.length (dh.bl (dr e0))<=100000)/\aq (Prod.snd o != (0:Int)) (K (AV.aH [AV.nil,b (Prod.fst o),b (Prod.snd o)]) []) (∃(e3:Ca),letI p:=CG e3.1 e3.2;letI s:=bu e3.1.length (rE e3.1 e3.2) p e3.1.length;([c [h 43 ds,h 48 rs]],aL)=([c [h 43 e3.1,h 48 e3.2]],aL)/\yh e3.1 e3.2/\aq (Nat.beq e3.1.length 0) (∃(e2:Xc),([a 0,c [h 43 ds,h 48 rs]],[d 145 (c [i 1 0 e3.1.length,AV.nil]),f 35 3 (dy p) none])=([a 0,c [h 43 e2.ds,h 48 []]],[d 145 l,f 35 3 e2.ls none])/\True/\∃(e1:Qh),([a 0,j 2],[d 145 l,f 35 3 e2.ls none,g 3 4 []])=([a 0,j 2],[d 145 l,f 35 3 e1.ls none,g 3 4 e1.es])/\True/\ad n 18 11=ad n 18 11/\∃(e0:Qh),sp 63 [(7,a 0),(10,i 2 0 0),(11,j 3),(12,b (-1))] [d 145 l,f 35 3 e1.ls none,e 35 [],g 3 4 e1.es]=sp 63 [(7,a 0),(10,i 2 0 0),(11,j 3),(12,b (-1))] [d 145 l,f 35 3 e0.ls none,e 35 [],g 3 4 e0.es]/\True/\K (AV.aH [i 0 0 0,b 0,b 0]) [e 35 []]) (∃(e2:SX),letI q:=bu e2.n e2.m e2.L e2.n;letI t:=c [i 1 0 e2.n,i 2 0 (List.length q)];letI r:=AU e2.n e2.m e2.L e2.ds e2.rs;([a 0,c [h 43 ds,h 48 rs]],[d 145 (c [i 1 0 e3.1.length,i 2 0 (List.length s)]),f 35 3 (dy p) none,e 101 s])=([a 0,c [h 43 e2.ds,h 48 e2.rs]],[d 145 t,f 35 3 (dy e2.L) none,e 101 q])/\(e2.ds.length<=9223372036854775807/\e2.rs.length<=9223372036854775807/\∀(e0:AV),List.Mem e0 e2.rs->Cf e2.n e2.ds e0)/\aq (Prod.snd r != (0:Int)) (K (AV.aH [AV.nil,b (Prod.fst r),b (Prod.snd r)]) []) (∃(e1:Hc),letI k:=bu e1.n e1.m e1.L e1.n;letI u:=c [i 1 0 e1.n,i 2 0 (List.length k)];([a 0,j 3],[d 145 t,f 35 3 (dy e2.L) none,e 101 q,g 3 4 []])=([a 0,j 3],[d 145 u,f 35 3 (dy e1.L) none,e 101 k,g 3 4 (iD e1.done)])/\(WG e1.n e1.m e1.L/\e1.n<=60)/\ad n 18 11=ad n 18 11/\∃(e0:AGo),letI m:=jY (e0.gs++ub e0.n e0.m e0.L e0.done);sp 63 [(7,a 0),(10,i 3 0 0),(11,j 4),(12,b (gY e1.n e1.m e1.L e1.done))] [d 145 u,f 35 3 (dy e1.L) none,e 101 k,e 35 [],g 3 4 (iD e1.done)]=sp 63 [(7,a 0),(10,i 3 0 (List.length (jY e0.gs))),(11,j 4),(12,b (gY e0.n e0.m e0.L e0.done))] [d 145 (c [i 1 0 e0.n,i 2 0 (List.length (bu e0.n e0.m e0.L e0.n))]),f 35 3 (dy e0.L) none,e 101 (bu e0.n e0.m e0.L e0.n),e 35 (jY e0.gs),g 3 4 (iD e0.done)]/\(WG e0.n e0.m e0.L/\e0.n<=60/\e0.gs.length+EA e0.n e0.done<=e0.n)/\K (AV.aH [i 0 0 (List.length m),b 0,b 0]) [e 35 m])))):=by kernel_rfl
def WK(x:Ca):List AV×List Dn.Obj:=([eH x.1 x.2],[])
def GD(x:Ca):Prop:=nJ x.1 x.2
def Tx(x:Ca):Out (AV×List Dn.Obj):= .aq (decide ((wy x.1 x.2).2=0))
 (.one (.aH [.ak 0 0 (jY (Lv x.1 x.2)).length, .int 0, .int 0],[.row 35 (jY (Lv x.1 x.2))]))
 (.one (.aH [.nil, .int (wy x.1 x.2).1, .int (wy x.1 x.2).2],[]))
theorem cGr κ:bc (X5 κ) 12 18 (aO WK GD Tx):=by
 refine aR ?_;rintro⟨ds,a⟩ K d b;refine Eq.mpr (yGr κ ds a K) ?_;have b:aq (decide ((wy ds a).2=0)) (K (.aH [.ak 0 0 (jY (Lv ds a)).length, .int 0, .int 0]) [.row 35 (jY (Lv ds a))]) (K (.aH [.nil, .int (wy ds a).1, .int (wy ds a).2]) []):=b;rw[ae,ar4,ar6] at b;have d:nJ ds a:=d;refine⟨(ds,a),rfl,d,?_⟩;rw[ae];by_cases c:(lZ ds a).2=0
 ·refine⟨fun e=>absurd c (by simpa using e),fun _=>⟨(ds,a),rfl,vV c,?_⟩⟩
  have f:=vV c;have i:=My d c;rw[show wy ds a=AU ds.length (rE ds a) (CG ds a) ds a by unfold wy;rw[as0 c];rfl] at b;rw[ae];refine⟨fun e=>?_,fun e=>?_⟩
  ·obtain rfl:ds=[]:=List.eq_nil_of_length_eq_zero (Nat.eq_of_beq_eq_true e)
   obtain rfl:a=[]:=by
    cases a with
    |nil=>rfl
    |cons r a=>have:=(i r (by simp)).hd;simp only[List.length_nil] at this;omega
   refine⟨⟨dy (CG [] []),[]⟩,rfl,trivial,⟨_,[]⟩,rfl,trivial,rfl,⟨_,_⟩,rfl,trivial,?_⟩;have g:=b.1 rfl;have j:Lv [] []=[]:=by
    unfold Lv;rw[CL];rfl
   rw[j] at g;exact g
  ·refine⟨⟨ds.length,rE ds a,CG ds a,ds,a,0⟩,rfl,⟨d.1,d.2.1,i⟩,?_⟩
   rw[ae];refine⟨fun h=>b.2 (by simpa using h),fun h=>?_⟩;have g:=b.1 (by simpa using h);exact⟨⟨ds.length,rE ds a,CG ds a,[],0,[]⟩,rfl,⟨f.wg,f.hd⟩,rfl,⟨ds.length,rE ds a,CG ds a,[],[]⟩,rfl,⟨f.wg,f.hd,by simp only[List.length_nil,Nat.zero_add];exact G5 _ _⟩,g⟩
 ·rw[show wy ds a=lZ ds a by unfold wy;rw[ar8 c];rfl] at b
  exact⟨fun _=>b.2 c,fun e=>absurd (by simpa using e) c⟩
noncomputable def EGr κ:=(X5 κ).aw 18 (aO WK GD Tx)
theorem eGr κ:aE (EGr κ):=(eGo _).aw (mGo _) (cGr _)
theorem mGr κ:aj (EGr κ):=(mGo _).aw aI
noncomputable abbrev EHg(κ:Kp):Env:=EGr κ
theorem eHg(κ:Kp):aE (EHg κ):=eGr κ
theorem mHg(κ:Kp):aj (EHg κ):=mGr κ
end Go.Proofs.YtioeffnadipbaaaGreatDoor
namespace Go.Proofs.YtioeffnadipbaaaGreatDoor
open Go Go.Dn Go.Rl Go.Proofs
end Go.Proofs.YtioeffnadipbaaaGreatDoor
