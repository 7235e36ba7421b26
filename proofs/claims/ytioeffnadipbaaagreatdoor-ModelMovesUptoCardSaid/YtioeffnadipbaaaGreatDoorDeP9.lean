import Derived.Test.YtioeffnadipbaaaGreatDoorDeP8
namespace Go.Rl
open Go Go.Dn
section
variable {n m m':Nat} {L M:Gr}
def Sub(L M:Gr):=∀a b,0<=a->b∈L.at a->b∈M.at a
theorem Sub.rc(h:Sub L M)(e:WG n m L){a b}(f:0<=a)(k:Rc L a b):Rc M a b:=
 k.mono (fun a b c d=>⟨h a b c d,(e.kQ a c b d).1⟩) f
theorem Sub.Ui(h:Sub L M)(e:WG n m L)(f:WG n m' M){a b}(d:0<=a)(c:0<=b)(k:gD n m L a b=true):gD n m' M a b=true:=by
 rw[rS e d c] at k;rw[rS f d c];exact k.imp id fun k=>⟨h.rc e d k.1,h.rc e c k.2⟩
theorem CV(h:Sub L M)(k:Sub M L)(d:WG n m L)(e:WG n m' M){a b}(f:0<=a)(c:0<=b):gD n m L a b=gD n m' M a b:=
 Bool.eq_iff_iff.2 ⟨h.Ui d e f c,k.Ui e d f c⟩
theorem Lf(h:Sub L M)(k:Sub M L)(e:WG n m L)(c:WG n m' M) done{a}(f:0<=a):iQ n m L done a=iQ n m' M done a:=by
 have d: ∀{n m m':Nat} {L M:Gr},Sub L M->Sub M L->WG n m L->WG n m' M->iQ n m L done a=true->iQ n m' M done a=true:=fun{n m m' L M} h k e c=>by
  simp only[iQ,ao0,List.all_eq_true];rintro⟨i,l⟩;refine⟨i,fun b j=>?_⟩;have g:=(vm c f).1 j;have:=l b ((vm e f).2 (k.rc c f g))
  rwa [CV h k e c f (g.kQ c f).1] at this
 exact Bool.eq_iff_iff.2 ⟨d h k e c,d k h c e⟩
theorem zB{p q}: ∀{l:List Int},(∀x,x∈l->p x=q x)->l.find? p=l.find? q
 |[],_=>rfl
 |a::l,h=>by rw[List.find?_cons,List.find?_cons,h a (by simp),zB fun x b=>h x (by grind)]
theorem Oh(h:Sub L M)(k:Sub M L)(a:WG n m L)(b:WG n m' M) done:gi n m L done=gi n m' M done:=by
 grind [gi,zB,Lf,lf]
theorem PL(h:Sub L M)(k:Sub M L)(c:WG n m L)(d:WG n m' M){a}(e:0<=a):gQ n m L a=gQ n m' M a:=
 List.filter_congr fun x b=>CV h k c d e (lf.1 b).1
theorem zg(h:Sub L M)(k:Sub M L)(b:WG n m L)(a:WG n m' M): ∀f done,pM n m L f done=pM n m' M f done
 |0,_=>rfl
 |f+1,done=>by
  rw[pM,pM,Oh h k b a];cases e:decide (gi n _ M _<0) with
  |true=>rfl
  |false=>rw[ao4,ao4,PL h k b a (by grind),zg h k b a f]
theorem GX(h:Sub L M)(k:Sub M L)(a:WG n m L)(b:WG n m' M) done:qe n m L done=qe n m' M done:=zg h k a b _ _
structure an6(n m:Nat)(L:Gr)(done:List Int)(gs:List (List Int)):Prop where
 srt: ∀g,g∈gs->g.Pairwise (· < ·)
 kQ: ∀c,c∈gs.flatten->(0<=c/\c<n)/\c∉done
 all: ∀c:Int,0<=c->c<n->c∉done->c∈gs.flatten
 uf:gs.flatten.Nodup
end
end Go.Rl
namespace Go.Proofs.YtioeffnadipbaaaGreatDoor
open Go Go.Dn Go.Rl Go.Proofs
attribute [local irreducible] a9 vc
set_option maxRecDepth 20000
theorem yMu κ N ls fs a b K:(a9 (Yd κ) 12 91 [.ptr 0 0 [] 0, .int a, .int b] (uB N ls fs) K)=(
 letI c:=AV.agg [AV.an 1 0 N,AV.an 2 0 fs.length]
 letI d:=AV.bool false
 ak (a==b) (K (AV.bool true) [Obj.box 145 c,Obj.rows 35 3 ls none,Obj.row 101 fs]) (aR (decide ((0:Int)<=a)&&decide (a<(↑(fs.length):Int))) (ak
 (Dn.toBool (cX (List.zip (Cb (nth fs (0+a.toNat))) (yf (nth fs (0+a.toNat)))) (Value.int IntKind.i64 b) d)) (aR (decide ((0:Int)<=b)&&decide (b<
 (↑(fs.length):Int))) (K (AV.bool (Dn.toBool (cX (List.zip (Cb (nth fs (0+b.toNat))) (yf (nth fs (0+b.toNat)))) (Value.int IntKind.i64 a) d))) [Obj.box
 145 c,Obj.rows 35 3 ls none,Obj.row 101 fs])) (K d [Obj.box 145 c,Obj.rows 35 3 ls none,Obj.row 101 fs])))):=by kernel_rfl
theorem IJ: ∀l,(l.map gZ).zip (l.map fun _=>AV.lit (.bool true))=iH l
 |[]=>rfl
 |a::l=>by
  grind [iH]
theorem D4 n m L(k:Nat)(a:Int)(b:0<=a)(h:a<k):nth (bx n m L k) (0+a.toNat)=W4 (iW n m L a):=by
 rw[Nat.zero_add,aV _ _ (by grind [lg])];simp only[bx,List.getElem_map,List.getElem_range];rfl
theorem G8 n m L(k:Nat)(a b:Int)(c:0<=a)(h:a<k):Dn.toBool (cX (List.zip (Cb (nth (bx n m L k) (0+a.toNat))) (yf (nth (bx n m L k) (0+a.toNat)))) (Value.int IntKind.i64 b) (AV.lit (Value.bool false)))=(iW n m L a).contains b:=by
 rw[D4 n m L k a c h];simp only[Cb,yf];rw[IJ,mm];rfl
structure Wq where
 n:Nat
 m:Nat
 L:Gr
 a:Int
 b:Int
abbrev qn n m L:=uB n (dw L) (bx n m L n)
def Xw(x:Wq):List AV×List Dn.Obj:=([.ptr 0 0 [] 0, .int x.a, .int x.b],qn x.n x.m x.L)
def OA(x:Wq):=(0<=x.a/\x.a<x.n)/\0<=x.b/\x.b<x.n
def O8(x:Wq):Out (AV×List Dn.Obj):= .one (.bool (gD x.n x.m x.L x.a x.b),qn x.n x.m x.L)
theorem cMu κ:bg (Yd κ) 12 91 (aO Xw OA O8):=by
 refine aU ?_;rintro⟨n,m,L,a,b⟩ K ⟨⟨g,d⟩,f,c⟩ e;refine Eq.mpr (yMu κ n (dw L) (bx n m L n) a b K) ?_;simp only[O8,Out.run,gD,qn,uB,lg] at e;rw[G8 n m L n a b g d,G8 n m L n b a f c,lg];simp only[ai,ad,ao0,an9,beq_iff_eq]
 grind
noncomputable def QF κ:=(Yd κ).aw 91 (aO Xw OA O8)
theorem eMu κ:aE (QF κ):=(eOf _).aw (mOf _) (cMu _)
theorem mMu κ:aj (QF κ):=(mOf _).aw aH
theorem xGp κ(N i:Nat) ls fs ws a I n K:(vc (QF κ) 12 45 none 3 (ae (Pr κ).toProgram 45 3) (sp 25 [(0, .ptr 0 0 [] 0),(1, .int a),(5, .an 3 0 ws.length),(11, .int N),(12, .int i)] (uB N ls fs++[.row 3 ws])) (bj (QF κ) 45 3 3 I n K))=(
 letI b:=AV.ptr 0 0 []
 letI c:=AV.int
 letI d:=Obj.box
 letI e:=Obj.row
 letI f:=Obj.rows
 letI g:=AV.an
 letI k:=IntKind.wrap IntKind.i64 ((↑i:Int)+(1:Int))
 letI l:=AV.agg [g 1 0 N,g 2 0 fs.length]
 ak (decide ((↑i:Int)<(↑N:Int))) (∃(e1:Wq),letI h:=bx e1.n e1.m e1.L e1.n;letI j:=AV.agg [g 1 0 e1.n,g 2 0 (List.length h)];([b 0,c a,c (↑i:Int)],[d 145 l,f 35 3 ls none,e 101 fs])=([b 0,c e1.a,c e1.b],[d 145 j,f 35 3 (dw e1.L) none,e 101 h])/\(((0:Int)<=e1.a/\e1.a<(↑(e1.n):Int))/\(0:Int)<=e1.b/\e1.b<(↑(e1.n):Int))/\ak (gD e1.n e1.m e1.L e1.a e1.b) (aR (decide ((ws.length+1+1)*9<=70368744177664)) (∃(e0:Nat),e0<n/\I e0 (sp 25 [(0,b 0),(1,c a),(5,g 3 0 (ws.length+1)),(11,c (↑N:Int)),(12,c k)] [d 145 j,f 35 3 (dw e1.L) none,e 101 h,e 3 (List.take ws.length ws++[c (↑i:Int)])]))) (∃(e0:Nat),e0<n/\I e0 (sp 25 [(0,b 0),(1,c a),(5,g 3 0 ws.length),(11,c (↑N:Int)),(12,c k)] [d 145 j,f 35 3 (dw e1.L) none,e 101 h,e 3 ws]))) (K (Exit.exit 0) (sp 25 [(5,g 3 0 ws.length)] [d 145 l,f 35 3 ls none,e 101 fs,e 3 ws]))):=by kernel_rfl
def vE n m L a i:=(jS i).filter (gD n m L a)
theorem KE n m L a i:vE n m L a (i+1)=bif gD n m L a i then vE n m L a i++[(i:Int)] else vE n m L a i:=by
 grind [vE,jS,List.range_succ]
theorem CU n m L a i:(vE n m L a i).length<=i:=by
 grind [jS,vE]
structure SK where
 n:Nat
 m:Nat
 L:Gr
 a:Int
 i:Nat
abbrev RE(x:SK):=sp 25 [(0, .ptr 0 0 [] 0),(1, .int x.a),(5, .an 3 0 (iA (vE x.n x.m x.L x.a x.i)).length),(11, .int x.n),(12, .int x.i)] (qn x.n x.m x.L++[.row 3 (iA (vE x.n x.m x.L x.a x.i))])
def OL(x:SK):=(0<=x.a/\x.a<x.n)/\x.i<=x.n/\x.n<=60
def SL(x:SK):Out (Exit×S):= .one (.exit 0,sp 25 [(5, .an 3 0 (iA (gQ x.n x.m x.L x.a)).length)] (qn x.n x.m x.L++[.row 3 (iA (gQ x.n x.m x.L x.a))]))
theorem lGp κ:aX (QF κ) 12 45 3 (aG 3 RE OL SL):=by
 refine aD (fun x=>x.n - x.i) ?_;rintro⟨n,m,L,a,i⟩ K ⟨c,g,f⟩ d;simp only at c g f;rw[show(QF κ).P=Pr κ from rfl];refine Eq.mpr (xGp κ n i (dw L) (bx n m L n) (iA (vE n m L a i)) a _ _ K) ?_;have j:=CU n m L a i;rw[ad,an9,ao1];refine⟨fun h=>⟨⟨n,m,L,a,i⟩,rfl,⟨c,by simp only;omega,h⟩,?_⟩,fun h=>?_⟩
 ·rw[az (n:=(i:Int)+1) (by omega) (by omega),ad,ai,an9,List.take_length]
  have b:=KE n m L a i;refine⟨fun e=>⟨by rw[jw];omega,_,?_,⟨n,m,L,a,i+1⟩,?_,⟨c,by simp only;omega,f⟩,rfl,d⟩,fun e=>⟨_,?_,⟨n,m,L,a,i+1⟩,?_,⟨c,by simp only;omega,f⟩,rfl,d⟩⟩
  ·simp only;omega
  ·simp only at e
   rw[e,ao6] at b;simp only[RE,b,w8,ap4];rfl
  ·simp only;omega
  ·simp only at e
   rw[e,ao4] at b;simp only[RE,b];rfl
 ·obtain rfl:n=i:=by omega
  exact d
noncomputable def EGp κ:=(QF κ).aq 45 3 (aG 3 RE OL SL)
theorem eGp κ:aE (EGp κ):=(eMu _).aq (mMu _) (lGp _)
theorem mGp κ:aj (EGp κ):=(mMu _).aq aI
theorem yGp κ N ls fs a K:(a9 (EGp κ) 12 45 [.ptr 0 0 [] 0, .int a] (uB N ls fs) K)=(
 letI b:=AV.int
 letI c:=Obj.row
 letI d:=AV.an
 letI f:=Pg.toProgram (Env.P (QF κ))
 ae f 45 3=ae f 45 3/\∃(e0:SK),letI e:=bx e0.n e0.m e0.L e0.n;letI g:=AV.agg [d 1 0 e0.n,d 2 0 (List.length e)];letI h:=iA (vE e0.n e0.m e0.L e0.a e0.i);letI i:=iA (gQ e0.n e0.m e0.L e0.a);sp 25 [(0,AV.ptr 0 0 [] 0),(1,b a),(5,d 3 0 0),(11,b (↑N:Int)),(12,b 0)] [Obj.box 145 (AV.agg [d 1 0 N,d 2 0 fs.length]),Obj.rows 35 3 ls none,c 101 fs,c 3 []]=sp 25 [(0,AV.ptr 0 0 [] 0),(1,b e0.a),(5,d 3 0 (List.length h)),(11,b (↑(e0.n):Int)),(12,b (↑(e0.i):Int))] [Obj.box 145 g,Obj.rows 35 3 (dw e0.L) none,c 101 e,c 3 h]/\(((0:Int)<=e0.a/\e0.a<(↑(e0.n):Int))/\e0.i<=e0.n/\e0.n<=60)/\K (AV.ah 3 (List.take (List.length i) (List.drop 0 i))) [Obj.box 145 g,Obj.rows 35 3 (dw e0.L) none,c 101 e]):=by kernel_rfl
def Yl(x:SK):List AV×List Dn.Obj:=([.ptr 0 0 [] 0, .int x.a],qn x.n x.m x.L)
def OK(x:SK):=(0<=x.a/\x.a<x.n)/\x.n<=60
def Tk(x:SK):Out (AV×List Dn.Obj):= .one (.ah 3 (iA (gQ x.n x.m x.L x.a)),qn x.n x.m x.L)
theorem cGq κ:bg (EGp κ) 12 45 (aO Yl OK Tk):=by
 refine aU ?_;rintro⟨n,m,L,a,i⟩ K ⟨c,d⟩ b;refine Eq.mpr (yGp _ n _ _ a K) ?_;refine⟨rfl,⟨n,m,L,a,0⟩,rfl,by grind,?_⟩;rw[ao9,List.take_length];exact b
noncomputable def QS κ:=(EGp κ).aw 45 (aO Yl OK Tk)
theorem eGq κ:aE (QS κ):=(eGp _).aw (mGp _) (cGq _)
theorem mGq κ:aj (QS κ):=(mGp _).aw aH
theorem xNi κ(N:Nat) a ls fs es ks met vs I n K:(vc (QS κ) 12 44 none 4 (ae (Pr κ).toProgram 44 6) (sp 43 [(0, .ptr 0 0 [] 0),(1, .mp 3),(5, .int a),(11, .int N),(12, .int a),(25, .ptr 4 0 [] 0)] (uB N ls fs++[.map 3 4 es, .fit 3 4 ks vs met])) (bj (QS κ) 44 6 4 I n K))=(
 letI b:=AV.ptr 0 0 []
 letI c:=AV.int
 letI d:=Obj.box
 letI e:=Obj.row
 letI f:=Obj.rows
 letI g:=Dn.Obj.map
 letI i:=AV.agg [AV.an 1 0 N,AV.an 2 0 fs.length]
 (∀(e3:Int) (e2:AV),List.Mem (Value.int IntKind.i64 e3,e2) (List.zip ks vs)->kz met (Value.int IntKind.i64 e3)=false->ak (!Dn.toBool (cX es (Value.int IntKind.i64 e3) (AV.bool false))) (∃(e1:Wq),letI h:=bx e1.n e1.m e1.L e1.n;letI j:=AV.agg [AV.an 1 0 e1.n,AV.an 2 0 (List.length h)];([b 0,c a,c e3],[d 145 i,f 35 3 ls none,e 101 fs])=([b 0,c e1.a,c e1.b],[d 145 j,f 35 3 (dw e1.L) none,e 101 h])/\(((0:Int)<=e1.a/\e1.a<(↑(e1.n):Int))/\(0:Int)<=e1.b/\e1.b<(↑(e1.n):Int))/\ak (!gD e1.n e1.m e1.L e1.a e1.b) (K (Exit.exit 1) (sp 43 [(0,b 0),(1,AV.mp 3),(11,c (↑N:Int)),(12,c a)] [d 145 j,f 35 3 (dw e1.L) none,e 101 h,g 3 4 es])) (∃(e0:Nat),e0<n/\I e0 (sp 43 [(0,b 0),(1,AV.mp 3),(5,c a),(11,c (↑N:Int)),(12,c a),(25,AV.ptr 4 0 [] 0)] [d 145 j,f 35 3 (dw e1.L) none,e 101 h,g 3 4 es,Obj.fit 3 4 ks vs (Value.int IntKind.i64 e3::met)]))) (∃(e0:Nat),e0<n/\I e0 (sp 43 [(0,b 0),(1,AV.mp 3),(5,c a),(11,c (↑N:Int)),(12,c a),(25,AV.ptr 4 0 [] 0)] [d 145 i,f 35 3 ls none,e 101 fs,g 3 4 es,Obj.fit 3 4 ks vs (Value.int IntKind.i64 e3::met)])))/\(ku met (List.zip ks vs)=true->K (Exit.exit 2) (sp 43 [(5,c a)] [d 145 i,f 35 3 ls none,e 101 fs,g 3 4 es]))):=by kernel_rfl
theorem KS n i(h:i<n):(jS n).drop i=(i:Int)::(jS n).drop (i+1):=by
 grind [List.drop_eq_getElem_cons,jS]
def Av n m L done i:=(((jS n).drop i).find? (iQ n m L done)).getD (-1)
theorem JF{n} m L done{i}(h:i<n):Av n m L done i=bif iQ n m L done i then(i:Int) else Av n m L done (i+1):=by
 grind [Av,KS]
theorem MM n m L done:Av n m L done n= -1:=by
 grind [Av,List.drop_eq_nil_of_le,jS]
structure IW where
 n:Nat
 m:Nat
 L:Gr
 done:List Int
 i:Nat
 met:List Value
def xi(x:IW):=(iW x.n x.m x.L x.i).all fun b=>x.done.contains b||gD x.n x.m x.L x.i b
abbrev P5(x:IW):S:=sp 43 [(0, .ptr 0 0 [] 0),(1, .mp 3),(5, .int x.i),(11, .int x.n),(12, .int x.i),(25, .ptr 4 0 [] 0)] (qn x.n x.m x.L++[.map 3 4 (iH x.done), .fit 3 4 ((iW x.n x.m x.L x.i).map gZ) ((iW x.n x.m x.L x.i).map fun _=> .lit (.bool true)) x.met])
def EH(x:IW):=WG x.n x.m x.L/\x.i<x.n/\∀b,kz x.met (gZ b)=true->b∈iW x.n x.m x.L x.i->(x.done.contains b||gD x.n x.m x.L x.i b)=true
def HM(x:IW):Out (Exit×S):= .ak (xi x)
 (.one (.exit 2,sp 43 [(5, .int x.i)] (qn x.n x.m x.L++[.map 3 4 (iH x.done)])))
 (.one (.exit 1,sp 43 [(0, .ptr 0 0 [] 0),(1, .mp 3),(11, .int x.n),(12, .int x.i)] (qn x.n x.m x.L++[.map 3 4 (iH x.done)])))
theorem wF c b a:kz (gZ c::a) (gZ b)=(decide (c=b)||kz a (gZ b)):=rfl
theorem CE: ∀{l c},ku c (iH l)=true->∀b,b∈l->kz c (gZ b)=true
 |[],_,_,b,d=>nomatch d
 |a::l,c,h,b,d=>by
  simp[iH,ku] at h;rcases List.mem_cons.1 d with rfl|d
  ·grind
  ·exact CE  h.2 b d
theorem QB{x v l}(h:(gZ x,v)∈iH l):x∈l:=by
 obtain⟨k,b,a⟩:=List.mem_map.1 h
 grind
theorem lNi κ:aX (QS κ) 12 44 6 (aG 4 P5 EH HM):=by
 refine aD (fun x=>(iW x.n x.m x.L x.i).countP fun b=>!kz x.met (gZ b)) ?_;rintro⟨n,m,L,done,i,a⟩ K ⟨o,w,q⟩ z;simp only at o w q;rw[show(QS κ).P=Pr κ from rfl];refine Eq.mpr (xNi κ n i (dw L) (bx n m L n) (iH done) ((iW n m L i).map gZ) a ((iW n m L i).map fun _=> .lit (.bool true)) _ _ K) ?_;have g:(0:Int)<=i:=by omega
 have f:=z;simp only[HM,Out.run,ad] at f;rw[IJ];refine⟨fun b v p l=>?_,fun C=>?_⟩
 ·have r:b∈iW n m L i:=QB p
  have B:=Rc.kQ o g ((vm o g).1 r);have y:(done.contains b||gD n m L i b)=true->∃k,k<(iW n m L i).countP (fun b=>!kz a (gZ b))/\et P5 EH HM (fun x=>(iW x.n x.m x.L x.i).countP fun b=>!kz x.met (gZ b)) K k (P5 ⟨n,m,L,done,i,gZ b::a⟩):=fun s=>by
   refine⟨_,?_,⟨n,m,L,done,i,gZ b::a⟩,rfl,⟨o,w,fun c d t=>?_⟩,rfl,z⟩
   ·refine py (fun c _ d=>?_) ⟨b,r,?_,?_⟩
    ·rw[wF] at d
     cases h:kz a (gZ c) with
     |true=>rw[h] at d;simp at d
     |false=>rfl
    ·simp only[gZ] at l⊢;rw[l];rfl
    ·rw[wF];simp
   ·rw[wF] at d
    by_cases e:b=c
    ·subst e;exact s
    ·rw[ao3 e,Bool.false_or] at d
     exact q c d t
  have A:Dn.toBool (cX (iH done) (Value.int IntKind.i64 b) (AV.lit (Value.bool false)))=done.contains b:=by rw[mm];rfl
  rw[A];simp only[ad];refine⟨fun e=>⟨⟨n,m,L,i,b⟩,rfl,⟨⟨g,by simp only;omega⟩,B⟩,fun j=>?_,fun j=>?_⟩,fun e=>?_⟩
  ·have u:xi ⟨n,m,L,done,i,a⟩=false:=by
    rw[←Bool.not_eq_true,xi,List.all_eq_true];intro h;have:=h b r
    simp only at this j e;rw[ap2] at this;rcases this with h|h
    ·rw[h] at e;cases e
    ·rw[h] at j;cases j
   exact f.2 u
  ·exact y (by simp only at j⊢;rw[ap2];right;simpa using j)
  ·exact y (by rw[ap2];left;simpa using e)
 ·have u:xi ⟨n,m,L,done,i,a⟩=true:=by
   rw[xi,List.all_eq_true];exact fun b l=>q b (CE C b l) l
  exact f.1 u
noncomputable def I5 κ:=(QS κ).aq 44 6 (aG 4 P5 EH HM)
theorem eNi κ:aE (I5 κ):=(eGq _).aq (mGq _) (lNi _)
theorem mNi κ:aj (I5 κ):=(mGq _).aq aI
theorem xNx κ(N i:Nat) ls fs es I n K:(vc (I5 κ) 12 44 none 4 (ae (Pr κ).toProgram 44 2) (sp 43 [(0, .ptr 0 0 [] 0),(1, .mp 3),(11, .int N),(12, .int i)] (uB N ls fs++[.map 3 4 es])) (bj (I5 κ) 44 2 4 I n K))=(
 letI a:=IntKind.wrap IntKind.i64
 letI b:=AV.ptr 0 0 []
 letI c:=AV.int
 letI d:=Obj.box
 letI e:=Obj.row
 letI f:=Obj.rows
 letI g:=Dn.Obj.map
 letI h:=AV.agg [AV.an 1 0 N,AV.an 2 0 fs.length]
 letI k:=Pg.toProgram (Env.P (QS κ))
 ak (decide ((↑i:Int)<(↑N:Int))) (ak (Dn.toBool (cX es (Value.int IntKind.i64 (↑i:Int)) (AV.bool false))) (∃(e0:Nat),e0<n/\I e0 (sp 43 [(0,b 0),(1,AV.mp 3),(11,c (↑N:Int)),(12,c (a ((↑i:Int)+(1:Int))))] [d 145 h,f 35 3 ls none,e 101 fs,g 3 4 es])) (aR (true&&decide ((↑i:Int)<(↑(fs.length):Int))) (ae k 44 6=ae k 44 6/\∃(e1:IW),letI j:=bx e1.n e1.m e1.L e1.n;letI l:=AV.agg [AV.an 1 0 e1.n,AV.an 2 0 (List.length j)];letI m:=[d 145 l,f 35 3 (dw e1.L) none,e 101 j,g 3 4 (iH e1.done)];sp 43 [(0,b 0),(1,AV.mp 3),(5,c (↑i:Int)),(11,c (↑N:Int)),(12,c (↑i:Int)),(25,AV.ptr 4 0 [] 0)] [d 145 h,f 35 3 ls none,e 101 fs,g 3 4 es,Obj.fit 3 4 (Cb (nth fs (0+Int.toNat (↑i:Int)))) (yf (nth fs (0+Int.toNat (↑i:Int)))) []]=sp 43 [(0,b 0),(1,AV.mp 3),(5,c (↑(e1.i):Int)),(11,c (↑(e1.n):Int)),(12,c (↑(e1.i):Int)),(25,AV.ptr 4 0 [] 0)] [d 145 l,f 35 3 (dw e1.L) none,e 101 j,g 3 4 (iH e1.done),Obj.fit 3 4 (List.map gZ (iW e1.n e1.m e1.L (↑(e1.i):Int))) (List.map (fun(e0:Int)=>AV.bool true) (iW e1.n e1.m e1.L (↑(e1.i):Int))) e1.met]/\(WG e1.n e1.m e1.L/\e1.i<e1.n/\∀(e0:Int),kz e1.met (Value.int IntKind.i64 e0)=true->List.Mem e0 (iW e1.n e1.m e1.L (↑(e1.i):Int))->(List.contains e1.done e0||gD e1.n e1.m e1.L (↑(e1.i):Int) e0)=true)/\ak (xi e1) (K Exit.ret (sp 43 [(4,c (↑(e1.i):Int))] m)) (∃(e0:Nat),e0<n/\I e0 (sp 43 [(0,b 0),(1,AV.mp 3),(11,c (↑(e1.n):Int)),(12,c (a ((↑(e1.i):Int)+(1:Int))))] m))))) (K (Exit.exit 0) (sp 43 [] [d 145 h,f 35 3 ls none,e 101 fs,g 3 4 es]))):=by kernel_rfl
abbrev Qo(x:IW):=sp 43 [(0, .ptr 0 0 [] 0),(1, .mp 3),(11, .int x.n),(12, .int x.i)] (qn x.n x.m x.L++[.map 3 4 (iH x.done)])
def G1(x:IW):=WG x.n x.m x.L/\x.i<=x.n/\x.n<=60
def CH(x:IW):Out (Exit×S):= .ak (decide (Av x.n x.m x.L x.done x.i<0))
 (.one (.exit 0,sp 43 [] (qn x.n x.m x.L++[.map 3 4 (iH x.done)])))
 (.one (.ret,sp 43 [(4, .int (Av x.n x.m x.L x.done x.i))] (qn x.n x.m x.L++[.map 3 4 (iH x.done)])))
theorem Aq n m L done(i:Nat) a:iQ n m L done i=(!done.contains i&&xi ⟨n,m,L,done,i,a⟩):=rfl
theorem lNx κ:aX (I5 κ) 12 44 2 (aG 4 Qo G1 CH):=by
 refine aD (fun x=>x.n - x.i) ?_;rintro⟨n,m,L,done,i,p⟩ K ⟨g,q,o⟩ l;simp only at g q o;rw[show(I5 κ).P=Pr κ from rfl];refine Eq.mpr (xNx κ n i (dw L) (bx n m L n) (iH done) _ _ K) ?_;have a:=l;simp only[CH,Out.run,ad] at a;have s:Dn.toBool (cX (iH done) (Value.int IntKind.i64 i) (AV.lit (Value.bool false)))=done.contains (i:Int):=by rw[mm];rfl
 rw[s,ad,an9,ao1];refine⟨fun h=>?_,fun h=>?_⟩
 ·have d:i<n:=by omega
  have f:=JF m L done d;have c:iQ n m L done i=false->∃k,k<n - i/\et Qo G1 CH (fun x=>x.n - x.i) K k (Qo ⟨n,m,L,done,i+1,[]⟩):=fun e=>by
   rw[e,ao4] at f;refine⟨_,?_,⟨n,m,L,done,i+1,[]⟩,rfl,⟨g,d,o⟩,rfl,?_⟩
   ·simp only;omega
   ·simp only[CH,Out.run,←f];exact l
  rw[ad];refine⟨fun e=>?_,fun e=>?_⟩
  ·rw[az (n:=(i:Int)+1) (by omega) (by omega)]
   exact c (by rw[Aq n m L done i [],e];rfl)
  ·rw[ai,ap5,an9,lg,D4 n m L n i (by omega) h]
   refine⟨h,rfl,⟨n,m,L,done,i,[]⟩,?_,⟨g,d,fun b r=>(nomatch r)⟩,?_⟩
   ·simp only[lg]
    rfl
   ·rw[ad]
    refine⟨fun j=>?_,fun j=>?_⟩
    ·have t:iQ n m L done i=true:=by rw[Aq n m L done i [],e,j];rfl
     rw[t,ao6] at f;have:=a.2 (by rw[f,ao1];omega)
     rw[f] at this;exact this
    ·rw[az (n:=(i:Int)+1) (by omega) (by omega)]
     exact c (by rw[Aq n m L done i [],j,Bool.and_false])
 ·obtain rfl:i=n:=by omega
  rw[MM] at a;exact a.1 rfl
theorem xNz κ ls es I n K:(vc (I5 κ) 12 44 none 3 (ae (Pr κ).toProgram 44 2) (sp 43 [(0, .ptr 0 0 [] 0),(1, .mp 2),(11, .int 0),(12, .int 0)] (yA 0 ls++[.map 3 4 es])) (bj (I5 κ) 44 2 3 I n K))=(
 K (Exit.exit 0) (sp 43 [] [Obj.box 145 (AV.agg [AV.an 1 0 0,AV.nil]),Obj.rows 35 3 ls none,Dn.Obj.map 3 4 es])):=by kernel_rfl
structure QQ where
 ls:List (List Value)
 es:List (Value×AV)
abbrev YH(x:QQ):=sp 43 [(0, .ptr 0 0 [] 0),(1, .mp 2),(11, .int 0),(12, .int 0)] (yA 0 x.ls++[.map 3 4 x.es])
def SW(x:QQ):Out (Exit×S):= .one (.exit 0,sp 43 [] (yA 0 x.ls++[.map 3 4 x.es]))
theorem lNz κ:aX (I5 κ) 12 44 2 (aG 3 YH (fun _=>True) SW):=by
 refine aD (fun _=>0) ?_;rintro⟨b,c⟩ K _ a;exact Eq.mpr (xNz _ _ _ _ _ K) a
def Yf(s:S):Bool:=Nat.beq s.st.length 4
noncomputable def UR κ:=(I5 κ).aq 44 2 (rC Yf (aG 4 Qo G1 CH) (aG 3 YH (fun _=>True) SW))
theorem eNx κ:aE (UR κ):=(eNi _).aq (mNi _) (n8 (lNx _) (lNz _))
theorem mNx κ:aj (UR κ):=(mNi _).aq (lj aI aI)
theorem yNx κ N ls fs es K:(a9 (UR κ) 12 44 [.ptr 0 0 [] 0, .mp 3] (uB N ls fs++[.map 3 4 es]) K)=(
 letI b:=AV.int
 ae (Pg.toProgram (Env.P (I5 κ))) 44 2=ae (Pg.toProgram (Env.P (I5 κ))) 44 2/\∃(a:IW),letI c:=[Obj.box 145 (AV.agg [AV.an 1 0 a.n,AV.an 2 0 (List.length (bx a.n a.m a.L a.n))]),Obj.rows 35 3 (dw a.L) none,Obj.row 101 (bx a.n a.m a.L a.n),Dn.Obj.map 3 4 (iH a.done)];sp 43 [(0,AV.ptr 0 0 [] 0),(1,AV.mp 3),(11,b (↑N:Int)),(12,b 0)] [Obj.box 145 (AV.agg [AV.an 1 0 N,AV.an 2 0 fs.length]),Obj.rows 35 3 ls none,Obj.row 101 fs,Dn.Obj.map 3 4 es]=sp 43 [(0,AV.ptr 0 0 [] 0),(1,AV.mp 3),(11,b (↑(a.n):Int)),(12,b (↑(a.i):Int))] c/\(WG a.n a.m a.L/\a.i<=a.n/\a.n<=60)/\ak (decide (Av a.n a.m a.L a.done a.i<(0:Int))) (K (b (-1)) c) (K (b (Av a.n a.m a.L a.done a.i)) c)):=by kernel_rfl
def XP(x:IW):List AV×List Dn.Obj:=([.ptr 0 0 [] 0, .mp 3],qn x.n x.m x.L++[.map 3 4 (iH x.done)])
def Oa(x:IW):=WG x.n x.m x.L/\x.n<=60
def PU(x:IW):Out (AV×List Dn.Obj):= .one (.int (gi x.n x.m x.L x.done),qn x.n x.m x.L++[.map 3 4 (iH x.done)])
theorem R7 n m L done(h:gi n m L done<0):gi n m L done= -1:=by
 unfold gi at h⊢;cases e:(jS n).find? _<;>grind [lf]
theorem cNy κ:bg (UR κ) 12 44 (aO XP Oa PU):=by
 refine aU ?_;rintro⟨n,m,L,done,i,b⟩ K ⟨c,d⟩ a;refine Eq.mpr (yNx κ n (dw L) _ (iH done) K) ?_;refine⟨rfl,⟨n,m,L,done,0,[]⟩,rfl,by grind,?_⟩;simp only[PU,Out.run] at a;rw[ad];refine⟨fun e=>?_,fun _=>a⟩;rw[R7 n m L done (of_decide_eq_true e)] at a;exact a
theorem yNz κ ls es K:(a9 (UR κ) 12 44 [.ptr 0 0 [] 0, .mp 2] (yA 0 ls++[.map 3 4 es]) K)=(
 letI a:=AV.int
 letI b:=AV.agg [AV.an 1 0 0,AV.nil]
 letI c:=Pg.toProgram (Env.P (I5 κ))
 ae c 44 2=ae c 44 2/\∃(e0:QQ),letI d:=[Obj.box 145 b,Obj.rows 35 3 e0.ls none,Dn.Obj.map 3 4 e0.es];sp 43 [(0,AV.ptr 0 0 [] 0),(1,AV.mp 2),(11,a 0),(12,a 0)] [Obj.box 145 b,Obj.rows 35 3 ls none,Dn.Obj.map 3 4 es]=sp 43 [(0,AV.ptr 0 0 [] 0),(1,AV.mp 2),(11,a 0),(12,a 0)] d/\True/\K (a (-1)) d):=by kernel_rfl
def Z2(x:QQ):List AV×List Dn.Obj:=([.ptr 0 0 [] 0, .mp 2],yA 0 x.ls++[.map 3 4 x.es])
def Tp(x:QQ):Out (AV×List Dn.Obj):= .one (.int (-1),yA 0 x.ls++[.map 3 4 x.es])
theorem cNw κ:bg (UR κ) 12 44 (aO Z2 (fun _=>True) Tp):=by
 refine aU ?_;rintro⟨b,c⟩ K _ a;refine Eq.mpr (yNz _ _ _ K) ?_;exact⟨rfl,_,rfl,trivial,a⟩
def Z7(st:List Dn.Obj):=Nat.beq st.length 4
noncomputable def Zu κ:=(UR κ).aw 44 (FH Z7 (aO XP Oa PU) (aO Z2 (fun _=>True) Tp))
theorem eNy κ:aE (Zu κ):=(eNx _).aw (mNx _) (AL (cNy _) (cNw _))
theorem mNy κ:aj (Zu κ):=(mNx _).aw (tO aH aH)
def RR(a:Int):List AV×List Dn.Obj:=([.int a],[])
def T7(a:Int):Out (AV×List Dn.Obj):= .one (.bool (jH a),[])
def LW(a:Int):Out (AV×List Dn.Obj):= .one (.bool (iv a),[])
def BP(_:Int):Prop:=True
theorem yIa κ op K:(a9 (Zu κ) 12 90 [.int op] [] K)=(
 K (AV.bool (op==(1:Int))) []):=by kernel_rfl
theorem cIa κ:bg (Zu κ) 12 90 (aO RR BP T7):=by
 refine aU ?_;rintro b K _ a;refine Eq.mpr (yIa _ _ K) ?_;exact a
noncomputable def ZJ κ:=(Zu κ).aw 90 (aO RR BP T7)
theorem eIa κ:aE (ZJ κ):=(eNy _).aw (mNy _) (cIa _)
theorem mIa κ:aj (ZJ κ):=(mNy _).aw aH
theorem yIb κ op K:(a9 (ZJ κ) 12 88 [.int op] [] K)=(
 ak (op==(2:Int)) (K (AV.bool true) []) (K (AV.bool (decide (op>=(7:Int)))) [])):=by kernel_rfl
theorem cIb κ:bg (ZJ κ) 12 88 (aO RR BP LW):=by
 refine aU ?_;rintro b K _ a;refine Eq.mpr (yIb _ _ K) ?_;simp[LW,iv] at a;rw[Xd];cases h:decide (b=2)<;>rw[h] at a<;>exact a
noncomputable def FT κ:=(ZJ κ).aw 88 (aO RR BP LW)
theorem eIb κ:aE (FT κ):=(eIa _).aw (mIa _) (cIb _)
theorem mIb κ:aj (FT κ):=(mIa _).aw aH
structure Jm where
 n:Nat
 m:Nat
 L:Gr
 ds:List AV
 rs:List AV
 a:dk
 h:Int
def lp(a:Int->Bool) n m L ds h(b:List _):=b.any fun l=>a (toInt (af l 0))&&gD n m L h (bw (toStr (af (af l 1) 0)) ds)
def sM(b:Int->Bool)(x:Jm):=(0<=x.h/\x.h<x.n)/\x.ds.length<=aW/\x.a.bl.length<=aW/\0<=x.a.i/\x.a.i<=x.a.bl.length/\∀l,l∈x.a.bl->b (toInt (af l 0))=true->0<=bw (toStr (af (af l 1) 0)) x.ds/\bw (toStr (af (af l 1) 0)) x.ds<x.n
def AU(b:Int->Bool)(x:Jm):=x.h=bw x.a.rel x.ds/\(0<=x.h/\x.h<x.n)/\x.ds.length<=aW/\x.a.bl.length<=aW/\∀l,l∈x.a.bl->b (toInt (af l 0))=true->0<=bw (toStr (af (af l 1) 0)) x.ds/\bw (toStr (af (af l 1) 0)) x.ds<x.n
theorem xAa(κ:Kp)(N:Nat) ls ds rs fs(a:dk)(h:Int) I n K:(vc (FT κ) 12 168 none 8 (ae (Pr κ).toProgram 168 2) (sp 19 [(0, .ah 80 a.bl),(1, .bn 134 [.ptr 4 0 [] 0, .ptr 6 0 [] 0, .ptr 3 0 [] 0, .ptr 7 0 [] 0]),(7, .int a.bl.length),(8, .int a.i)] (uB N ls fs++[.box 99 (.ptr 0 0 [] 0), .box 25 (eg ds rs), .box 48 (au a), .box 152 (.bn 90 []), .box 3 (.int h)])) (bj (FT κ) 168 2 8 I n K))=(
 letI b:=AV.ptr 0 0 []
 letI c:=AV.int
 letI d:=AV.ptr
 letI e:=Obj.box
 letI f:=Obj.row
 letI g:=Obj.rows
 letI i:=AV.ah
 letI k:=AV.agg [i 43 ds,i 48 rs]
 letI l:=AV.agg [AV.an 1 0 N,AV.an 2 0 fs.length]
 letI m:=b 0
 letI q:=IntKind.wrap IntKind.i64 (a.i+(1:Int))
 letI j:=a.bl.length
 letI o:=AV.bn 90 []
 ak (decide (a.i<(↑j:Int))) (aR (decide ((0:Int)<=a.i)&&decide (a.i<(↑j:Int))) (∃(e3:List AV×ByteArray),([i 43 ds,AV.str (toStr (af (af (nth a.bl a.i.toNat) 1) 0))],aL)=([i 43 e3.1,AV.str e3.2],aL)/\iw e3/\∃(e2:Int),([c (toInt (af (nth a.bl a.i.toNat) 0))],aL)=([c e2],aL)/\True/\ak (jH e2) (∃(e1:Wq),letI p:=bx e1.n e1.m e1.L e1.n;letI r:=AV.agg [AV.an 1 0 e1.n,AV.an 2 0 (List.length p)];letI s:=[e 145 r,g 35 3 (dw e1.L) none,f 101 p,e 99 m,e 25 k,e 48 (au a),e 152 o,e 3 (c h)];([b 0,c h,c (bw e3.2 e3.1)],[e 145 l,g 35 3 ls none,f 101 fs])=([b 0,c e1.a,c e1.b],[e 145 r,g 35 3 (dw e1.L) none,f 101 p])/\(((0:Int)<=e1.a/\e1.a<(↑(e1.n):Int))/\(0:Int)<=e1.b/\e1.b<(↑(e1.n):Int))/\ak (gD e1.n e1.m e1.L e1.a e1.b) (K Exit.ret (sp 19 [(4,c a.i)] s)) (∃(e0:Nat),e0<n/\I e0 (sp 19 [(0,i 80 a.bl),(1,AV.bn 134 [d 4 0 [] 0,d 6 0 [] 0,d 3 0 [] 0,d 7 0 [] 0]),(7,c (↑j:Int)),(8,c q)] s))) (∃(e0:Nat),e0<n/\I e0 (sp 19 [(0,i 80 a.bl),(1,AV.bn 134 [d 4 0 [] 0,d 6 0 [] 0,d 3 0 [] 0,d 7 0 [] 0]),(7,c (↑j:Int)),(8,c q)] [e 145 l,g 35 3 ls none,f 101 fs,e 99 m,e 25 k,e 48 (au a),e 152 o,e 3 (c h)])))) (K (Exit.exit 0) (sp 19 [] [e 145 l,g 35 3 ls none,f 101 fs,e 99 m,e 25 k,e 48 (au a),e 152 o,e 3 (c h)]))):=by kernel_rfl
abbrev Sv(x:Jm):=sp 19 [(0, .ah 80 x.a.bl),(1, .bn 134 [.ptr 4 0 [] 0, .ptr 6 0 [] 0, .ptr 3 0 [] 0, .ptr 7 0 [] 0]),(7, .int x.a.bl.length),(8, .int x.a.i)] (uB x.n (dw x.L) (bx x.n x.m x.L x.n)++[.box 99 (.ptr 0 0 [] 0), .box 25 (eg x.ds x.rs), .box 48 (au x.a), .box 152 (.bn 90 []), .box 3 (.int x.h)])
def IM(x:Jm):Out (Exit×S):= .all (fun j:Int=>0<=j) fun j=> .ak (lp jH x.n x.m x.L x.ds x.h (x.a.bl.drop x.a.i.toNat))
 (.one (.ret,sp 19 [(4, .int j)] (qn x.n x.m x.L++[.box 99 (.ptr 0 0 [] 0), .box 25 (eg x.ds x.rs), .box 48 (au x.a), .box 152 (.bn 90 []), .box 3 (.int x.h)])))
 (.one (.exit 0,sp 19 [] (qn x.n x.m x.L++[.box 99 (.ptr 0 0 [] 0), .box 25 (eg x.ds x.rs), .box 48 (au x.a), .box 152 (.bn 90 []), .box 3 (.int x.h)])))
theorem lAa κ:aX (FT κ) 12 168 2 (aG 8 Sv (sM jH) IM):=by
 refine aD (fun x=>x.a.bl.length - x.a.i.toNat) ?_;rintro⟨n,m,L,ds,o,⟨xs,d,g,t,b,c,i⟩,h⟩ K ⟨u,hd,w,q,y,r⟩ s;simp only at u hd w q y r;rw[show(FT κ).P=Pr κ from rfl];refine Eq.mpr (xAa κ n (dw L) ds o (bx n m L n) ⟨xs,d,g,t,b,c,i⟩ h _ _ K) ?_;simp only[aW] at w;rw[ad,ai,ao0,an9,an9,ao1];refine⟨fun j=>⟨⟨q,j⟩,(ds,toStr (af (af (nth b i.toNat) 1) 0)),rfl,hd,toInt (af (nth b i.toNat) 0),rfl,trivial,?_⟩,fun j=>?_⟩
 ·have j:i<(b.length:Int):=j
  have p:i.toNat<b.length:=by omega
  have z:nth b i.toNat∈b:=by rw[aV _ _ p];exact List.getElem_mem _
  have v:lp jH n m L ds h (b.drop i.toNat)=((jH (toInt (af (nth b i.toNat) 0))&&gD n m L h (bw (toStr (af (af (nth b i.toNat) 1) 0)) ds))||lp jH n m L ds h (b.drop (i.toNat+1))):=by
   rw[ap0 p,←aV b i.toNat p];rfl
  have f:(jH (toInt (af (nth b i.toNat) 0))&&gD n m L h (bw (toStr (af (af (nth b i.toNat) 1) 0)) ds))=false->∃k,k<b.length - i.toNat/\et Sv (sM jH) IM (fun x=>x.a.bl.length - x.a.i.toNat) K k (Sv ⟨n,m,L,ds,o,⟨xs,d,g,t,b,c,i+1⟩,h⟩):=fun e=>by
   rw[e,Bool.false_or] at v;refine⟨_,?_,⟨n,m,L,ds,o,⟨xs,d,g,t,b,c,i+1⟩,h⟩,rfl,⟨u,hd,by simpa[aW] using w,by simp only;omega,by simp only;omega,r⟩,rfl,?_⟩
   ·simp only;omega
   ·simp only[IM,Out.run,show(i+1).toNat=i.toNat+1 by omega,←v]
    exact s
  rw[az (n:=i+1) (by omega) (by omega),ad];refine⟨fun e=>⟨⟨n,m,L,h,bw (toStr (af (af (nth b i.toNat) 1) 0)) ds⟩,rfl,⟨u,r _ z e⟩,?_⟩,fun e=>?_⟩
  ·rw[ad]
   refine⟨fun l=>?_,fun l=>?_⟩
   ·have:=s i q
    simp only at l;simp only[Out.run] at this;rw[v,e,l] at this;exact this
   ·exact f (by rw[e,ap5];exact l)
  ·exact f (by rw[e,Bool.false_and])
 ·have:=s 0 (by omega)
  simp only at j;simp only[Out.run] at this;rw[ao7 (by omega)] at this;exact this
theorem xAb(κ:Kp)(N:Nat) ls ds rs fs(a:dk) h I n K:(vc (FT κ) 12 168 none 8 (ae (Pr κ).toProgram 168 2) (sp 19 [(0, .ah 80 a.bl),(1, .bn 134 [.ptr 4 0 [] 0, .ptr 6 0 [] 0, .ptr 3 0 [] 0, .ptr 7 0 [] 0]),(7, .int a.bl.length),(8, .int a.i)] (uB N ls fs++[.box 99 (.ptr 0 0 [] 0), .box 25 (eg ds rs), .box 48 (au a), .box 152 (.bn 88 []), .box 3 (.int h)])) (bj (FT κ) 168 2 8 I n K))=(
 letI b:=AV.ptr 0 0 []
 letI c:=AV.int
 letI d:=AV.ptr
 letI e:=Obj.box
 letI f:=Obj.row
 letI g:=Obj.rows
 letI i:=AV.ah
 letI k:=AV.agg [i 43 ds,i 48 rs]
 letI l:=AV.agg [AV.an 1 0 N,AV.an 2 0 fs.length]
 letI m:=b 0
 letI q:=IntKind.wrap IntKind.i64 (a.i+(1:Int))
 letI j:=a.bl.length
 letI o:=AV.bn 88 []
 ak (decide (a.i<(↑j:Int))) (aR (decide ((0:Int)<=a.i)&&decide (a.i<(↑j:Int))) (∃(e3:List AV×ByteArray),([i 43 ds,AV.str (toStr (af (af (nth a.bl a.i.toNat) 1) 0))],aL)=([i 43 e3.1,AV.str e3.2],aL)/\iw e3/\∃(e2:Int),([c (toInt (af (nth a.bl a.i.toNat) 0))],aL)=([c e2],aL)/\True/\ak (iv e2) (∃(e1:Wq),letI p:=bx e1.n e1.m e1.L e1.n;letI r:=AV.agg [AV.an 1 0 e1.n,AV.an 2 0 (List.length p)];letI s:=[e 145 r,g 35 3 (dw e1.L) none,f 101 p,e 99 m,e 25 k,e 48 (au a),e 152 o,e 3 (c h)];([b 0,c h,c (bw e3.2 e3.1)],[e 145 l,g 35 3 ls none,f 101 fs])=([b 0,c e1.a,c e1.b],[e 145 r,g 35 3 (dw e1.L) none,f 101 p])/\(((0:Int)<=e1.a/\e1.a<(↑(e1.n):Int))/\(0:Int)<=e1.b/\e1.b<(↑(e1.n):Int))/\ak (gD e1.n e1.m e1.L e1.a e1.b) (K Exit.ret (sp 19 [(4,c a.i)] s)) (∃(e0:Nat),e0<n/\I e0 (sp 19 [(0,i 80 a.bl),(1,AV.bn 134 [d 4 0 [] 0,d 6 0 [] 0,d 3 0 [] 0,d 7 0 [] 0]),(7,c (↑j:Int)),(8,c q)] s))) (∃(e0:Nat),e0<n/\I e0 (sp 19 [(0,i 80 a.bl),(1,AV.bn 134 [d 4 0 [] 0,d 6 0 [] 0,d 3 0 [] 0,d 7 0 [] 0]),(7,c (↑j:Int)),(8,c q)] [e 145 l,g 35 3 ls none,f 101 fs,e 99 m,e 25 k,e 48 (au a),e 152 o,e 3 (c h)])))) (K (Exit.exit 0) (sp 19 [] [e 145 l,g 35 3 ls none,f 101 fs,e 99 m,e 25 k,e 48 (au a),e 152 o,e 3 (c h)]))):=by kernel_rfl
abbrev Qb(x:Jm):=sp 19 [(0, .ah 80 x.a.bl),(1, .bn 134 [.ptr 4 0 [] 0, .ptr 6 0 [] 0, .ptr 3 0 [] 0, .ptr 7 0 [] 0]),(7, .int x.a.bl.length),(8, .int x.a.i)] (uB x.n (dw x.L) (bx x.n x.m x.L x.n)++[.box 99 (.ptr 0 0 [] 0), .box 25 (eg x.ds x.rs), .box 48 (au x.a), .box 152 (.bn 88 []), .box 3 (.int x.h)])
def HP(x:Jm):Out (Exit×S):= .all (fun j:Int=>0<=j) fun j=> .ak (lp iv x.n x.m x.L x.ds x.h (x.a.bl.drop x.a.i.toNat))
 (.one (.ret,sp 19 [(4, .int j)] (qn x.n x.m x.L++[.box 99 (.ptr 0 0 [] 0), .box 25 (eg x.ds x.rs), .box 48 (au x.a), .box 152 (.bn 88 []), .box 3 (.int x.h)])))
 (.one (.exit 0,sp 19 [] (qn x.n x.m x.L++[.box 99 (.ptr 0 0 [] 0), .box 25 (eg x.ds x.rs), .box 48 (au x.a), .box 152 (.bn 88 []), .box 3 (.int x.h)])))
theorem lAb κ:aX (FT κ) 12 168 2 (aG 8 Qb (sM iv) HP):=by
 refine aD (fun x=>x.a.bl.length - x.a.i.toNat) ?_;rintro⟨n,m,L,ds,o,⟨xs,d,g,t,b,c,i⟩,h⟩ K ⟨u,hd,w,q,y,r⟩ s;simp only at u hd w q y r;rw[show(FT κ).P=Pr κ from rfl];refine Eq.mpr (xAb κ n (dw L) ds o (bx n m L n) ⟨xs,d,g,t,b,c,i⟩ h _ _ K) ?_;simp only[aW] at w;rw[ad,ai,ao0,an9,an9,ao1];refine⟨fun j=>⟨⟨q,j⟩,(ds,toStr (af (af (nth b i.toNat) 1) 0)),rfl,hd,toInt (af (nth b i.toNat) 0),rfl,trivial,?_⟩,fun j=>?_⟩
 ·have j:i<(b.length:Int):=j
  have p:i.toNat<b.length:=by omega
  have z:nth b i.toNat∈b:=by rw[aV _ _ p];exact List.getElem_mem _
  have v:lp iv n m L ds h (b.drop i.toNat)=((iv (toInt (af (nth b i.toNat) 0))&&gD n m L h (bw (toStr (af (af (nth b i.toNat) 1) 0)) ds))||lp iv n m L ds h (b.drop (i.toNat+1))):=by
   rw[ap0 p,←aV b i.toNat p];rfl
  have f:(iv (toInt (af (nth b i.toNat) 0))&&gD n m L h (bw (toStr (af (af (nth b i.toNat) 1) 0)) ds))=false->∃k,k<b.length - i.toNat/\et Qb (sM iv) HP (fun x=>x.a.bl.length - x.a.i.toNat) K k (Qb ⟨n,m,L,ds,o,⟨xs,d,g,t,b,c,i+1⟩,h⟩):=fun e=>by
   rw[e,Bool.false_or] at v;refine⟨_,?_,⟨n,m,L,ds,o,⟨xs,d,g,t,b,c,i+1⟩,h⟩,rfl,⟨u,hd,by simpa[aW] using w,by simp only;omega,by simp only;omega,r⟩,rfl,?_⟩
   ·simp only;omega
   ·simp only[HP,Out.run,show(i+1).toNat=i.toNat+1 by omega,←v]
    exact s
  rw[az (n:=i+1) (by omega) (by omega),ad];refine⟨fun e=>⟨⟨n,m,L,h,bw (toStr (af (af (nth b i.toNat) 1) 0)) ds⟩,rfl,⟨u,r _ z e⟩,?_⟩,fun e=>?_⟩
  ·rw[ad]
   refine⟨fun l=>?_,fun l=>?_⟩
   ·have:=s i q
    simp only at l;simp only[Out.run] at this;rw[v,e,l] at this;exact this
   ·exact f (by rw[e,ap5];exact l)
  ·exact f (by rw[e,Bool.false_and])
 ·have:=s 0 (by omega)
  simp only at j;simp only[Out.run] at this;rw[ao7 (by omega)] at this;exact this
def ah9(s:S):Bool:=match ay s.st 6 with| .box _ (.bn f _)=>Nat.beq f 90|_=>false
noncomputable def Wi κ:=(FT κ).aq 168 2 (rC ah9 (aG 8 Sv (sM jH) IM) (aG 8 Qb (sM iv) HP))
theorem eAl κ:aE (Wi κ):=(eIb _).aq (mIb _) (n8 (lAa _) (lAb _))
theorem mAl κ:aj (Wi κ):=(mIb _).aq (lj aI aI)
theorem yAa κ N ls ds rs fs a K:(a9 (Wi κ) 12 87 [.ptr 0 0 [] 0,eg ds rs,au a, .bn 90 []] (uB N ls fs) K)=(
 letI b:=AV.int
 letI c:=AV.ptr
 letI d:=Obj.box
 letI e:=AV.ah
 letI g:=Pg.toProgram (Env.P (FT κ))
 ∃(e2:List AV×ByteArray),([e 43 ds,AV.str a.rel],aL)=([e 43 e2.1,AV.str e2.2],aL)/\iw e2/\ae g 168 2=ae g 168 2/\∃(e1:Jm),letI f:=bx e1.n e1.m e1.L e1.n;letI h:=AV.agg [AV.an 1 0 e1.n,AV.an 2 0 (List.length f)];letI i:=[d 145 h,Obj.rows 35 3 (dw e1.L) none,Obj.row 101 f];sp 19 [(0,e 80 a.bl),(1,AV.bn 134 [c 4 0 [] 0,c 6 0 [] 0,c 3 0 [] 0,c 7 0 [] 0]),(7,b (↑(a.bl.length):Int)),(8,b 0)] [d 145 (AV.agg [AV.an 1 0 N,AV.an 2 0 fs.length]),Obj.rows 35 3 ls none,Obj.row 101 fs,d 99 (c 0 0 [] 0),d 25 (AV.agg [e 43 ds,e 48 rs]),d 48 (au a),d 152 (AV.bn 90 []),d 3 (b (bw e2.2 e2.1))]=sp 19 [(0,e 80 e1.a.bl),(1,AV.bn 134 [c 4 0 [] 0,c 6 0 [] 0,c 3 0 [] 0,c 7 0 [] 0]),(7,b (↑(List.length e1.a.bl):Int)),(8,b e1.a.i)] [d 145 h,Obj.rows 35 3 (dw e1.L) none,Obj.row 101 f,d 99 (c 0 0 [] 0),d 25 (AV.agg [e 43 e1.ds,e 48 e1.rs]),d 48 (au e1.a),d 152 (AV.bn 90 []),d 3 (b e1.h)]/\(((0:Int)<=e1.h/\e1.h<(↑(e1.n):Int))/\e1.ds.length<=9223372036854775807/\List.length e1.a.bl<=9223372036854775807/\(0:Int)<=e1.a.i/\e1.a.i<=(↑(List.length e1.a.bl):Int)/\∀(e0:AV),List.Mem e0 e1.a.bl->jH (toInt (af e0 0))=true->(0:Int)<=bw (toStr (af (af e0 1) 0)) e1.ds/\bw (toStr (af (af e0 1) 0)) e1.ds<(↑(e1.n):Int))/\∀(e0:Int),(0:Int)<=e0->ak (lp jH e1.n e1.m e1.L e1.ds e1.h (List.drop (Int.toNat e1.a.i) e1.a.bl)) (K (AV.bool (decide (e0>=(0:Int)))) i) (K (AV.bool false) i)):=by kernel_rfl
def Tj(x:Jm):=([.ptr 0 0 [] 0,eg x.ds x.rs,au x.a, .bn 90 []],qn x.n x.m x.L)
def FC(x:Jm):Out (AV×List Dn.Obj):= .one (.bool (lp jH x.n x.m x.L x.ds x.h x.a.bl),qn x.n x.m x.L)
theorem cAa κ:bg (Wi κ) 12 87 (aO Tj (AU jH) FC):=by
 refine aU ?_;rintro⟨n,m,L,ds,d,⟨xs,a,c,l,p,b,i⟩,h⟩ K ⟨g,f,hd,e,k⟩ o;simp only at g f hd e k;refine Eq.mpr (yAa κ n (dw L) ds d (bx n m L n) _ K) ?_;simp only[FC,Out.run] at o;refine⟨(ds,c),rfl,hd,rfl,⟨n,m,L,ds,d,⟨xs,a,c,l,p,b,0⟩,h⟩,by simp only[g],⟨f,hd,e,by simp only;omega,by simp only;omega,k⟩,fun j q=>?_⟩
 grind [ad,decide_eq_true]
theorem yAb κ N ls ds rs fs a K:(a9 (Wi κ) 12 87 [.ptr 0 0 [] 0,eg ds rs,au a, .bn 88 []] (uB N ls fs) K)=(
 letI b:=AV.int
 letI c:=AV.ptr
 letI d:=Obj.box
 letI e:=AV.ah
 letI g:=Pg.toProgram (Env.P (FT κ))
 ∃(e2:List AV×ByteArray),([e 43 ds,AV.str a.rel],aL)=([e 43 e2.1,AV.str e2.2],aL)/\iw e2/\ae g 168 2=ae g 168 2/\∃(e1:Jm),letI f:=bx e1.n e1.m e1.L e1.n;letI h:=AV.agg [AV.an 1 0 e1.n,AV.an 2 0 (List.length f)];letI i:=[d 145 h,Obj.rows 35 3 (dw e1.L) none,Obj.row 101 f];sp 19 [(0,e 80 a.bl),(1,AV.bn 134 [c 4 0 [] 0,c 6 0 [] 0,c 3 0 [] 0,c 7 0 [] 0]),(7,b (↑(a.bl.length):Int)),(8,b 0)] [d 145 (AV.agg [AV.an 1 0 N,AV.an 2 0 fs.length]),Obj.rows 35 3 ls none,Obj.row 101 fs,d 99 (c 0 0 [] 0),d 25 (AV.agg [e 43 ds,e 48 rs]),d 48 (au a),d 152 (AV.bn 88 []),d 3 (b (bw e2.2 e2.1))]=sp 19 [(0,e 80 e1.a.bl),(1,AV.bn 134 [c 4 0 [] 0,c 6 0 [] 0,c 3 0 [] 0,c 7 0 [] 0]),(7,b (↑(List.length e1.a.bl):Int)),(8,b e1.a.i)] [d 145 h,Obj.rows 35 3 (dw e1.L) none,Obj.row 101 f,d 99 (c 0 0 [] 0),d 25 (AV.agg [e 43 e1.ds,e 48 e1.rs]),d 48 (au e1.a),d 152 (AV.bn 88 []),d 3 (b e1.h)]/\(((0:Int)<=e1.h/\e1.h<(↑(e1.n):Int))/\e1.ds.length<=9223372036854775807/\List.length e1.a.bl<=9223372036854775807/\(0:Int)<=e1.a.i/\e1.a.i<=(↑(List.length e1.a.bl):Int)/\∀(e0:AV),List.Mem e0 e1.a.bl->iv (toInt (af e0 0))=true->(0:Int)<=bw (toStr (af (af e0 1) 0)) e1.ds/\bw (toStr (af (af e0 1) 0)) e1.ds<(↑(e1.n):Int))/\∀(e0:Int),(0:Int)<=e0->ak (lp iv e1.n e1.m e1.L e1.ds e1.h (List.drop (Int.toNat e1.a.i) e1.a.bl)) (K (AV.bool (decide (e0>=(0:Int)))) i) (K (AV.bool false) i)):=by kernel_rfl
def SR(x:Jm):=([.ptr 0 0 [] 0,eg x.ds x.rs,au x.a, .bn 88 []],qn x.n x.m x.L)
def E5(x:Jm):Out (AV×List Dn.Obj):= .one (.bool (lp iv x.n x.m x.L x.ds x.h x.a.bl),qn x.n x.m x.L)
theorem cAb κ:bg (Wi κ) 12 87 (aO SR (AU iv) E5):=by
 refine aU ?_;rintro⟨n,m,L,ds,d,⟨xs,a,c,l,p,b,i⟩,h⟩ K ⟨g,f,hd,e,k⟩ o;simp only at g f hd e k;refine Eq.mpr (yAb κ n (dw L) ds d (bx n m L n) _ K) ?_;simp only[E5,Out.run] at o;refine⟨(ds,c),rfl,hd,rfl,⟨n,m,L,ds,d,⟨xs,a,c,l,p,b,0⟩,h⟩,by simp only[g],⟨f,hd,e,by simp only;omega,by simp only;omega,k⟩,fun j q=>?_⟩
 grind [ad,decide_eq_true]
def Oe(d:List AV->Bool)(a b:dM):dM:=fun c st K=>bif d c then a c st K else b c st K
theorem J6{c a b}(f:a.gn)(g:b.gn):(Oe c a b).gn:=fun e st K j d h=>by
 unfold Oe at h⊢;cases i:c _<;>simp[i] at h⊢
 ·exact g _ _ _ _ d h
 ·exact f _ _ _ _ d h
theorem QP{E N f c a b}(i:bg E N f a)(g:bg E N f b):bg E N f (Oe c a b):=fun d st K h=>by
 unfold Oe at h;cases e:c _<;>rw[e] at h
 ·exact g _ _ _ h
 ·exact i _ _ _ h
def ag1:List AV->Bool
 |[_,_,_, .bn f _]=>Nat.beq f 90
 |_=>false
noncomputable def Ia κ:=(Wi κ).aw 87 (Oe ag1 (aO Tj (AU jH) FC) (aO SR (AU iv) E5))
theorem eAg κ:aE (Ia κ):=(eAl _).aw (mAl _) (QP (cAa _) (cAb _))
theorem mAg κ:aj (Ia κ):=(mAl _).aw (J6 aH aH)
theorem xLy(κ:Kp)(N i:Nat) ls ds rs fs I(n:Nat) K:(vc (Ia κ) 12 43 none 3 (ae (Pr κ).toProgram 43 2) (sp 38 [(0, .ptr 0 0 [] 0),(3, .ptr 3 0 [] 0),(11, .ah 48 rs),(12, .int rs.length),(13, .int i)] (uB N ls fs++[.box 25 (eg ds rs)])) (bj (Ia κ) 43 2 3 I n K))=(
 letI a:=AV.ptr 0 0 []
 letI b:=AV.int
 letI c:=AV.agg
 letI d:=Obj.box
 letI e:=Obj.row
 letI f:=Obj.rows
 letI g:=AV.ah
 letI h:=AV.an
 letI s:=nth rs (Int.toNat (↑i:Int))
 letI w:=IntKind.wrap IntKind.i64 ((↑i:Int)+(1:Int))
 letI x:=c [g 43 ds,g 48 rs]
 letI o:=toInt (af s 2)
 letI t:=toStr (af (af s 0) 0)
 letI y:=c [h 1 0 N,h 2 0 fs.length]
 letI z:=(↑i:Int)<(↑(rs.length):Int)
 letI u:=ag (af (af s 0) 1)
 letI v:=ag (af s 1)
 ak (decide z) (aR (true&&decide z) (∃(e3:Jm),letI j:=bx e3.n e3.m e3.L e3.n;letI p:=c [h 1 0 e3.n,h 2 0 (List.length j)];letI k:=∃(e0:Nat),e0<n/\I e0 (sp 38 [(0,a 0),(3,AV.ptr 3 0 [] 0),(11,g 48 rs),(12,b (↑(rs.length):Int)),(13,b w)] [d 145 p,f 35 3 (dw e3.L) none,e 101 j,d 25 x]);letI l:=[d 145 p,f 35 3 (dw e3.L) none,e 101 j];([a 0,c [g 43 ds,g 48 rs],c [c [AV.str t,g 38 u],g 80 v,b o],AV.bn 88 []],[d 145 y,f 35 3 ls none,e 101 fs])=([a 0,c [g 43 e3.ds,g 48 e3.rs],au e3.a,AV.bn 88 []],l)/\(e3.h=bw e3.a.rel e3.ds/\((0:Int)<=e3.h/\e3.h<(↑(e3.n):Int))/\e3.ds.length<=9223372036854775807/\List.length e3.a.bl<=9223372036854775807/\∀(e0:AV),List.Mem e0 e3.a.bl->iv (toInt (af e0 0))=true->(0:Int)<=bw (toStr (af (af e0 1) 0)) e3.ds/\bw (toStr (af (af e0 1) 0)) e3.ds<(↑(e3.n):Int))/\ak (lp iv e3.n e3.m e3.L e3.ds e3.h e3.a.bl) (K Exit.ret (sp 38 [(4,b o),(5,b 70)] l)) (∃(e2:dk),([c [c [AV.str t,g 38 u],g 80 v,b o]],aL)=([au e2],aL)/\(bk (aa (bo 38 e2.hl e2.bl))<=100000/\e2.bl.length<=100000)/\ak (ba (aM e2)) (ak (jY (aM e2)) (ak (Ok (aM e2)) (∃(e1:Jm),letI m:=bx e1.n e1.m e1.L e1.n;letI q:=c [h 1 0 e1.n,h 2 0 (List.length m)];letI r:=[d 145 q,f 35 3 (dw e1.L) none,e 101 m];([a 0,c [g 43 ds,g 48 rs],c [c [AV.str t,g 38 u],g 80 v,b o],AV.bn 90 []],l)=([a 0,c [g 43 e1.ds,g 48 e1.rs],au e1.a,AV.bn 90 []],r)/\(e1.h=bw e1.a.rel e1.ds/\((0:Int)<=e1.h/\e1.h<(↑(e1.n):Int))/\e1.ds.length<=9223372036854775807/\List.length e1.a.bl<=9223372036854775807/\∀(e0:AV),List.Mem e0 e1.a.bl->jH (toInt (af e0 0))=true->(0:Int)<=bw (toStr (af (af e0 1) 0)) e1.ds/\bw (toStr (af (af e0 1) 0)) e1.ds<(↑(e1.n):Int))/\ak (lp jH e1.n e1.m e1.L e1.ds e1.h e1.a.bl) (K Exit.ret (sp 38 [(4,b o),(5,b 71)] r)) (∃(e0:Nat),e0<n/\I e0 (sp 38 [(0,a 0),(3,AV.ptr 3 0 [] 0),(11,g 48 rs),(12,b (↑(rs.length):Int)),(13,b w)] [d 145 q,f 35 3 (dw e1.L) none,e 101 m,d 25 x]))) k) k) k))) (K (Exit.exit 0) (sp 38 [] [d 145 y,f 35 3 ls none,e 101 fs]))):=by kernel_rfl
theorem xLz κ ls ds I n K:(vc (Ia κ) 12 43 none 2 (ae (Pr κ).toProgram 43 2) (sp 38 [(0, .ptr 0 0 [] 0),(3, .ptr 2 0 [] 0),(11, .ah 48 []),(12, .int 0),(13, .int 0)] (yA 0 ls++[.box 25 (eg ds [])])) (bj (Ia κ) 43 2 2 I n K))=(
 K (Exit.exit 0) (sp 38 [] [Obj.box 145 (AV.agg [AV.an 1 0 0,AV.nil]),Obj.rows 35 3 ls none])):=by kernel_rfl
def uN r:=ba (aM (dg r))&&jY (aM (dg r))&&Ok (aM (dg r))
def YT ds r:=bw (toStr (af (af r 0) 0)) ds
def yp a n m L ds r:=lp a n m L ds (YT ds r) (ag (af r 1))
def vt(n m:Nat)(L:Gr)(ds:List AV):List AV->Int×Int
 |[]=>(0,0)
 |r::a=>bif yp iv n m L ds r then(toInt (af r 2),70) else bif uN r&&yp jH n m L ds r then(toInt (af r 2),71) else vt n m L ds a
structure zb(n:Nat)(ds:List AV)(r:AV):Prop where
 hd:0<=YT ds r/\YT ds r<n
 at_: ∀l,l∈ag (af r 1)->dx (toInt (af l 0))=true->0<=bw (toStr (af (af l 1) 0)) ds/\bw (toStr (af (af l 1) 0)) ds<n
 le:(ag (af r 1)).length<=aW
 s42:c9 (dg r)
theorem Dy{a}(h:jH a=true):dx a=true:=by
 have:a=1:=by grind [jH]
 subst this;rfl
theorem xd{a}(h:iv a=true):dx a=true:=by
 grind [iv,dx]
structure TN where
 n:Nat
 m:Nat
 L:Gr
 ds:List AV
 rs:List AV
 i:Nat
abbrev QL(x:TN):=sp 38 [(0, .ptr 0 0 [] 0),(3, .ptr 3 0 [] 0),(11, .ah 48 x.rs),(12, .int x.rs.length),(13, .int x.i)] (qn x.n x.m x.L++[.box 25 (eg x.ds x.rs)])
def Fa(x:TN):=x.ds.length<=aW/\x.rs.length<=aW/\x.i<=x.rs.length/\∀r,r∈x.rs->zb x.n x.ds r
def Dz(x:TN):Out (Exit×S):= .ak (decide ((vt x.n x.m x.L x.ds (x.rs.drop x.i)).2=0))
 (.one (.exit 0,sp 38 [] (qn x.n x.m x.L)))
 (.one (.ret,sp 38 [(4, .int (vt x.n x.m x.L x.ds (x.rs.drop x.i)).1),(5, .int (vt x.n x.m x.L x.ds (x.rs.drop x.i)).2)] (qn x.n x.m x.L)))
theorem lLy κ:aX (Ia κ) 12 43 2 (aG 3 QL Fa Dz):=by
 refine aD (fun x=>x.rs.length - x.i) ?_;rintro⟨n,m,L,ds,a,i⟩ K ⟨hd,t,w,r⟩ u;simp only at hd t w r;rw[show(Ia κ).P=Pr κ from rfl];refine Eq.mpr (xLy κ n i (dw L) ds a (bx n m L n) _ _ K) ?_;have c:=u;simp only[Dz,Out.run,ad,an9,ao1] at c;simp only[aW] at t;rw[ad,an9,ao1,ai,ap5,an9];refine⟨fun h=>⟨h,?_⟩,fun h=>?_⟩
 ·have p:i<a.length:=by omega
  have v:nth a i∈a:=by rw[aV _ _ p];exact List.getElem_mem _
  have g:=r _ v;have d:vt n m L ds (a.drop i)=bif yp iv n m L ds (nth a i) then(toInt (af (nth a i) 2),70) else bif uN (nth a i)&&yp jH n m L ds (nth a i) then(toInt (af (nth a i) 2),71) else vt n m L ds (a.drop (i+1)):=by
   rw[ap0 p,←aV a i p];rfl
  have b:yp iv n m L ds (nth a i)=false->(uN (nth a i)&&yp jH n m L ds (nth a i))=false->∃k,k<a.length - i/\et QL Fa Dz (fun x=>x.rs.length - x.i) K k (QL ⟨n,m,L,ds,a,i+1⟩):=fun j o=>by
   rw[j,o,ao4,ao4] at d;refine⟨_,?_,⟨n,m,L,ds,a,i+1⟩,rfl,⟨hd,by simpa[aW] using t,p,r⟩,rfl,?_⟩
   ·simp only;omega
   ·simp only[Dz,Out.run,←d];exact u
  rw[Int.toNat_natCast,az (n:=(i:Int)+1) (by omega) (by omega)];refine⟨⟨n,m,L,ds,a,dg (nth a i),YT ds (nth a i)⟩,rfl,⟨rfl,g.hd,hd,g.le,fun l q h=>g.at_ l q (xd h)⟩,?_⟩;rw[ad];refine⟨fun e=>?_,fun e=>?_⟩
  ·have e:yp iv n m L ds (nth a i)=true:=e
   rw[e,ao6] at d;have:=c.2 (by rw[d];exact fun h=>nomatch h)
   rw[d] at this;exact this
  ·have e:yp iv n m L ds (nth a i)=false:=e
   refine⟨dg (nth a i),rfl,g.s42,?_⟩;rw[ad];refine⟨fun j=>?_,fun j=>b e (by unfold uN;rw[j];rfl)⟩;rw[ad];refine⟨fun o=>?_,fun o=>b e (by unfold uN;rw[j,o];rfl)⟩;rw[ad];refine⟨fun s=>?_,fun s=>b e (by unfold uN;rw[j,o,s];rfl)⟩;have y:uN (nth a i)=true:=by unfold uN;rw[j,o,s];rfl
   refine⟨⟨n,m,L,ds,a,dg (nth a i),YT ds (nth a i)⟩,rfl,⟨rfl,g.hd,hd,g.le,fun l q h=>g.at_ l q (Dy h)⟩,?_⟩;rw[ad];refine⟨fun f=>?_,fun f=>b e (by have f:yp jH n m L ds (nth a i)=false:=f;rw[f,Bool.and_false])⟩;have f:yp jH n m L ds (nth a i)=true:=f;rw[e,y,f,ao4,Bool.and_true,ao6] at d;have:=c.2 (by rw[d];exact fun h=>nomatch h)
   rw[d] at this;exact this
 ·rw[ao7 (by omega)] at c
  exact c.1 rfl
structure W3 where
 ls:List (List Value)
 ds:List AV
abbrev Y7(x:W3):=sp 38 [(0, .ptr 0 0 [] 0),(3, .ptr 2 0 [] 0),(11, .ah 48 []),(12, .int 0),(13, .int 0)] (yA 0 x.ls++[.box 25 (eg x.ds [])])
def TL(x:W3):Out (Exit×S):= .one (.exit 0,sp 38 [] (yA 0 x.ls))
theorem lLz κ:aX (Ia κ) 12 43 2 (aG 2 Y7 (fun _=>True) TL):=by
 refine aD (fun _=>0) ?_;rintro⟨b,ds⟩ K _ a;exact Eq.mpr (xLz _ _ _ _ _ K) a
noncomputable def Um κ:=(Ia κ).aq 43 2 (rC Yf (aG 3 QL Fa Dz) (aG 2 Y7 (fun _=>True) TL))
theorem eLl κ:aE (Um κ):=(eAg _).aq (mAg _) (n8 (lLy _) (lLz _))
theorem mLl κ:aj (Um κ):=(mAg _).aq (lj aI aI)
theorem yLy κ N ls ds rs fs K:(a9 (Um κ) 12 43 [.ptr 0 0 [] 0,eg ds rs] (uB N ls fs) K)=(
 letI b:=AV.int
 letI c:=Obj.box
 letI d:=AV.ah
 ae (Pg.toProgram (Env.P (Ia κ))) 43 2=ae (Pg.toProgram (Env.P (Ia κ))) 43 2/\∃(a:TN),letI e:=bx a.n a.m a.L a.n;letI g:=AV.agg [AV.an 1 0 a.n,AV.an 2 0 (List.length e)];letI h:=[c 145 g,Obj.rows 35 3 (dw a.L) none,Obj.row 101 e];letI f:=vt a.n a.m a.L a.ds (List.drop a.i a.rs);sp 38 [(0,AV.ptr 0 0 [] 0),(3,AV.ptr 3 0 [] 0),(11,d 48 rs),(12,b (↑(rs.length):Int)),(13,b 0)] [c 145 (AV.agg [AV.an 1 0 N,AV.an 2 0 fs.length]),Obj.rows 35 3 ls none,Obj.row 101 fs,c 25 (AV.agg [d 43 ds,d 48 rs])]=sp 38 [(0,AV.ptr 0 0 [] 0),(3,AV.ptr 3 0 [] 0),(11,d 48 a.rs),(12,b (↑(a.rs.length):Int)),(13,b (↑(a.i):Int))] [c 145 g,Obj.rows 35 3 (dw a.L) none,Obj.row 101 e,c 25 (AV.agg [d 43 a.ds,d 48 a.rs])]/\(a.ds.length<=9223372036854775807/\a.rs.length<=9223372036854775807/\a.i<=a.rs.length/\∀(r:AV),List.Mem r a.rs->zb a.n a.ds r)/\ak (decide (Prod.snd f=(0:Int))) (K (AV.aJ [b 0,b 0]) h) (K (AV.aJ [b (Prod.fst f),b (Prod.snd f)]) h)):=by kernel_rfl
theorem yLz κ ls ds K:(a9 (Um κ) 12 43 [.ptr 0 0 [] 0,eg ds []] (yA 0 ls) K)=(
 letI a:=AV.int
 letI b:=Obj.box
 letI c:=AV.ah
 letI d:=AV.agg [AV.an 1 0 0,AV.nil]
 letI e:=Pg.toProgram (Env.P (Ia κ))
 ae e 43 2=ae e 43 2/\∃(e0:W3),sp 38 [(0,AV.ptr 0 0 [] 0),(3,AV.ptr 2 0 [] 0),(11,c 48 []),(12,a 0),(13,a 0)] [b 145 d,
 Obj.rows 35 3 ls none,b 25 (AV.agg [c 43 ds,c 48 []])]=sp 38 [(0,AV.ptr 0 0 [] 0),(3,AV.ptr 2 0 [] 0),(11,c 48 []),(12,a 0),
 (13,a 0)] [b 145 d,Obj.rows 35 3 e0.ls none,b 25 (AV.agg [c 43 e0.ds,c 48 []])]/\True/\K (AV.aJ [a 0,a 0]) [b
 145 d,Obj.rows 35 3 e0.ls none]):=by kernel_rfl
def TO(x:TN):=([.ptr 0 0 [] 0,eg x.ds x.rs],qn x.n x.m x.L)
def H9(x:TN):=x.ds.length<=aW/\x.rs.length<=aW/\∀r,r∈x.rs->zb x.n x.ds r
def GV(x:TN):Out (AV×List Dn.Obj):= .one (.aJ [.int (vt x.n x.m x.L x.ds x.rs).1, .int (vt x.n x.m x.L x.ds x.rs).2],qn x.n x.m x.L)
theorem Cn n m L ds: ∀a,(vt n m L ds a).2=0->vt n m L ds a=(0,0)
 |[],_=>rfl
 | r::a,h=>by
  rw[vt] at h⊢;cases e:yp iv n m L ds r with
  |true=>grind
  | false=>
   rw[e,ao4] at h;cases b:uN r&&yp jH n m L ds r with
   |true=>grind
   |false=>
    rw[b,ao4] at h;exact Cn n m L ds a h
theorem cLy κ:bg (Um κ) 12 43 (aO TO H9 GV):=by
 refine aU ?_;rintro⟨n,m,L,ds,a,i⟩ K ⟨hd,c,d⟩ b;refine Eq.mpr (yLy κ n (dw L) ds a (bx n m L n) K) ?_;refine⟨rfl,⟨n,m,L,ds,a,0⟩,rfl,⟨hd,c,Nat.zero_le _,d⟩,?_⟩;simp only[GV,Out.run] at b;rw[ao9,ad]
 grind [Cn]
def Ub(x:W3):=([.ptr 0 0 [] 0,eg x.ds []],yA 0 x.ls)
def Lz(x:W3):Out (AV×List Dn.Obj):= .one (.aJ [.int 0, .int 0],yA 0 x.ls)
theorem cLz κ:bg (Um κ) 12 43 (aO Ub (fun _=>True) Lz):=by
 refine aU ?_;rintro⟨b,ds⟩ K _ a;refine Eq.mpr (yLz _ _ _ K) ?_;exact⟨rfl,_,rfl,trivial,a⟩
noncomputable def ELy κ:=(Um κ).aw 43 (FH Xj (aO TO H9 GV) (aO Ub (fun _=>True) Lz))
theorem eLy κ:aE (ELy κ):=(eLl _).aw (mLl _) (AL (cLy _) (cLz _))
theorem mLy κ:aj (ELy κ):=(mLl _).aw (tO aH aH)
noncomputable abbrev Qk(κ:Kp):Env:=ELy κ
theorem eCk(κ:Kp):aE (Qk κ):=eLy κ
theorem mCk(κ:Kp):aj (Qk κ):=mLy κ
theorem xGi κ(N i:Nat) ls fs gs l es I n K:(vc (Qk κ) 12 18 none 0 (ae (Pr κ).toProgram 18 15) (sp 63 [(7, .ptr 0 0 [] 0),(10, .an 3 0 gs.length),(11, .mp 4),(13, .ah 3 l),(49, .ah 3 l),(50, .int l.length),(51, .int i)] (uB N ls fs++[.row 35 gs, .map 3 4 es])) (bj (Qk κ) 18 15 0 I n K))=(
 letI a:=Obj.row
 letI b:=AV.agg [AV.an 1 0 N,AV.an 2 0 fs.length]
 letI c:=(↑i:Int)<(↑(l.length):Int)
 ak (decide c) (aR (true&&decide c) (∃(e0:Nat),e0<n/\I e0 (sp 63 [(7,AV.ptr 0 0 [] 0),(10,AV.an 3 0 gs.length),(11,AV.mp 4),(13,AV.ah 3 l),
 (49,AV.ah 3 l),(50,AV.int (↑(l.length):Int)),(51,AV.int (IntKind.wrap IntKind.i64 ((↑i:Int)+(1:Int))))] [Obj.box 145 b,Obj.rows 35 3 ls none,
 a 101 fs,a 35 gs,Dn.Obj.map 3 4 (eD es (Value.int IntKind.i64 (toInt (nth l (Int.toNat (↑i:Int))))) (AV.bool true))]))) (K (Exit.exit 2) (sp 63
 [(7,AV.ptr 0 0 [] 0),(10,AV.an 3 0 gs.length),(11,AV.mp 4),(13,AV.ah 3 l)] [Obj.box 145 b,Obj.rows 35 3 ls none,a 101 fs,a 35 gs,
 Dn.Obj.map 3 4 es]))):=by kernel_rfl
def j2(a:List (List Int)):List AV:=a.map fun g=> .ah 3 (iA g)
theorem QU a b:j2 (a++b)=j2 a++j2 b:=by simp[j2]
theorem H6 a:(j2 a).length=a.length:=by simp[j2]
structure AGi where
 n:Nat
 m:Nat
 L:Gr
 gs:List (List Int)
 l:List Int
 done:List Int
 i:Nat
abbrev U1(x:AGi):=sp 63 [(7, .ptr 0 0 [] 0),(10, .an 3 0 (j2 x.gs).length),(11, .mp 4),(13, .ah 3 (iA x.l)),(49, .ah 3 (iA x.l)),(50, .int (iA x.l).length),(51, .int x.i)] (qn x.n x.m x.L++[.row 35 (j2 x.gs), .map 3 4 (iH x.done)])
def Nr(x:AGi):=x.i<=x.l.length/\x.l.length<=60
def Ik(x:AGi):Out (Exit×S):= .one (.exit 2,sp 63 [(7, .ptr 0 0 [] 0),(10, .an 3 0 (j2 x.gs).length),(11, .mp 4),(13, .ah 3 (iA x.l))] (qn x.n x.m x.L++[.row 35 (j2 x.gs), .map 3 4 (iH (xx x.done (x.l.drop x.i)))]))
theorem V8: ∀l k h,toInt (nth (iA l) k)=l[k]:=fun l k h=>by
 grind [aV,iA,toInt]
theorem lGi κ:aX (Qk κ) 12 18 15 (aG 0 U1 Nr Ik):=by
 refine aD (fun x=>x.l.length - x.i) ?_;rintro⟨n,m,L,c,l,done,i⟩ K ⟨e,d⟩ a;simp only at e d;rw[show(Qk κ).P=Pr κ from rfl];refine Eq.mpr (xGi κ n i (dw L) (bx n m L n) (j2 c) (iA l) (iH done) _ _ K) ?_;simp only[Ik,Out.run] at a;rw[ad,ai,ap5,an9,ao1,jw];refine⟨fun h=>⟨h,?_⟩,fun h=>?_⟩
 ·have b:i<l.length:=by omega
  rw[Int.toNat_natCast,V8 l i b,az (n:=(i:Int)+1) (by omega) (by omega),rp];refine⟨_,?_,⟨n,m,L,c,l,bif done.contains l[i] then done else done++[l[i]],i+1⟩,?_,⟨b,d⟩,rfl,?_⟩
  ·simp only;omega
  ·simp only[U1,jw];rfl
  ·rw[ap0 b] at a
   simp only[Ik,Out.run];exact a
 ·rw[ao7 (by omega)] at a
  exact a
noncomputable def Jf κ:=(Qk κ).aq 18 15 (aG 0 U1 Nr Ik)
theorem eGi κ:aE (Jf κ):=(eCk _).aq (mCk _) (lGi _)
theorem mGi κ:aj (Jf κ):=(mCk _).aq aI
theorem xGo κ N a ls fs gs es I n K:(vc (Jf κ) 12 18 none 0 (ae (Pr κ).toProgram 18 11) (sp 63 [(7, .ptr 0 0 [] 0),(10, .an 3 0 (j2 gs).length),(11, .mp 4),(12, .int a)] (uB N ls fs++[.row 35 (j2 gs), .map 3 4 es])) (bj (Jf κ) 18 11 0 I n K))=(
 letI b:=AV.ptr 0 0 []
 letI c:=AV.int
 letI d:=Obj.box
 letI e:=Obj.row
 letI f:=Obj.rows
 letI g:=Dn.Obj.map
 letI h:=AV.an
 letI m:=Pg.toProgram (Env.P (Qk κ))
 ak (decide (a>=(0:Int))) (∃(e3:SK),letI i:=bx e3.n e3.m e3.L e3.n;letI o:=AV.agg [h 1 0 e3.n,h 2 0 (List.length i)];letI j:=iA (gQ e3.n e3.m e3.L e3.a);([b 0,c a],[d 145 (AV.agg [h 1 0 N,h 2 0 fs.length]),f 35 3 ls none,e 101 fs])=([b 0,c e3.a],[d 145 o,f 35 3 (dw e3.L) none,e 101 i])/\(((0:Int)<=e3.a/\e3.a<(↑(e3.n):Int))/\e3.n<=60)/\ae m 18 15=ae m 18 15/\∃(e2:AGi),letI k:=bx e2.n e2.m e2.L e2.n;letI p:=AV.agg [h 1 0 e2.n,h 2 0 (List.length k)];sp 63 [(7,b 0),(10,h 3 0 (List.length (j2 gs))),(11,AV.mp 4),(13,AV.ah 3 j),(49,AV.ah 3 j),(50,c (↑(List.length j):Int)),(51,c 0)] [d 145 o,f 35 3 (dw e3.L) none,e 101 i,e 35 (j2 gs),g 3 4 es]=sp 63 [(7,b 0),(10,h 3 0 (List.length (j2 e2.gs))),(11,AV.mp 4),(13,AV.ah 3 (iA e2.l)),(49,AV.ah 3 (iA e2.l)),(50,c (↑(List.length (iA e2.l)):Int)),(51,c (↑(e2.i):Int))] [d 145 p,f 35 3 (dw e2.L) none,e 101 k,e 35 (j2 e2.gs),g 3 4 (iH e2.done)]/\(e2.i<=e2.l.length/\e2.l.length<=60)/\aR (decide ((List.length (j2 e2.gs)+1+1)*25<=70368744177664)) (∃(e1:IW),letI l:=bx e1.n e1.m e1.L e1.n;letI q:=AV.agg [h 1 0 e1.n,h 2 0 (List.length l)];([b 0,AV.mp 3],[d 145 p,f 35 3 (dw e2.L) none,e 101 k,g 3 4 (iH (xx e2.done (List.drop e2.i e2.l)))])=([b 0,AV.mp 3],[d 145 q,f 35 3 (dw e1.L) none,e 101 l,g 3 4 (iH e1.done)])/\(WG e1.n e1.m e1.L/\e1.n<=60)/\∃(e0:Nat),e0<n/\I e0 (sp 63 [(7,b 0),(10,h 3 0 (List.length (j2 e2.gs)+1)),(11,AV.mp 4),(12,c (gi e1.n e1.m e1.L e1.done))] [d 145 q,f 35 3 (dw e1.L) none,e 101 l,e 35 (List.take (List.length (j2 e2.gs)) (j2 e2.gs)++[AV.ah 3 (iA e2.l)]),g 3 4 (iH e1.done)]))) (K (Exit.exit 0) (sp 63 [(10,h 0 0 (List.length (j2 gs)))] [e 35 (j2 gs)]))):=by kernel_rfl
theorem xGz κ ls es I n K:(vc (Jf κ) 12 18 none 0 (ae (Pr κ).toProgram 18 11) (sp 63 [(7, .ptr 0 0 [] 0),(10, .an 2 0 0),(11, .mp 3),(12, .int (-1))] (yA 0 ls++[.row 35 [], .map 3 4 es])) (bj (Jf κ) 18 11 0 I n K))=(
 K (Exit.exit 0) (sp 63 [(10,AV.an 0 0 0)] [Obj.row 35 []])):=by kernel_rfl
structure AGo where
 n:Nat
 m:Nat
 L:Gr
 gs:List (List Int)
 done:List Int
abbrev VA(x:AGo):=sp 63 [(7, .ptr 0 0 [] 0),(10, .an 3 0 (j2 x.gs).length),(11, .mp 4),(12, .int (gi x.n x.m x.L x.done))] (qn x.n x.m x.L++[.row 35 (j2 x.gs), .map 3 4 (iH x.done)])
def My(x:AGo):=WG x.n x.m x.L/\x.n<=60/\x.gs.length+Ew x.n x.done<=x.n
def IK(x:AGo):Out (Exit×S):= .one (.exit 0,sp 63 [(10, .an 0 0 (j2 (x.gs++qe x.n x.m x.L x.done)).length)] [.row 35 (j2 (x.gs++qe x.n x.m x.L x.done))])
theorem Kk n m L a:(gQ n m L a).length<=n:=CU n m L a n
theorem lGo κ:aX (Jf κ) 12 18 11 (aG 0 VA My IK):=by
 refine aD (fun x=>Ew x.n x.done) ?_;rintro⟨n,m,L,d,done⟩ K ⟨c,a,g⟩ b;simp only at c a g;rw[show(Jf κ).P=Pr κ from rfl];refine Eq.mpr (xGo κ n (gi n m L done) (dw L) (bx n m L n) d (iH done) _ _ K) ?_;simp only[IK,Out.run] at b;have e:=D2 (n:=n) (m:=m) (L:=L) done;rw[ad,an9,ao1];refine⟨fun h=>?_,fun h=>?_⟩
 ·have f:=(zI (n:=n) (m:=m) (L:=L) (done:=done) h).1
  have i:=AP (n:=n) (m:=m) (L:=L) (done:=done) h;have j:=Kk n m L (gi n m L done);rw[ao3 (by omega),ao4] at e;rw[e] at b;refine⟨⟨n,m,L,gi n m L done,0⟩,rfl,⟨f,a⟩,rfl,⟨n,m,L,d,gQ n m L (gi n m L done),done,0⟩,rfl,⟨Nat.zero_le _,by simp only;omega⟩,?_⟩;rw[ai,an9];refine⟨by rw[H6];simp only;omega,⟨n,m,L,xx done (gQ n m L (gi n m L done)),0,[]⟩,rfl,⟨c,a⟩,_,i,⟨n,m,L,d++[gQ n m L (gi n m L done)],xx done (gQ n m L (gi n m L done))⟩,?_,⟨c,a,?_⟩,rfl,?_⟩
  ·rw[List.take_length]
   simp only[VA,QU,ap4];rfl
  ·simp only[ap4,List.length_singleton];omega
  ·simp only[IK,Out.run,List.append_assoc,List.singleton_append]
   exact b
 grind
abbrev XC(x:QQ):=sp 63 [(7, .ptr 0 0 [] 0),(10, .an 2 0 0),(11, .mp 3),(12, .int (-1))] (yA 0 x.ls++[.row 35 [], .map 3 4 x.es])
def Tw(_:QQ):Out (Exit×S):= .one (.exit 0,sp 63 [(10, .an 0 0 0)] [.row 35 []])
theorem lGz κ:aX (Jf κ) 12 18 11 (aG 0 XC (fun _=>True) Tw):=by
 refine aD (fun _=>0) ?_;rintro⟨b,c⟩ K _ a;exact Eq.mpr (xGz _ _ _ _ _ K) a
noncomputable def Zt κ:=(Jf κ).aq 18 11 (rC YO (aG 0 VA My IK) (aG 0 XC (fun _=>True) Tw))
theorem eGo κ:aE (Zt κ):=(eGi _).aq (mGi _) (n8 (lGo _) (lGz _))
theorem mGo κ:aj (Zt κ):=(mGi _).aq (lj aI aI)
theorem jZ{ds b}(h:(kt ds b).2=0):qW ds b:=by
 have a:=(qE.1 h).1;simp[fc] at a;refine⟨a.1.1.1,a.1.1.2,fun r c=>?_,ab0 h⟩
 grind [qR,ba,xJ,dv]
theorem wz{ds b}(d:lk ds b)(h:(kt ds b).2=0): ∀r,r∈b->zb ds.length ds r:=by
 intro r a;have c:=rD h a;refine⟨c.1,c.2,?_,d.2.2 r a⟩;have:=(jZ h).bs r a
 grind [aW]
def gw ds a:=bif decide ((kt ds a).2=0) then vt ds.length (pS ds a) (yo ds a) ds a else kt ds a
def uZ ds a:=qe ds.length (pS ds a) (yo ds a) []
theorem yGr κ ds rs K:(a9 (Zt κ) 12 18 [eg ds rs] [] K)=(
 letI a:=AV.ptr 0 0 []
 letI b:=AV.int
 letI c:=AV.agg
 letI d:=Obj.box
 letI e:=Obj.row
 letI f:=Obj.rows
 letI g:=Dn.Obj.map
 letI h:=AV.ah
 letI i:=AV.an
 letI j:=AV.mp
 letI l:=c [i 1 0 0,AV.nil]
 letI n:=Pg.toProgram (Env.P (Jf κ))
 ∃(e4:yt),letI o:=kt e4.1 e4.2;([c [h 43 ds,h 48 rs]],aL)=([c [h 43 e4.1,h 48 e4.2]],aL)/\(e4.1.length<=9223372036854775807/\e4.2.length<=9223372036854775807/\∀(e0:AV),List.Mem e0 e4.2->bk (aa (bo 38 (dk.hl (dg e0)) (dk.bl (dg e0))))<=100000/\List.length (dk.bl (dg e0))<=100000)/\ak (Prod.snd o != (0:Int)) (K (AV.aJ [AV.nil,b (Prod.fst o),b (Prod.snd o)]) []) (∃(e3:yt),letI p:=yo e3.1 e3.2;letI s:=bx e3.1.length (pS e3.1 e3.2) p e3.1.length;([c [h 43 ds,h 48 rs]],aL)=([c [h 43 e3.1,h 48 e3.2]],aL)/\qW e3.1 e3.2/\ak (Nat.beq e3.1.length 0) (∃(e2:W3),([a 0,c [h 43 ds,h 48 rs]],[d 145 (c [i 1 0 e3.1.length,AV.nil]),f 35 3 (dw p) none])=([a 0,c [h 43 e2.ds,h 48 []]],[d 145 l,f 35 3 e2.ls none])/\True/\∃(e1:QQ),([a 0,j 2],[d 145 l,f 35 3 e2.ls none,g 3 4 []])=([a 0,j 2],[d 145 l,f 35 3 e1.ls none,g 3 4 e1.es])/\True/\ae n 18 11=ae n 18 11/\∃(e0:QQ),sp 63 [(7,a 0),(10,i 2 0 0),(11,j 3),(12,b (-1))] [d 145 l,f 35 3 e1.ls none,e 35 [],g 3 4 e1.es]=sp 63 [(7,a 0),(10,i 2 0 0),(11,j 3),(12,b (-1))] [d 145 l,f 35 3 e0.ls none,e 35 [],g 3 4 e0.es]/\True/\K (AV.aJ [i 0 0 0,b 0,b 0]) [e 35 []]) (∃(e2:TN),letI q:=bx e2.n e2.m e2.L e2.n;letI t:=c [i 1 0 e2.n,i 2 0 (List.length q)];letI r:=vt e2.n e2.m e2.L e2.ds e2.rs;([a 0,c [h 43 ds,h 48 rs]],[d 145 (c [i 1 0 e3.1.length,i 2 0 (List.length s)]),f 35 3 (dw p) none,e 101 s])=([a 0,c [h 43 e2.ds,h 48 e2.rs]],[d 145 t,f 35 3 (dw e2.L) none,e 101 q])/\(e2.ds.length<=9223372036854775807/\e2.rs.length<=9223372036854775807/\∀(e0:AV),List.Mem e0 e2.rs->zb e2.n e2.ds e0)/\ak (Prod.snd r != (0:Int)) (K (AV.aJ [AV.nil,b (Prod.fst r),b (Prod.snd r)]) []) (∃(e1:IW),letI k:=bx e1.n e1.m e1.L e1.n;letI u:=c [i 1 0 e1.n,i 2 0 (List.length k)];([a 0,j 3],[d 145 t,f 35 3 (dw e2.L) none,e 101 q,g 3 4 []])=([a 0,j 3],[d 145 u,f 35 3 (dw e1.L) none,e 101 k,g 3 4 (iH e1.done)])/\(WG e1.n e1.m e1.L/\e1.n<=60)/\ae n 18 11=ae n 18 11/\∃(e0:AGo),letI m:=j2 (e0.gs++qe e0.n e0.m e0.L e0.done);sp 63 [(7,a 0),(10,i 3 0 0),(11,j 4),(12,b (gi e1.n e1.m e1.L e1.done))] [d 145 u,f 35 3 (dw e1.L) none,e 101 k,e 35 [],g 3 4 (iH e1.done)]=sp 63 [(7,a 0),(10,i 3 0 (List.length (j2 e0.gs))),(11,j 4),(12,b (gi e0.n e0.m e0.L e0.done))] [d 145 (c [i 1 0 e0.n,i 2 0 (List.length (bx e0.n e0.m e0.L e0.n))]),f 35 3 (dw e0.L) none,e 101 (bx e0.n e0.m e0.L e0.n),e 35 (j2 e0.gs),g 3 4 (iH e0.done)]/\(WG e0.n e0.m e0.L/\e0.n<=60/\e0.gs.length+Ew e0.n e0.done<=e0.n)/\K (AV.aJ [i 0 0 (List.length m),b 0,b 0]) [e 35 m])))):=by kernel_rfl
def Jx(x:yt):List AV×List Dn.Obj:=([eg x.1 x.2],[])
def tj(x:yt):Prop:=lk x.1 x.2
def S3(x:yt):Out (AV×List Dn.Obj):= .ak (decide ((gw x.1 x.2).2=0))
 (.one (.aJ [.an 0 0 (j2 (uZ x.1 x.2)).length, .int 0, .int 0],[.row 35 (j2 (uZ x.1 x.2))]))
 (.one (.aJ [.nil, .int (gw x.1 x.2).1, .int (gw x.1 x.2).2],[]))
theorem cGr κ:bg (Zt κ) 12 18 (aO Jx tj S3):=by
 refine aU ?_;rintro⟨ds,a⟩ K d b;refine Eq.mpr (yGr κ ds a K) ?_;have b:ak (decide ((gw ds a).2=0)) (K (.aJ [.an 0 0 (j2 (uZ ds a)).length, .int 0, .int 0]) [.row 35 (j2 (uZ ds a))]) (K (.aJ [.nil, .int (gw ds a).1, .int (gw ds a).2]) []):=b;rw[ad,an9,ao1] at b;have d:lk ds a:=d;refine⟨(ds,a),rfl,d,?_⟩;rw[ad];by_cases c:(kt ds a).2=0
 ·refine⟨fun e=>absurd c (by simpa using e),fun _=>⟨(ds,a),rfl,jZ c,?_⟩⟩
  have f:=jZ c;have i:=wz d c;rw[show gw ds a=vt ds.length (pS ds a) (yo ds a) ds a by unfold gw;rw[ao5 c];rfl] at b;rw[ad];refine⟨fun e=>?_,fun e=>?_⟩
  ·obtain rfl:ds=[]:=List.eq_nil_of_length_eq_zero (Nat.eq_of_beq_eq_true e)
   obtain rfl:a=[]:=by
    cases a with
    |nil=>rfl
    |cons r a=>have:=(i r (by simp)).hd;simp only[List.length_nil] at this;omega
   refine⟨⟨dw (yo [] []),[]⟩,rfl,trivial,⟨_,[]⟩,rfl,trivial,rfl,⟨_,_⟩,rfl,trivial,?_⟩;have g:=b.1 rfl;have j:uZ [] []=[]:=by
    unfold uZ;rw[D2];rfl
   rw[j] at g;exact g
  ·refine⟨⟨ds.length,pS ds a,yo ds a,ds,a,0⟩,rfl,⟨d.1,d.2.1,i⟩,?_⟩
   rw[ad];refine⟨fun h=>b.2 (by simpa using h),fun h=>?_⟩;have g:=b.1 (by simpa using h);exact⟨⟨ds.length,pS ds a,yo ds a,[],0,[]⟩,rfl,⟨f.wg,f.hd⟩,rfl,⟨ds.length,pS ds a,yo ds a,[],[]⟩,rfl,⟨f.wg,f.hd,by simp only[List.length_nil,Nat.zero_add];exact G3 _ _⟩,g⟩
 ·rw[show gw ds a=kt ds a by unfold gw;rw[ao3 c];rfl] at b
  exact⟨fun _=>b.2 c,fun e=>absurd (by simpa using e) c⟩
noncomputable def EGr κ:=(Zt κ).aw 18 (aO Jx tj S3)
theorem eGr κ:aE (EGr κ):=(eGo _).aw (mGo _) (cGr _)
theorem mGr κ:aj (EGr κ):=(mGo _).aw aH
noncomputable abbrev EHg(κ:Kp):Env:=EGr κ
theorem eHg(κ:Kp):aE (EHg κ):=eGr κ
theorem mHg(κ:Kp):aj (EHg κ):=mGr κ
end Go.Proofs.YtioeffnadipbaaaGreatDoor
namespace Go.Proofs.YtioeffnadipbaaaGreatDoor
open Go Go.Dn Go.Rl Go.Proofs
theorem An{ds e c}(h: ∀r,r∈e->r∈c)(i:qW ds e)(d:qW ds c):Sub (yo ds e) (yo ds c):=by
 intro a b f g;have j:=(z9  i.ed f).1 g;refine(z9  d.ed f).2 ?_
 grind [Ij]
theorem SC{ds b a}(h: ∀r,r∈b->r∈a)(d:b.length<=a.length)(c:(kt ds a).2=0):(kt ds b).2=0:=by
 grind [qE,fc]
theorem u5{n m L ds}: ∀{a},(vt n m L ds a).2=0↔ ∀r,r∈a->yp iv n m L ds r=false/\(uN r&&yp jH n m L ds r)=false
 |[]=>by simp[vt]
 | r::a=>by
  rw[vt];cases e:yp _ n m L ds r with
  |true=>
   grind
  | false=>
   rw[ao4];cases b:uN r&&yp _ n m L ds r with
   |true=>
    grind
   |false=>
    rw[ao4,u5]
    grind
theorem Q7{a}(i: ∀f,a f=true->dx f=true){n m e L M}(h:Sub L M)(k:WG n m L)(j:WG n e M){ds r}(d:zb n ds r)(c:yp a n m L ds r=true):yp a n e M ds r=true:=by
 unfold yp lp at c⊢;rw[List.any_eq_true] at c⊢;obtain⟨l,g,b⟩:=c;rw[ao0] at b;refine⟨l,g,?_⟩;rw[ao0];exact⟨b.1,h.Ui k j d.hd.1 (d.at_ l g (i _ b.1)).1 b.2⟩
theorem zF{ds b a}(h: ∀r,r∈b->r∈a)(e:b.length<=a.length)(c:lk ds a):lk ds b:=
 ⟨c.1,Nat.le_trans e c.2.1,fun r d=>c.2.2 r (h r d)⟩
theorem sC{ds a}:(gw ds a).2=0↔(kt ds a).2=0/\(vt ds.length (pS ds a) (yo ds a) ds a).2=0:=by
 grind [gw]
theorem Nf{ds d a}(h: ∀r,r∈d->r∈a)(m:d.length<=a.length)(n:lk ds a)(s:(gw ds a).2=0):(gw ds d).2=0:=by
 obtain⟨e,o⟩:=sC.1 s;have j:=SC h m e;have f:=jZ j;have g:=jZ e;have c:=An h f g;refine sC.2 ⟨j,u5.2 fun r i=>?_⟩;have u:=u5.1 o r (h r i);have q:=wz n e r (h r i);have p: ∀{b},(∀l,b l=true->dx l=true)->yp b ds.length _ (yo ds a) ds r=false->yp b ds.length (pS ds d) (yo ds d) ds r=false:=fun{b} t h=>by
  rw[Bool.eq_false_iff] at h⊢;exact fun k=>h (Q7 t c f.wg g.wg q k)
 simp_all[xd,uN,Dy]
theorem NY{ds c a}(h: ∀r,r∈c↔r∈a)(d:qW ds c)(b:qW ds a):uZ ds c=uZ ds a:=
 GX (An (by grind) d b) (An (by grind) b d) d.wg b.wg _
end Go.Proofs.YtioeffnadipbaaaGreatDoor
