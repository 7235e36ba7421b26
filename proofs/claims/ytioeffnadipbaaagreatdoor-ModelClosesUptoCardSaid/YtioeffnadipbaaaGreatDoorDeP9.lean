import Derived.Test.YtioeffnadipbaaaGreatDoorDeP8
namespace Go.Rl
open Go Go.Dn
section
variable {n m m':Nat} {L M:Gr}
theorem Er n:(iH n).Pairwise (· < ·):=by
 unfold iH;rw[List.pairwise_map];exact List.pairwise_lt_range.imp (by simp)
theorem xP a:(dY n m L a).Pairwise (· < ·):=(Er n).filter _
structure Vq(n m:Nat)(L:Gr)(done:List Int)(gs:List (List Int)):Prop where
 srt: ∀g,g∈gs->g.Pairwise (· < ·)
 ll: ∀c,c∈gs.flatten->(0<=c/\c<n)/\c∉done
 all: ∀c:Int,0<=c->c<n->c∉done->c∈gs.flatten
 tH:gs.flatten.Nodup
theorem MS{l:List Int}(h:l.Pairwise (· < ·)):l.Nodup:=h.imp (by omega)
theorem JB(t:WG n m L): ∀k done,Bl n done<=k->N0 n m L done->Vq n m L done (mm n m L done):=by
 intro k;induction k with
 | zero=>
  intro done h r;have hd: ∀c:Int,0<=c->c<n->c∈done:=fun c j l=>by
   have d:=h;simp only[Bl,Nat.le_zero,List.countP_eq_zero] at d;simpa using d c (jc.2 ⟨j,l⟩)
  have w:dL n m L done<0:=by
   rcases Int.lt_or_le (dL n m L done) 0 with e|e
   ·exact e
   ·have:=qM (n:=n) (m:=m) (L:=L) e;omega
  rw[pw,aD1 w,aD2];exact⟨fun g f=>(nomatch f),fun c i=>(nomatch i),fun c j l d=>absurd (hd c j l) d,List.nodup_nil⟩
 | succ k v=>
  intro done h r;rw[pw];rcases Int.lt_or_le (dL n m L done) 0 with e|e
  ·rw[aD1 e,aD2]
   refine⟨fun g f=>(nomatch f),fun c i=>(nomatch i),fun c j l d=>?_,List.nodup_nil⟩;have:=JJ t ⟨j,l⟩ d;omega
  ·rw[aC9 (by omega),aD0]
   have q:=qw (n:=n) (m:=m) (L:=L) e;have s:dL n m L done∉done:=by
    have d:=q.2;simp only[iG,aC6,Bool.not_eq_true',List.contains_eq_mem,aC7] at d;exact d.1
   have y:=qM (n:=n) (m:=m) (L:=L) e;have p:=v _ (by omega) (FE t r e);refine⟨fun g f=>?_,fun c i=>?_,fun c j l d=>?_,?_⟩
   ·rcases List.mem_cons.1 f with rfl|f
    ·exact xP _
    ·exact p.srt g f
   ·rw[List.flatten_cons,List.mem_append] at i
    rcases i with i|i
    ·have o:=wH.1 i
     refine⟨o.1,fun hd=>s ?_⟩;exact r c _ o.1.1 q.1.1 q.1.2 hd (by rw[yo];exact o.2)
    ·have:=p.ll c i
     rw[ku,not_or] at this;exact⟨this.1,this.2.1⟩
   ·rw[List.flatten_cons,List.mem_append]
    by_cases f:c∈dY n m L (dL n m L done)
    ·exact .inl f
    ·exact .inr (p.all c j l (by rw[ku,not_or];exact⟨d,f⟩))
   ·rw[List.flatten_cons,List.nodup_append]
    refine⟨MS (xP _),p.tH,fun a x b u=>?_⟩;rintro rfl;exact(p.ll a u).2 (by rw[ku];exact .inr x)
def Fi:List (List Int)->Int->Int->Int
 |[],_,_=> -1
 |g::b,a,i=>bif g.contains a then i else Fi b a (i+1)
theorem HR a: ∀b i,a∈b.flatten->i<=Fi b a i
 |[],_,h=>nomatch h
 | g::b,i,h=>by
  rw[Fi];cases e:g.contains a with
  |true=>simp
  |false=>
   rw[aD0];have:=HR a b (i+1) (by grind)
   omega
theorem al7(r:WG n m L): ∀k done,Bl n done<=k->N0 n m L done->∀(a b i:Int),0<=a/\a<n->0<=b/\b<n->a∉done->b∉done->
  (iz n m L a b=true↔Fi (mm n m L done) a i=Fi (mm n m L done) b i)/\(Rc L a b->Fi (mm n m L done) b i<=Fi (mm n m L done) a i):=by
 intro k;induction k with
 |zero=>
  intro done h C a b i g o l q
  exfalso
  simp only[Bl,Nat.le_zero,List.countP_eq_zero] at h;exact l (by simpa using h a (jc.2 g))
 | succ k I=>
  intro done h C a b i g o l q;have e:=JJ r g l;rw[pw,aC9 (by omega),aD0];have t:=qw (n:=n) (m:=m) (L:=L) e;have K:=qM (n:=n) (m:=m) (L:=L) e;have u:=FE r C e;have J:=I _ (by omega) u;have H:=JB r _ _ (Nat.le_refl _) u;have f: ∀c:Int,(0<=c/\c<n)->(c∈dY n m L (dL n m L done)↔iz n m L (dL n m L done) c=true):=fun c s=>by rw[wH];exact and_iff_right s
  have j: ∀c:Int,(0<=c/\c<n)->c∉done->c∉dY n m L (dL n m L done)->c∉sa done (dY n m L (dL n m L done)):=fun c s p d=>by rw[ku,not_or];exact⟨p,d⟩
  have v: ∀c:Int,(0<=c/\c<n)->c∉done->c∉dY n m L (dL n m L done)->i+1<=Fi (mm n m L (sa done (dY n m L (dL n m L done)))) c (i+1):=fun c s p d=>HR c _ _ (H.all c s.1 s.2 (j c s p d))
  rw[Fi,Fi];by_cases p:a∈dY n m L (dL n m L done)
  ·have x:=(f a g).1 p
   rw[show(dY n m L (dL n m L done)).contains a=true by simpa using p,aD2];by_cases d:b∈dY n m L (dL n m L done)
   ·have z:=(f b o).1 d
    rw[show(dY n m L (dL n m L done)).contains b=true by simpa using d,aD2];refine⟨⟨fun _=>rfl,fun _=>?_⟩,fun _=>Int.le_refl _⟩;exact qv r g.1 t.1.1 o.1 (by rw[yo];exact x) z
   ·rw[show(dY n m L (dL n m L done)).contains b=false by simpa using d,aD0]
    have F:=v b o q d;refine⟨⟨fun w=>absurd ((f b o).2 (qv r t.1.1 g.1 o.1 x w)) d,fun w=>by omega⟩,fun E=>?_⟩
    exfalso
    have D:=t.2;simp only[iG,aC6,List.all_eq_true] at D;have A:Rc L (dL n m L done) b:=by
     rcases(sU r t.1.1 g.1).1 x with y|⟨y,_⟩
     ·rw[y];exact E
     ·exact y.trans E
    have:=D.2 b ((nU r t.1.1).2 A)
    rw[aD9] at this;rcases this with B|B
    ·exact q (by simpa using B)
    ·exact d ((f b o).2 B)
  ·rw[show(dY n m L (dL n m L done)).contains a=false by simpa using p,aD0]
   have F:=v a g l p;by_cases d:b∈dY n m L (dL n m L done)
   ·have z:=(f b o).1 d
    rw[show(dY n m L (dL n m L done)).contains b=true by simpa using d,aD2];refine⟨⟨fun w=>absurd ((f a g).2 (qv r t.1.1 o.1 g.1 z (by rw[yo];exact w))) p,fun w=>by omega⟩,fun _=>by omega⟩
   ·rw[show(dY n m L (dL n m L done)).contains b=false by simpa using d,aD0]
    exact J a b (i+1) g o (j a g l p) (j b o q d)
theorem FF:N0 n m L []:=fun _ _ _ _ _ h=>nomatch h
end
end Go.Rl
namespace Go.Proofs.YtioeffnadipbaaaGreatDoor
open Go Go.Dn Go.Rl Go.Proofs
attribute [local irreducible] a8 vc
set_option maxRecDepth 20000
theorem yMu κ N ls fs a b K:(a8 (EOf κ) 12 91 [.ptr 0 0 [] 0, .int a, .int b] (v8 N ls fs) K)=(
 letI c:=.agg [.ak 1 0 N,.ak 2 0 fs.length]
 letI d:=AV.bool false
 aq (a==b) (K (AV.bool true) [.box 145 c,.rows 35 3 ls none,.row 101 fs]) (aW (decide (0<=a)&&decide (a<↑(fs.length))) (aq
 (Dn.toBool (dj (List.zip (DD (nth fs (0+a.toNat))) (zo (nth fs (0+a.toNat)))) (.int .i64 b) d)) (aW (decide (0<=b)&&decide (b<
 ↑(fs.length))) (K (AV.bool (Dn.toBool (dj (List.zip (DD (nth fs (0+b.toNat))) (zo (nth fs (0+b.toNat)))) (.int .i64 a) d))) [.box
 145 c,.rows 35 3 ls none,.row 101 fs])) (K d [.box 145 c,.rows 35 3 ls none,.row 101 fs])))):=by kernel_rfl
theorem K4: ∀l,(l.map iF).zip (l.map fun _=>AV.lit (.bool true))=jl l
 |[]=>rfl
 |a::l=>by
  grind [jl]
theorem ES n m L(k:Nat)(a:Int)(b:0<=a)(h:a<k):nth (bB n m L k) (0+a.toNat)=ZD (iV n m L a):=by
 rw[Nat.zero_add,aV _ _ (by grind [lC])];simp only[bB,List.getElem_map,List.getElem_range];rfl
theorem Jf n m L(k:Nat)(a b:Int)(c:0<=a)(h:a<k):Dn.toBool (dj (List.zip (DD (nth (bB n m L k) (0+a.toNat))) (zo (nth (bB n m L k) (0+a.toNat)))) (Value.int IntKind.i64 b) (AV.lit (Value.bool false)))=(iV n m L a).contains b:=by
 rw[ES n m L k a c h];simp only[DD,zo];rw[K4,nr];rfl
structure WI where
 n:Nat
 m:Nat
 L:Gr
 a:Int
 b:Int
abbrev rz n m L:=v8 n (dM L) (bB n m L n)
def ap4(x:WI):List AV×List Dn.Obj:=([.ptr 0 0 [] 0, .int x.a, .int x.b],rz x.n x.m x.L)
def QR(x:WI):=(0<=x.a/\x.a<x.n)/\0<=x.b/\x.b<x.n
def P8(x:WI):Out (AV×List Dn.Obj):= .one (.bool (iz x.n x.m x.L x.a x.b),rz x.n x.m x.L)
theorem cMu κ:bd (EOf κ) 12 91 (aM ap4 QR P8):=by
 refine aQ ?_;rintro⟨n,m,L,a,b⟩ K ⟨⟨g,d⟩,f,c⟩ e;refine Eq.mpr (yMu κ n (dM L) (bB n m L n) a b K) ?_;simp only[P8,Out.run,iz,rz,v8,lC] at e;rw[Jf n m L n a b g d,Jf n m L n b a f c,lC];simp only[ai,ae,aC6,at3,beq_iff_eq]
 grind
noncomputable def SP κ:=(EOf κ).ax 91 (aM ap4 QR P8)
theorem eMu κ:aE (SP κ):=(eOf _).ax (mOf _) (cMu _)
theorem mMu κ:aj (SP κ):=(mOf _).ax aJ
theorem xGp κ(N i:Nat) ls fs ws a I n K:(vc (SP κ) 12 45 none 3 (ad (Pr κ).toProgram 45 3) (sp 25 [(0, .ptr 0 0 [] 0),(1, .int a),(5, .ak 3 0 ws.length),(11, .int N),(12, .int i)] (v8 N ls fs++[.row 3 ws])) (bg (SP κ) 45 3 3 I n K))=(
 letI b:=AV.ptr 0 0 []
 letI c:=AV.int
 letI d:=Obj.box
 letI e:=Obj.row
 letI f:=Obj.rows
 letI g:=AV.ak
 letI k:=IntKind.wrap IntKind.i64 ((↑i:Int)+(1:Int))
 letI l:=AV.agg [g 1 0 N,g 2 0 fs.length]
 aq (decide ((↑i:Int)<(↑N:Int))) (∃(e1:WI),letI h:=bB e1.n e1.m e1.L e1.n;letI j:=AV.agg [g 1 0 e1.n,g 2 0 (List.length h)];([b 0,c a,c (↑i:Int)],[d 145 l,f 35 3 ls none,e 101 fs])=([b 0,c e1.a,c e1.b],[d 145 j,f 35 3 (dM e1.L) none,e 101 h])/\(((0:Int)<=e1.a/\e1.a<(↑(e1.n):Int))/\(0:Int)<=e1.b/\e1.b<(↑(e1.n):Int))/\aq (iz e1.n e1.m e1.L e1.a e1.b) (aW (decide ((ws.length+1+1)*9<=70368744177664)) (∃(e0:Nat),e0<n/\I e0 (sp 25 [(0,b 0),(1,c a),(5,g 3 0 (ws.length+1)),(11,c (↑N:Int)),(12,c k)] [d 145 j,f 35 3 (dM e1.L) none,e 101 h,e 3 (List.take ws.length ws++[c (↑i:Int)])]))) (∃(e0:Nat),e0<n/\I e0 (sp 25 [(0,b 0),(1,c a),(5,g 3 0 ws.length),(11,c (↑N:Int)),(12,c k)] [d 145 j,f 35 3 (dM e1.L) none,e 101 h,e 3 ws]))) (K (Exit.exit 0) (sp 25 [(5,g 3 0 ws.length)] [d 145 l,f 35 3 ls none,e 101 fs,e 3 ws]))):=by kernel_rfl
def xO n m L a i:=(iH i).filter (iz n m L a)
theorem LK n m L a i:xO n m L a (i+1)=bif iz n m L a i then xO n m L a i++[(i:Int)] else xO n m L a i:=by
 grind [xO,iH,List.range_succ]
theorem En n m L a i:(xO n m L a i).length<=i:=by
 grind [iH,xO]
structure Ve where
 n:Nat
 m:Nat
 L:Gr
 a:Int
 i:Nat
abbrev UF(x:Ve):=sp 25 [(0, .ptr 0 0 [] 0),(1, .int x.a),(5, .ak 3 0 (iA (xO x.n x.m x.L x.a x.i)).length),(11, .int x.n),(12, .int x.i)] (rz x.n x.m x.L++[.row 3 (iA (xO x.n x.m x.L x.a x.i))])
def QI(x:Ve):=(0<=x.a/\x.a<x.n)/\x.i<=x.n/\x.n<=60
def VP(x:Ve):Out (Exit×S):= .one (.exit 0,sp 25 [(5, .ak 3 0 (iA (dY x.n x.m x.L x.a)).length)] (rz x.n x.m x.L++[.row 3 (iA (dY x.n x.m x.L x.a))]))
theorem lGp κ:aU (SP κ) 12 45 3 (aG 3 UF QI VP):=by
 refine aC (fun x=>x.n - x.i) ?_;rintro⟨n,m,L,a,i⟩ K ⟨c,g,f⟩ d;simp only at c g f;rw[show(SP κ).P=Pr κ from rfl];refine Eq.mpr (xGp κ n i (dM L) (bB n m L n) (iA (xO n m L a i)) a _ _ K) ?_;have j:=En n m L a i;rw[ae,at3,aC7];refine⟨fun h=>⟨⟨n,m,L,a,i⟩,rfl,⟨c,by simp only;omega,h⟩,?_⟩,fun h=>?_⟩
 ·rw[az (n:=(i:Int)+1) (by omega) (by omega),ae,ai,at3,List.take_length]
  have b:=LK n m L a i;refine⟨fun e=>⟨by rw[jG];omega,_,?_,⟨n,m,L,a,i+1⟩,?_,⟨c,by simp only;omega,f⟩,rfl,d⟩,fun e=>⟨_,?_,⟨n,m,L,a,i+1⟩,?_,⟨c,by simp only;omega,f⟩,rfl,d⟩⟩
  ·simp only;omega
  ·simp only at e
   rw[e,aD2] at b;simp only[UF,b,xV,aE1];rfl
  ·simp only;omega
  ·simp only at e
   rw[e,aD0] at b;simp only[UF,b];rfl
 ·obtain rfl:n=i:=by omega
  exact d
noncomputable def EGp κ:=(SP κ).an 45 3 (aG 3 UF QI VP)
theorem eGp κ:aE (EGp κ):=(eMu _).an (mMu _) (lGp _)
theorem mGp κ:aj (EGp κ):=(mMu _).an aK
theorem yGp κ N ls fs a K:(a8 (EGp κ) 12 45 [.ptr 0 0 [] 0, .int a] (v8 N ls fs) K)=(
 letI b:=AV.int
 letI c:=Obj.row
 letI d:=AV.ak
 letI f:=Pg.toProgram (Env.P (SP κ))
 ad f 45 3=ad f 45 3/\∃(e0:Ve),letI e:=bB e0.n e0.m e0.L e0.n;letI g:=AV.agg [d 1 0 e0.n,d 2 0 (List.length e)];letI h:=iA (xO e0.n e0.m e0.L e0.a e0.i);letI i:=iA (dY e0.n e0.m e0.L e0.a);sp 25 [(0,AV.ptr 0 0 [] 0),(1,b a),(5,d 3 0 0),(11,b (↑N:Int)),(12,b 0)] [Obj.box 145 (AV.agg [d 1 0 N,d 2 0 fs.length]),Obj.rows 35 3 ls none,c 101 fs,c 3 []]=sp 25 [(0,AV.ptr 0 0 [] 0),(1,b e0.a),(5,d 3 0 (List.length h)),(11,b (↑(e0.n):Int)),(12,b (↑(e0.i):Int))] [Obj.box 145 g,Obj.rows 35 3 (dM e0.L) none,c 101 e,c 3 h]/\(((0:Int)<=e0.a/\e0.a<(↑(e0.n):Int))/\e0.i<=e0.n/\e0.n<=60)/\K (AV.ah 3 (List.take (List.length i) (List.drop 0 i))) [Obj.box 145 g,Obj.rows 35 3 (dM e0.L) none,c 101 e]):=by kernel_rfl
def ao6(x:Ve):List AV×List Dn.Obj:=([.ptr 0 0 [] 0, .int x.a],rz x.n x.m x.L)
def QJ(x:Ve):=(0<=x.a/\x.a<x.n)/\x.n<=60
def VQ(x:Ve):Out (AV×List Dn.Obj):= .one (.ah 3 (iA (dY x.n x.m x.L x.a)),rz x.n x.m x.L)
theorem cGq κ:bd (EGp κ) 12 45 (aM ao6 QJ VQ):=by
 refine aQ ?_;rintro⟨n,m,L,a,i⟩ K ⟨c,d⟩ b;refine Eq.mpr (yGp _ n _ _ a K) ?_;refine⟨rfl,⟨n,m,L,a,0⟩,rfl,by grind,?_⟩;rw[aD5,List.take_length];exact b
noncomputable def SK κ:=(EGp κ).ax 45 (aM ao6 QJ VQ)
theorem eGq κ:aE (SK κ):=(eGp _).ax (mGp _) (cGq _)
theorem mGq κ:aj (SK κ):=(mGp _).ax aJ
theorem xNi κ(N:Nat) a ls fs es ks met vs I n K:(vc (SK κ) 12 44 none 4 (ad (Pr κ).toProgram 44 6) (sp 43 [(0, .ptr 0 0 [] 0),(1, .mp 3),(5, .int a),(11, .int N),(12, .int a),(25, .ptr 4 0 [] 0)] (v8 N ls fs++[.map 3 4 es, .fit 3 4 ks vs met])) (bg (SK κ) 44 6 4 I n K))=(
 letI b:=AV.ptr 0 0 []
 letI c:=AV.int
 letI d:=Obj.box
 letI e:=Obj.row
 letI f:=Obj.rows
 letI g:=Dn.Obj.map
 letI i:=AV.agg [AV.ak 1 0 N,AV.ak 2 0 fs.length]
 (∀(e3:Int) (e2:AV),List.Mem (Value.int IntKind.i64 e3,e2) (List.zip ks vs)->k8 met (Value.int IntKind.i64 e3)=false->aq (!Dn.toBool (dj es (Value.int IntKind.i64 e3) (AV.bool false))) (∃(e1:WI),letI h:=bB e1.n e1.m e1.L e1.n;letI j:=AV.agg [AV.ak 1 0 e1.n,AV.ak 2 0 (List.length h)];([b 0,c a,c e3],[d 145 i,f 35 3 ls none,e 101 fs])=([b 0,c e1.a,c e1.b],[d 145 j,f 35 3 (dM e1.L) none,e 101 h])/\(((0:Int)<=e1.a/\e1.a<(↑(e1.n):Int))/\(0:Int)<=e1.b/\e1.b<(↑(e1.n):Int))/\aq (!iz e1.n e1.m e1.L e1.a e1.b) (K (Exit.exit 1) (sp 43 [(0,b 0),(1,AV.mp 3),(11,c (↑N:Int)),(12,c a)] [d 145 j,f 35 3 (dM e1.L) none,e 101 h,g 3 4 es])) (∃(e0:Nat),e0<n/\I e0 (sp 43 [(0,b 0),(1,AV.mp 3),(5,c a),(11,c (↑N:Int)),(12,c a),(25,AV.ptr 4 0 [] 0)] [d 145 j,f 35 3 (dM e1.L) none,e 101 h,g 3 4 es,Obj.fit 3 4 ks vs (Value.int IntKind.i64 e3::met)]))) (∃(e0:Nat),e0<n/\I e0 (sp 43 [(0,b 0),(1,AV.mp 3),(5,c a),(11,c (↑N:Int)),(12,c a),(25,AV.ptr 4 0 [] 0)] [d 145 i,f 35 3 ls none,e 101 fs,g 3 4 es,Obj.fit 3 4 ks vs (Value.int IntKind.i64 e3::met)])))/\(kQ met (List.zip ks vs)=true->K (Exit.exit 2) (sp 43 [(5,c a)] [d 145 i,f 35 3 ls none,e 101 fs,g 3 4 es]))):=by kernel_rfl
theorem LO n i(h:i<n):(iH n).drop i=(i:Int)::(iH n).drop (i+1):=by
 grind [List.drop_eq_getElem_cons,iH]
def CB n m L done i:=(((iH n).drop i).find? (iG n m L done)).getD (-1)
theorem Me{n} m L done{i}(h:i<n):CB n m L done i=bif iG n m L done i then(i:Int) else CB n m L done (i+1):=by
 grind [CB,LO]
theorem PA n m L done:CB n m L done n= -1:=by
 grind [CB,List.drop_eq_nil_of_le,iH]
structure IQ where
 n:Nat
 m:Nat
 L:Gr
 done:List Int
 i:Nat
 met:List Value
def yv(x:IQ):=(iV x.n x.m x.L x.i).all fun b=>x.done.contains b||iz x.n x.m x.L x.i b
abbrev UO(x:IQ):S:=sp 43 [(0, .ptr 0 0 [] 0),(1, .mp 3),(5, .int x.i),(11, .int x.n),(12, .int x.i),(25, .ptr 4 0 [] 0)] (rz x.n x.m x.L++[.map 3 4 (jl x.done), .fit 3 4 ((iV x.n x.m x.L x.i).map iF) ((iV x.n x.m x.L x.i).map fun _=> .lit (.bool true)) x.met])
def Im(x:IQ):=WG x.n x.m x.L/\x.i<x.n/\∀b,k8 x.met (iF b)=true->b∈iV x.n x.m x.L x.i->(x.done.contains b||iz x.n x.m x.L x.i b)=true
def J2(x:IQ):Out (Exit×S):= .aq (yv x)
 (.one (.exit 2,sp 43 [(5, .int x.i)] (rz x.n x.m x.L++[.map 3 4 (jl x.done)])))
 (.one (.exit 1,sp 43 [(0, .ptr 0 0 [] 0),(1, .mp 3),(11, .int x.n),(12, .int x.i)] (rz x.n x.m x.L++[.map 3 4 (jl x.done)])))
theorem xU c b a:k8 (iF c::a) (iF b)=(decide (c=b)||k8 a (iF b)):=rfl
theorem Fy: ∀{l c},kQ c (jl l)=true->∀b,b∈l->k8 c (iF b)=true
 |[],_,_,b,d=>nomatch d
 |a::l,c,h,b,d=>by
  simp[jl,kQ] at h;rcases List.mem_cons.1 d with rfl|d
  ·grind
  ·exact Fy  h.2 b d
theorem TT{x v l}(h:(iF x,v)∈jl l):x∈l:=by
 obtain⟨k,b,a⟩:=List.mem_map.1 h
 grind
theorem lNi κ:aU (SK κ) 12 44 6 (aG 4 UO Im J2):=by
 refine aC (fun x=>(iV x.n x.m x.L x.i).countP fun b=>!k8 x.met (iF b)) ?_;rintro⟨n,m,L,done,i,a⟩ K ⟨o,w,q⟩ z;simp only at o w q;rw[show(SK κ).P=Pr κ from rfl];refine Eq.mpr (xNi κ n i (dM L) (bB n m L n) (jl done) ((iV n m L i).map iF) a ((iV n m L i).map fun _=> .lit (.bool true)) _ _ K) ?_;have g:(0:Int)<=i:=by omega
 have f:=z;simp only[J2,Out.run,ae] at f;rw[K4];refine⟨fun b v p l=>?_,fun C=>?_⟩
 ·have r:b∈iV n m L i:=TT p
  have B:=Rc.ll o g ((nU o g).1 r);have y:(done.contains b||iz n m L i b)=true->∃k,k<(iV n m L i).countP (fun b=>!k8 a (iF b))/\eW UO Im J2 (fun x=>(iV x.n x.m x.L x.i).countP fun b=>!k8 x.met (iF b)) K k (UO ⟨n,m,L,done,i,iF b::a⟩):=fun s=>by
   refine⟨_,?_,⟨n,m,L,done,i,iF b::a⟩,rfl,⟨o,w,fun c d t=>?_⟩,rfl,z⟩
   ·refine nh (fun c _ d=>?_) ⟨b,r,?_,?_⟩
    ·rw[xU] at d
     cases h:k8 a (iF c) with
     |true=>rw[h] at d;simp at d
     |false=>rfl
    ·simp only[iF] at l⊢;rw[l];rfl
    ·rw[xU];simp
   ·rw[xU] at d
    by_cases e:b=c
    ·subst e;exact s
    ·rw[aC9 e,Bool.false_or] at d
     exact q c d t
  have A:Dn.toBool (dj (jl done) (Value.int IntKind.i64 b) (AV.lit (Value.bool false)))=done.contains b:=by rw[nr];rfl
  rw[A];simp only[ae];refine⟨fun e=>⟨⟨n,m,L,i,b⟩,rfl,⟨⟨g,by simp only;omega⟩,B⟩,fun j=>?_,fun j=>?_⟩,fun e=>?_⟩
  ·have u:yv ⟨n,m,L,done,i,a⟩=false:=by
    rw[←Bool.not_eq_true,yv,List.all_eq_true];intro h;have:=h b r
    simp only at this j e;rw[aD9] at this;rcases this with h|h
    ·rw[h] at e;cases e
    ·rw[h] at j;cases j
   exact f.2 u
  ·exact y (by simp only at j⊢;rw[aD9];right;simpa using j)
  ·exact y (by rw[aD9];left;simpa using e)
 ·have u:yv ⟨n,m,L,done,i,a⟩=true:=by
   rw[yv,List.all_eq_true];exact fun b l=>q b (Fy C b l) l
  exact f.1 u
noncomputable def IU κ:=(SK κ).an 44 6 (aG 4 UO Im J2)
theorem eNi κ:aE (IU κ):=(eGq _).an (mGq _) (lNi _)
theorem mNi κ:aj (IU κ):=(mGq _).an aK
theorem xNx κ(N i:Nat) ls fs es I n K:(vc (IU κ) 12 44 none 4 (ad (Pr κ).toProgram 44 2) (sp 43 [(0, .ptr 0 0 [] 0),(1, .mp 3),(11, .int N),(12, .int i)] (v8 N ls fs++[.map 3 4 es])) (bg (IU κ) 44 2 4 I n K))=(
 letI a:=IntKind.wrap IntKind.i64
 letI b:=AV.ptr 0 0 []
 letI c:=AV.int
 letI d:=Obj.box
 letI e:=Obj.row
 letI f:=Obj.rows
 letI g:=Dn.Obj.map
 letI h:=AV.agg [AV.ak 1 0 N,AV.ak 2 0 fs.length]
 letI k:=Pg.toProgram (Env.P (SK κ))
 aq (decide ((↑i:Int)<(↑N:Int))) (aq (Dn.toBool (dj es (Value.int IntKind.i64 (↑i:Int)) (AV.bool false))) (∃(e0:Nat),e0<n/\I e0 (sp 43 [(0,b 0),(1,AV.mp 3),(11,c (↑N:Int)),(12,c (a ((↑i:Int)+(1:Int))))] [d 145 h,f 35 3 ls none,e 101 fs,g 3 4 es])) (aW (true&&decide ((↑i:Int)<(↑(fs.length):Int))) (ad k 44 6=ad k 44 6/\∃(e1:IQ),letI j:=bB e1.n e1.m e1.L e1.n;letI l:=AV.agg [AV.ak 1 0 e1.n,AV.ak 2 0 (List.length j)];letI m:=[d 145 l,f 35 3 (dM e1.L) none,e 101 j,g 3 4 (jl e1.done)];sp 43 [(0,b 0),(1,AV.mp 3),(5,c (↑i:Int)),(11,c (↑N:Int)),(12,c (↑i:Int)),(25,AV.ptr 4 0 [] 0)] [d 145 h,f 35 3 ls none,e 101 fs,g 3 4 es,Obj.fit 3 4 (DD (nth fs (0+Int.toNat (↑i:Int)))) (zo (nth fs (0+Int.toNat (↑i:Int)))) []]=sp 43 [(0,b 0),(1,AV.mp 3),(5,c (↑(e1.i):Int)),(11,c (↑(e1.n):Int)),(12,c (↑(e1.i):Int)),(25,AV.ptr 4 0 [] 0)] [d 145 l,f 35 3 (dM e1.L) none,e 101 j,g 3 4 (jl e1.done),Obj.fit 3 4 (List.map iF (iV e1.n e1.m e1.L (↑(e1.i):Int))) (List.map (fun(e0:Int)=>AV.bool true) (iV e1.n e1.m e1.L (↑(e1.i):Int))) e1.met]/\(WG e1.n e1.m e1.L/\e1.i<e1.n/\∀(e0:Int),k8 e1.met (Value.int IntKind.i64 e0)=true->List.Mem e0 (iV e1.n e1.m e1.L (↑(e1.i):Int))->(List.contains e1.done e0||iz e1.n e1.m e1.L (↑(e1.i):Int) e0)=true)/\aq (yv e1) (K Exit.ret (sp 43 [(4,c (↑(e1.i):Int))] m)) (∃(e0:Nat),e0<n/\I e0 (sp 43 [(0,b 0),(1,AV.mp 3),(11,c (↑(e1.n):Int)),(12,c (a ((↑(e1.i):Int)+(1:Int))))] m))))) (K (Exit.exit 0) (sp 43 [] [d 145 h,f 35 3 ls none,e 101 fs,g 3 4 es]))):=by kernel_rfl
abbrev UP(x:IQ):=sp 43 [(0, .ptr 0 0 [] 0),(1, .mp 3),(11, .int x.n),(12, .int x.i)] (rz x.n x.m x.L++[.map 3 4 (jl x.done)])
def Io(x:IQ):=WG x.n x.m x.L/\x.i<=x.n/\x.n<=60
def Fa(x:IQ):Out (Exit×S):= .aq (decide (CB x.n x.m x.L x.done x.i<0))
 (.one (.exit 0,sp 43 [] (rz x.n x.m x.L++[.map 3 4 (jl x.done)])))
 (.one (.ret,sp 43 [(4, .int (CB x.n x.m x.L x.done x.i))] (rz x.n x.m x.L++[.map 3 4 (jl x.done)])))
theorem BX n m L done(i:Nat) a:iG n m L done i=(!done.contains i&&yv ⟨n,m,L,done,i,a⟩):=rfl
theorem lNx κ:aU (IU κ) 12 44 2 (aG 4 UP Io Fa):=by
 refine aC (fun x=>x.n - x.i) ?_;rintro⟨n,m,L,done,i,p⟩ K ⟨g,q,o⟩ l;simp only at g q o;rw[show(IU κ).P=Pr κ from rfl];refine Eq.mpr (xNx κ n i (dM L) (bB n m L n) (jl done) _ _ K) ?_;have a:=l;simp only[Fa,Out.run,ae] at a;have s:Dn.toBool (dj (jl done) (Value.int IntKind.i64 i) (AV.lit (Value.bool false)))=done.contains (i:Int):=by rw[nr];rfl
 rw[s,ae,at3,aC7];refine⟨fun h=>?_,fun h=>?_⟩
 ·have d:i<n:=by omega
  have f:=Me m L done d;have c:iG n m L done i=false->∃k,k<n - i/\eW UP Io Fa (fun x=>x.n - x.i) K k (UP ⟨n,m,L,done,i+1,[]⟩):=fun e=>by
   rw[e,aD0] at f;refine⟨_,?_,⟨n,m,L,done,i+1,[]⟩,rfl,⟨g,d,o⟩,rfl,?_⟩
   ·simp only;omega
   ·simp only[Fa,Out.run,←f];exact l
  rw[ae];refine⟨fun e=>?_,fun e=>?_⟩
  ·rw[az (n:=(i:Int)+1) (by omega) (by omega)]
   exact c (by rw[BX n m L done i [],e];rfl)
  ·rw[ai,aE2,at3,lC,ES n m L n i (by omega) h]
   refine⟨h,rfl,⟨n,m,L,done,i,[]⟩,?_,⟨g,d,fun b r=>(nomatch r)⟩,?_⟩
   ·simp only[lC]
    rfl
   ·rw[ae]
    refine⟨fun j=>?_,fun j=>?_⟩
    ·have t:iG n m L done i=true:=by rw[BX n m L done i [],e,j];rfl
     rw[t,aD2] at f;have:=a.2 (by rw[f,aC7];omega)
     rw[f] at this;exact this
    ·rw[az (n:=(i:Int)+1) (by omega) (by omega)]
     exact c (by rw[BX n m L done i [],j,Bool.and_false])
 ·obtain rfl:i=n:=by omega
  rw[PA] at a;exact a.1 rfl
theorem xNz κ ls es I n K:(vc (IU κ) 12 44 none 3 (ad (Pr κ).toProgram 44 2) (sp 43 [(0, .ptr 0 0 [] 0),(1, .mp 2),(11, .int 0),(12, .int 0)] (zF 0 ls++[.map 3 4 es])) (bg (IU κ) 44 2 3 I n K))=(
 K (.exit 0) (sp 43 [] [.box 145 (.agg [.ak 1 0 0,AV.nil]),.rows 35 3 ls none,.map 3 4 es])):=by kernel_rfl
structure Se where
 ls:List (List Value)
 es:List (Value×AV)
abbrev ap7(x:Se):=sp 43 [(0, .ptr 0 0 [] 0),(1, .mp 2),(11, .int 0),(12, .int 0)] (zF 0 x.ls++[.map 3 4 x.es])
def V1(x:Se):Out (Exit×S):= .one (.exit 0,sp 43 [] (zF 0 x.ls++[.map 3 4 x.es]))
theorem lNz κ:aU (IU κ) 12 44 2 (aG 3 ap7 (fun _=>True) V1):=by
 refine aC (fun _=>0) ?_;rintro⟨b,c⟩ K _ a;exact Eq.mpr (xNz _ _ _ _ _ K) a
def am0(s:S):Bool:=Nat.beq s.st.length 4
noncomputable def Xt κ:=(IU κ).an 44 2 (tj am0 (aG 4 UP Io Fa) (aG 3 ap7 (fun _=>True) V1))
theorem eNx κ:aE (Xt κ):=(eNi _).an (mNi _) (pR (lNx _) (lNz _))
theorem mNx κ:aj (Xt κ):=(mNi _).an (lT aK aK)
theorem yNx κ N ls fs es K:(a8 (Xt κ) 12 44 [.ptr 0 0 [] 0, .mp 3] (v8 N ls fs++[.map 3 4 es]) K)=(
 letI b:=AV.int
 ad (Pg.toProgram (Env.P (IU κ))) 44 2=ad (Pg.toProgram (Env.P (IU κ))) 44 2/\∃(a:IQ),letI c:=[Obj.box 145 (AV.agg [AV.ak 1 0 a.n,AV.ak 2 0 (List.length (bB a.n a.m a.L a.n))]),Obj.rows 35 3 (dM a.L) none,Obj.row 101 (bB a.n a.m a.L a.n),Dn.Obj.map 3 4 (jl a.done)];sp 43 [(0,AV.ptr 0 0 [] 0),(1,AV.mp 3),(11,b (↑N:Int)),(12,b 0)] [Obj.box 145 (AV.agg [AV.ak 1 0 N,AV.ak 2 0 fs.length]),Obj.rows 35 3 ls none,Obj.row 101 fs,Dn.Obj.map 3 4 es]=sp 43 [(0,AV.ptr 0 0 [] 0),(1,AV.mp 3),(11,b (↑(a.n):Int)),(12,b (↑(a.i):Int))] c/\(WG a.n a.m a.L/\a.i<=a.n/\a.n<=60)/\aq (decide (CB a.n a.m a.L a.done a.i<(0:Int))) (K (b (-1)) c) (K (b (CB a.n a.m a.L a.done a.i)) c)):=by kernel_rfl
def ap6(x:IQ):List AV×List Dn.Obj:=([.ptr 0 0 [] 0, .mp 3],rz x.n x.m x.L++[.map 3 4 (jl x.done)])
def QS(x:IQ):=WG x.n x.m x.L/\x.n<=60
def P9(x:IQ):Out (AV×List Dn.Obj):= .one (.int (dL x.n x.m x.L x.done),rz x.n x.m x.L++[.map 3 4 (jl x.done)])
theorem TZ n m L done(h:dL n m L done<0):dL n m L done= -1:=by
 unfold dL at h⊢;cases e:(iH n).find? _<;>grind [jc]
theorem cNy κ:bd (Xt κ) 12 44 (aM ap6 QS P9):=by
 refine aQ ?_;rintro⟨n,m,L,done,i,b⟩ K ⟨c,d⟩ a;refine Eq.mpr (yNx κ n (dM L) _ (jl done) K) ?_;refine⟨rfl,⟨n,m,L,done,0,[]⟩,rfl,by grind,?_⟩;simp only[P9,Out.run] at a;rw[ae];refine⟨fun e=>?_,fun _=>a⟩;rw[TZ n m L done (of_decide_eq_true e)] at a;exact a
theorem yNz κ ls es K:(a8 (Xt κ) 12 44 [.ptr 0 0 [] 0, .mp 2] (zF 0 ls++[.map 3 4 es]) K)=(
 letI a:=AV.int
 letI b:=.agg [.ak 1 0 0,AV.nil]
 letI c:=Pg.toProgram (Env.P (IU κ))
 ad c 44 2=ad c 44 2/\∃(e0:Se),letI d:=[.box 145 b,.rows 35 3 e0.ls none,.map 3 4 e0.es];sp 43 [(0,.ptr 0 0 [] 0),(1,.mp 2),(11,a 0),(12,a 0)] [.box 145 b,.rows 35 3 ls none,.map 3 4 es]=sp 43 [(0,.ptr 0 0 [] 0),(1,.mp 2),(11,a 0),(12,a 0)] d/\True/\K (a (-1)) d):=by kernel_rfl
def ap5(x:Se):List AV×List Dn.Obj:=([.ptr 0 0 [] 0, .mp 2],zF 0 x.ls++[.map 3 4 x.es])
def V0(x:Se):Out (AV×List Dn.Obj):= .one (.int (-1),zF 0 x.ls++[.map 3 4 x.es])
theorem cNw κ:bd (Xt κ) 12 44 (aM ap5 (fun _=>True) V0):=by
 refine aQ ?_;rintro⟨b,c⟩ K _ a;refine Eq.mpr (yNz _ _ _ K) ?_;exact⟨rfl,_,rfl,trivial,a⟩
def am1(st:List Dn.Obj):=Nat.beq st.length 4
noncomputable def ENy κ:=(Xt κ).ax 44 (H7 am1 (aM ap6 QS P9) (aM ap5 (fun _=>True) V0))
theorem eNy κ:aE (ENy κ):=(eNx _).ax (mNx _) (C6 (cNy _) (cNw _))
theorem mNy κ:aj (ENy κ):=(mNx _).ax (uJ aJ aJ)
def UH(a:Int):List AV×List Dn.Obj:=([.int a],[])
def VU(a:Int):Out (AV×List Dn.Obj):= .one (.bool (ko a),[])
def P2(a:Int):Out (AV×List Dn.Obj):= .one (.bool (jn a),[])
def Dj(_:Int):Prop:=True
theorem yIa κ op K:(a8 (ENy κ) 12 90 [.int op] [] K)=(
 K (AV.bool (op==1)) []):=by kernel_rfl
theorem cIa κ:bd (ENy κ) 12 90 (aM UH Dj VU):=by
 refine aQ ?_;rintro b K _ a;refine Eq.mpr (yIa _ _ K) ?_;exact a
noncomputable def EIa κ:=(ENy κ).ax 90 (aM UH Dj VU)
theorem eIa κ:aE (EIa κ):=(eNy _).ax (mNy _) (cIa _)
theorem mIa κ:aj (EIa κ):=(mNy _).ax aJ
theorem yIb κ op K:(a8 (EIa κ) 12 88 [.int op] [] K)=(
 aq (op==2) (K (AV.bool true) []) (K (AV.bool (decide (op>=7))) [])):=by kernel_rfl
theorem cIb κ:bd (EIa κ) 12 88 (aM UH Dj P2):=by
 refine aQ ?_;rintro b K _ a;refine Eq.mpr (yIb _ _ K) ?_;simp[P2,jn] at a;rw[ZB];cases h:decide (b=2)<;>rw[h] at a<;>exact a
noncomputable def Gy κ:=(EIa κ).ax 88 (aM UH Dj P2)
theorem eIb κ:aE (Gy κ):=(eIa _).ax (mIa _) (cIb _)
theorem mIb κ:aj (Gy κ):=(mIa _).ax aJ
structure IN where
 n:Nat
 m:Nat
 L:Gr
 ds:List AV
 rs:List AV
 a:dx
 h:Int
def na(a:Int->Bool) n m L ds h(b:List _):=b.any fun l=>a (toInt (af l 0))&&iz n m L h (bu (toStr (af (af l 1) 0)) ds)
def uN(b:Int->Bool)(x:IN):=(0<=x.h/\x.h<x.n)/\x.ds.length<=aX/\x.a.bl.length<=aX/\0<=x.a.i/\x.a.i<=x.a.bl.length/\∀l,l∈x.a.bl->b (toInt (af l 0))=true->0<=bu (toStr (af (af l 1) 0)) x.ds/\bu (toStr (af (af l 1) 0)) x.ds<x.n
def Df(b:Int->Bool)(x:IN):=x.h=bu x.a.rel x.ds/\(0<=x.h/\x.h<x.n)/\x.ds.length<=aX/\x.a.bl.length<=aX/\∀l,l∈x.a.bl->b (toInt (af l 0))=true->0<=bu (toStr (af (af l 1) 0)) x.ds/\bu (toStr (af (af l 1) 0)) x.ds<x.n
theorem xAa(κ:Kp)(N:Nat) ls ds rs fs(a:dx)(h:Int) I n K:(vc (Gy κ) 12 168 none 8 (ad (Pr κ).toProgram 168 2) (sp 19 [(0, .ah 80 a.bl),(1, .bo 134 [.ptr 4 0 [] 0, .ptr 6 0 [] 0, .ptr 3 0 [] 0, .ptr 7 0 [] 0]),(7, .int a.bl.length),(8, .int a.i)] (v8 N ls fs++[.box 99 (.ptr 0 0 [] 0), .box 25 (eg ds rs), .box 48 (aw a), .box 152 (.bo 90 []), .box 3 (.int h)])) (bg (Gy κ) 168 2 8 I n K))=(
 letI b:=AV.ptr 0 0 []
 letI c:=AV.int
 letI d:=AV.ptr
 letI e:=Obj.box
 letI f:=Obj.row
 letI g:=Obj.rows
 letI i:=AV.ah
 letI k:=AV.agg [i 43 ds,i 48 rs]
 letI l:=AV.agg [AV.ak 1 0 N,AV.ak 2 0 fs.length]
 letI m:=b 0
 letI q:=IntKind.wrap IntKind.i64 (a.i+(1:Int))
 letI j:=a.bl.length
 letI o:=AV.bo 90 []
 aq (decide (a.i<(↑j:Int))) (aW (decide ((0:Int)<=a.i)&&decide (a.i<(↑j:Int))) (∃(e3:List AV×ByteArray),([i 43 ds,AV.str (toStr (af (af (nth a.bl a.i.toNat) 1) 0))],aR)=([i 43 e3.1,AV.str e3.2],aR)/\gZ e3/\∃(e2:Int),([c (toInt (af (nth a.bl a.i.toNat) 0))],aR)=([c e2],aR)/\True/\aq (ko e2) (∃(e1:WI),letI p:=bB e1.n e1.m e1.L e1.n;letI r:=AV.agg [AV.ak 1 0 e1.n,AV.ak 2 0 (List.length p)];letI s:=[e 145 r,g 35 3 (dM e1.L) none,f 101 p,e 99 m,e 25 k,e 48 (aw a),e 152 o,e 3 (c h)];([b 0,c h,c (bu e3.2 e3.1)],[e 145 l,g 35 3 ls none,f 101 fs])=([b 0,c e1.a,c e1.b],[e 145 r,g 35 3 (dM e1.L) none,f 101 p])/\(((0:Int)<=e1.a/\e1.a<(↑(e1.n):Int))/\(0:Int)<=e1.b/\e1.b<(↑(e1.n):Int))/\aq (iz e1.n e1.m e1.L e1.a e1.b) (K Exit.ret (sp 19 [(4,c a.i)] s)) (∃(e0:Nat),e0<n/\I e0 (sp 19 [(0,i 80 a.bl),(1,AV.bo 134 [d 4 0 [] 0,d 6 0 [] 0,d 3 0 [] 0,d 7 0 [] 0]),(7,c (↑j:Int)),(8,c q)] s))) (∃(e0:Nat),e0<n/\I e0 (sp 19 [(0,i 80 a.bl),(1,AV.bo 134 [d 4 0 [] 0,d 6 0 [] 0,d 3 0 [] 0,d 7 0 [] 0]),(7,c (↑j:Int)),(8,c q)] [e 145 l,g 35 3 ls none,f 101 fs,e 99 m,e 25 k,e 48 (aw a),e 152 o,e 3 (c h)])))) (K (Exit.exit 0) (sp 19 [] [e 145 l,g 35 3 ls none,f 101 fs,e 99 m,e 25 k,e 48 (aw a),e 152 o,e 3 (c h)]))):=by kernel_rfl
abbrev Ux(x:IN):=sp 19 [(0, .ah 80 x.a.bl),(1, .bo 134 [.ptr 4 0 [] 0, .ptr 6 0 [] 0, .ptr 3 0 [] 0, .ptr 7 0 [] 0]),(7, .int x.a.bl.length),(8, .int x.a.i)] (v8 x.n (dM x.L) (bB x.n x.m x.L x.n)++[.box 99 (.ptr 0 0 [] 0), .box 25 (eg x.ds x.rs), .box 48 (aw x.a), .box 152 (.bo 90 []), .box 3 (.int x.h)])
def JT(x:IN):Out (Exit×S):= .all (fun j:Int=>0<=j) fun j=> .aq (na ko x.n x.m x.L x.ds x.h (x.a.bl.drop x.a.i.toNat))
 (.one (.ret,sp 19 [(4, .int j)] (rz x.n x.m x.L++[.box 99 (.ptr 0 0 [] 0), .box 25 (eg x.ds x.rs), .box 48 (aw x.a), .box 152 (.bo 90 []), .box 3 (.int x.h)])))
 (.one (.exit 0,sp 19 [] (rz x.n x.m x.L++[.box 99 (.ptr 0 0 [] 0), .box 25 (eg x.ds x.rs), .box 48 (aw x.a), .box 152 (.bo 90 []), .box 3 (.int x.h)])))
theorem lAa κ:aU (Gy κ) 12 168 2 (aG 8 Ux (uN ko) JT):=by
 refine aC (fun x=>x.a.bl.length - x.a.i.toNat) ?_;rintro⟨n,m,L,ds,o,⟨xs,d,g,t,b,c,i⟩,h⟩ K ⟨u,hd,w,q,y,r⟩ s;simp only at u hd w q y r;rw[show(Gy κ).P=Pr κ from rfl];refine Eq.mpr (xAa κ n (dM L) ds o (bB n m L n) ⟨xs,d,g,t,b,c,i⟩ h _ _ K) ?_;simp only[aX] at w;rw[ae,ai,aC6,at3,at3,aC7];refine⟨fun j=>⟨⟨q,j⟩,(ds,toStr (af (af (nth b i.toNat) 1) 0)),rfl,hd,toInt (af (nth b i.toNat) 0),rfl,trivial,?_⟩,fun j=>?_⟩
 ·have j:i<(b.length:Int):=j
  have p:i.toNat<b.length:=by omega
  have z:nth b i.toNat∈b:=by rw[aV _ _ p];exact List.getElem_mem _
  have v:na ko n m L ds h (b.drop i.toNat)=((ko (toInt (af (nth b i.toNat) 0))&&iz n m L h (bu (toStr (af (af (nth b i.toNat) 1) 0)) ds))||na ko n m L ds h (b.drop (i.toNat+1))):=by
   rw[aD6 p,←aV b i.toNat p];rfl
  have f:(ko (toInt (af (nth b i.toNat) 0))&&iz n m L h (bu (toStr (af (af (nth b i.toNat) 1) 0)) ds))=false->∃k,k<b.length - i.toNat/\eW Ux (uN ko) JT (fun x=>x.a.bl.length - x.a.i.toNat) K k (Ux ⟨n,m,L,ds,o,⟨xs,d,g,t,b,c,i+1⟩,h⟩):=fun e=>by
   rw[e,Bool.false_or] at v;refine⟨_,?_,⟨n,m,L,ds,o,⟨xs,d,g,t,b,c,i+1⟩,h⟩,rfl,⟨u,hd,by simpa[aX] using w,by simp only;omega,by simp only;omega,r⟩,rfl,?_⟩
   ·simp only;omega
   ·simp only[JT,Out.run,show(i+1).toNat=i.toNat+1 by omega,←v]
    exact s
  rw[az (n:=i+1) (by omega) (by omega),ae];refine⟨fun e=>⟨⟨n,m,L,h,bu (toStr (af (af (nth b i.toNat) 1) 0)) ds⟩,rfl,⟨u,r _ z e⟩,?_⟩,fun e=>?_⟩
  ·rw[ae]
   refine⟨fun l=>?_,fun l=>?_⟩
   ·have:=s i q
    simp only at l;simp only[Out.run] at this;rw[v,e,l] at this;exact this
   ·exact f (by rw[e,aE2];exact l)
  ·exact f (by rw[e,Bool.false_and])
 ·have:=s 0 (by omega)
  simp only at j;simp only[Out.run] at this;rw[aD3 (by omega)] at this;exact this
theorem xAb(κ:Kp)(N:Nat) ls ds rs fs(a:dx) h I n K:(vc (Gy κ) 12 168 none 8 (ad (Pr κ).toProgram 168 2) (sp 19 [(0, .ah 80 a.bl),(1, .bo 134 [.ptr 4 0 [] 0, .ptr 6 0 [] 0, .ptr 3 0 [] 0, .ptr 7 0 [] 0]),(7, .int a.bl.length),(8, .int a.i)] (v8 N ls fs++[.box 99 (.ptr 0 0 [] 0), .box 25 (eg ds rs), .box 48 (aw a), .box 152 (.bo 88 []), .box 3 (.int h)])) (bg (Gy κ) 168 2 8 I n K))=(
 letI b:=AV.ptr 0 0 []
 letI c:=AV.int
 letI d:=AV.ptr
 letI e:=Obj.box
 letI f:=Obj.row
 letI g:=Obj.rows
 letI i:=AV.ah
 letI k:=AV.agg [i 43 ds,i 48 rs]
 letI l:=AV.agg [AV.ak 1 0 N,AV.ak 2 0 fs.length]
 letI m:=b 0
 letI q:=IntKind.wrap IntKind.i64 (a.i+(1:Int))
 letI j:=a.bl.length
 letI o:=AV.bo 88 []
 aq (decide (a.i<(↑j:Int))) (aW (decide ((0:Int)<=a.i)&&decide (a.i<(↑j:Int))) (∃(e3:List AV×ByteArray),([i 43 ds,AV.str (toStr (af (af (nth a.bl a.i.toNat) 1) 0))],aR)=([i 43 e3.1,AV.str e3.2],aR)/\gZ e3/\∃(e2:Int),([c (toInt (af (nth a.bl a.i.toNat) 0))],aR)=([c e2],aR)/\True/\aq (jn e2) (∃(e1:WI),letI p:=bB e1.n e1.m e1.L e1.n;letI r:=AV.agg [AV.ak 1 0 e1.n,AV.ak 2 0 (List.length p)];letI s:=[e 145 r,g 35 3 (dM e1.L) none,f 101 p,e 99 m,e 25 k,e 48 (aw a),e 152 o,e 3 (c h)];([b 0,c h,c (bu e3.2 e3.1)],[e 145 l,g 35 3 ls none,f 101 fs])=([b 0,c e1.a,c e1.b],[e 145 r,g 35 3 (dM e1.L) none,f 101 p])/\(((0:Int)<=e1.a/\e1.a<(↑(e1.n):Int))/\(0:Int)<=e1.b/\e1.b<(↑(e1.n):Int))/\aq (iz e1.n e1.m e1.L e1.a e1.b) (K Exit.ret (sp 19 [(4,c a.i)] s)) (∃(e0:Nat),e0<n/\I e0 (sp 19 [(0,i 80 a.bl),(1,AV.bo 134 [d 4 0 [] 0,d 6 0 [] 0,d 3 0 [] 0,d 7 0 [] 0]),(7,c (↑j:Int)),(8,c q)] s))) (∃(e0:Nat),e0<n/\I e0 (sp 19 [(0,i 80 a.bl),(1,AV.bo 134 [d 4 0 [] 0,d 6 0 [] 0,d 3 0 [] 0,d 7 0 [] 0]),(7,c (↑j:Int)),(8,c q)] [e 145 l,g 35 3 ls none,f 101 fs,e 99 m,e 25 k,e 48 (aw a),e 152 o,e 3 (c h)])))) (K (Exit.exit 0) (sp 19 [] [e 145 l,g 35 3 ls none,f 101 fs,e 99 m,e 25 k,e 48 (aw a),e 152 o,e 3 (c h)]))):=by kernel_rfl
abbrev Uy(x:IN):=sp 19 [(0, .ah 80 x.a.bl),(1, .bo 134 [.ptr 4 0 [] 0, .ptr 6 0 [] 0, .ptr 3 0 [] 0, .ptr 7 0 [] 0]),(7, .int x.a.bl.length),(8, .int x.a.i)] (v8 x.n (dM x.L) (bB x.n x.m x.L x.n)++[.box 99 (.ptr 0 0 [] 0), .box 25 (eg x.ds x.rs), .box 48 (aw x.a), .box 152 (.bo 88 []), .box 3 (.int x.h)])
def JU(x:IN):Out (Exit×S):= .all (fun j:Int=>0<=j) fun j=> .aq (na jn x.n x.m x.L x.ds x.h (x.a.bl.drop x.a.i.toNat))
 (.one (.ret,sp 19 [(4, .int j)] (rz x.n x.m x.L++[.box 99 (.ptr 0 0 [] 0), .box 25 (eg x.ds x.rs), .box 48 (aw x.a), .box 152 (.bo 88 []), .box 3 (.int x.h)])))
 (.one (.exit 0,sp 19 [] (rz x.n x.m x.L++[.box 99 (.ptr 0 0 [] 0), .box 25 (eg x.ds x.rs), .box 48 (aw x.a), .box 152 (.bo 88 []), .box 3 (.int x.h)])))
theorem lAb κ:aU (Gy κ) 12 168 2 (aG 8 Uy (uN jn) JU):=by
 refine aC (fun x=>x.a.bl.length - x.a.i.toNat) ?_;rintro⟨n,m,L,ds,o,⟨xs,d,g,t,b,c,i⟩,h⟩ K ⟨u,hd,w,q,y,r⟩ s;simp only at u hd w q y r;rw[show(Gy κ).P=Pr κ from rfl];refine Eq.mpr (xAb κ n (dM L) ds o (bB n m L n) ⟨xs,d,g,t,b,c,i⟩ h _ _ K) ?_;simp only[aX] at w;rw[ae,ai,aC6,at3,at3,aC7];refine⟨fun j=>⟨⟨q,j⟩,(ds,toStr (af (af (nth b i.toNat) 1) 0)),rfl,hd,toInt (af (nth b i.toNat) 0),rfl,trivial,?_⟩,fun j=>?_⟩
 ·have j:i<(b.length:Int):=j
  have p:i.toNat<b.length:=by omega
  have z:nth b i.toNat∈b:=by rw[aV _ _ p];exact List.getElem_mem _
  have v:na jn n m L ds h (b.drop i.toNat)=((jn (toInt (af (nth b i.toNat) 0))&&iz n m L h (bu (toStr (af (af (nth b i.toNat) 1) 0)) ds))||na jn n m L ds h (b.drop (i.toNat+1))):=by
   rw[aD6 p,←aV b i.toNat p];rfl
  have f:(jn (toInt (af (nth b i.toNat) 0))&&iz n m L h (bu (toStr (af (af (nth b i.toNat) 1) 0)) ds))=false->∃k,k<b.length - i.toNat/\eW Uy (uN jn) JU (fun x=>x.a.bl.length - x.a.i.toNat) K k (Uy ⟨n,m,L,ds,o,⟨xs,d,g,t,b,c,i+1⟩,h⟩):=fun e=>by
   rw[e,Bool.false_or] at v;refine⟨_,?_,⟨n,m,L,ds,o,⟨xs,d,g,t,b,c,i+1⟩,h⟩,rfl,⟨u,hd,by simpa[aX] using w,by simp only;omega,by simp only;omega,r⟩,rfl,?_⟩
   ·simp only;omega
   ·simp only[JU,Out.run,show(i+1).toNat=i.toNat+1 by omega,←v]
    exact s
  rw[az (n:=i+1) (by omega) (by omega),ae];refine⟨fun e=>⟨⟨n,m,L,h,bu (toStr (af (af (nth b i.toNat) 1) 0)) ds⟩,rfl,⟨u,r _ z e⟩,?_⟩,fun e=>?_⟩
  ·rw[ae]
   refine⟨fun l=>?_,fun l=>?_⟩
   ·have:=s i q
    simp only at l;simp only[Out.run] at this;rw[v,e,l] at this;exact this
   ·exact f (by rw[e,aE2];exact l)
  ·exact f (by rw[e,Bool.false_and])
 ·have:=s 0 (by omega)
  simp only at j;simp only[Out.run] at this;rw[aD3 (by omega)] at this;exact this
def az7(s:S):Bool:=match ay s.st 6 with| .box _ (.bo f _)=>Nat.beq f 90|_=>false
noncomputable def Xq κ:=(Gy κ).an 168 2 (tj az7 (aG 8 Ux (uN ko) JT) (aG 8 Uy (uN jn) JU))
theorem eAl κ:aE (Xq κ):=(eIb _).an (mIb _) (pR (lAa _) (lAb _))
theorem mAl κ:aj (Xq κ):=(mIb _).an (lT aK aK)
theorem yAa κ N ls ds rs fs a K:(a8 (Xq κ) 12 87 [.ptr 0 0 [] 0,eg ds rs,aw a, .bo 90 []] (v8 N ls fs) K)=(
 letI b:=AV.int
 letI c:=AV.ptr
 letI d:=Obj.box
 letI e:=AV.ah
 letI g:=Pg.toProgram (Env.P (Gy κ))
 ∃(e2:List AV×ByteArray),([e 43 ds,AV.str a.rel],aR)=([e 43 e2.1,AV.str e2.2],aR)/\gZ e2/\ad g 168 2=ad g 168 2/\∃(e1:IN),letI f:=bB e1.n e1.m e1.L e1.n;letI h:=AV.agg [AV.ak 1 0 e1.n,AV.ak 2 0 (List.length f)];letI i:=[d 145 h,Obj.rows 35 3 (dM e1.L) none,Obj.row 101 f];sp 19 [(0,e 80 a.bl),(1,AV.bo 134 [c 4 0 [] 0,c 6 0 [] 0,c 3 0 [] 0,c 7 0 [] 0]),(7,b (↑(a.bl.length):Int)),(8,b 0)] [d 145 (AV.agg [AV.ak 1 0 N,AV.ak 2 0 fs.length]),Obj.rows 35 3 ls none,Obj.row 101 fs,d 99 (c 0 0 [] 0),d 25 (AV.agg [e 43 ds,e 48 rs]),d 48 (aw a),d 152 (AV.bo 90 []),d 3 (b (bu e2.2 e2.1))]=sp 19 [(0,e 80 e1.a.bl),(1,AV.bo 134 [c 4 0 [] 0,c 6 0 [] 0,c 3 0 [] 0,c 7 0 [] 0]),(7,b (↑(List.length e1.a.bl):Int)),(8,b e1.a.i)] [d 145 h,Obj.rows 35 3 (dM e1.L) none,Obj.row 101 f,d 99 (c 0 0 [] 0),d 25 (AV.agg [e 43 e1.ds,e 48 e1.rs]),d 48 (aw e1.a),d 152 (AV.bo 90 []),d 3 (b e1.h)]/\(((0:Int)<=e1.h/\e1.h<(↑(e1.n):Int))/\e1.ds.length<=9223372036854775807/\List.length e1.a.bl<=9223372036854775807/\(0:Int)<=e1.a.i/\e1.a.i<=(↑(List.length e1.a.bl):Int)/\∀(e0:AV),List.Mem e0 e1.a.bl->ko (toInt (af e0 0))=true->(0:Int)<=bu (toStr (af (af e0 1) 0)) e1.ds/\bu (toStr (af (af e0 1) 0)) e1.ds<(↑(e1.n):Int))/\∀(e0:Int),(0:Int)<=e0->aq (na ko e1.n e1.m e1.L e1.ds e1.h (List.drop (Int.toNat e1.a.i) e1.a.bl)) (K (AV.bool (decide (e0>=(0:Int)))) i) (K (AV.bool false) i)):=by kernel_rfl
def Wq(x:IN):=([.ptr 0 0 [] 0,eg x.ds x.rs,aw x.a, .bo 90 []],rz x.n x.m x.L)
def HK(x:IN):Out (AV×List Dn.Obj):= .one (.bool (na ko x.n x.m x.L x.ds x.h x.a.bl),rz x.n x.m x.L)
theorem cAa κ:bd (Xq κ) 12 87 (aM Wq (Df ko) HK):=by
 refine aQ ?_;rintro⟨n,m,L,ds,d,⟨xs,a,c,l,p,b,i⟩,h⟩ K ⟨g,f,hd,e,k⟩ o;simp only at g f hd e k;refine Eq.mpr (yAa κ n (dM L) ds d (bB n m L n) _ K) ?_;simp only[HK,Out.run] at o;refine⟨(ds,c),rfl,hd,rfl,⟨n,m,L,ds,d,⟨xs,a,c,l,p,b,0⟩,h⟩,by simp only[g],⟨f,hd,e,by simp only;omega,by simp only;omega,k⟩,fun j q=>?_⟩
 grind [ae,decide_eq_true]
theorem yAb κ N ls ds rs fs a K:(a8 (Xq κ) 12 87 [.ptr 0 0 [] 0,eg ds rs,aw a, .bo 88 []] (v8 N ls fs) K)=(
 letI b:=AV.int
 letI c:=AV.ptr
 letI d:=Obj.box
 letI e:=AV.ah
 letI g:=Pg.toProgram (Env.P (Gy κ))
 ∃(e2:List AV×ByteArray),([e 43 ds,AV.str a.rel],aR)=([e 43 e2.1,AV.str e2.2],aR)/\gZ e2/\ad g 168 2=ad g 168 2/\∃(e1:IN),letI f:=bB e1.n e1.m e1.L e1.n;letI h:=AV.agg [AV.ak 1 0 e1.n,AV.ak 2 0 (List.length f)];letI i:=[d 145 h,Obj.rows 35 3 (dM e1.L) none,Obj.row 101 f];sp 19 [(0,e 80 a.bl),(1,AV.bo 134 [c 4 0 [] 0,c 6 0 [] 0,c 3 0 [] 0,c 7 0 [] 0]),(7,b (↑(a.bl.length):Int)),(8,b 0)] [d 145 (AV.agg [AV.ak 1 0 N,AV.ak 2 0 fs.length]),Obj.rows 35 3 ls none,Obj.row 101 fs,d 99 (c 0 0 [] 0),d 25 (AV.agg [e 43 ds,e 48 rs]),d 48 (aw a),d 152 (AV.bo 88 []),d 3 (b (bu e2.2 e2.1))]=sp 19 [(0,e 80 e1.a.bl),(1,AV.bo 134 [c 4 0 [] 0,c 6 0 [] 0,c 3 0 [] 0,c 7 0 [] 0]),(7,b (↑(List.length e1.a.bl):Int)),(8,b e1.a.i)] [d 145 h,Obj.rows 35 3 (dM e1.L) none,Obj.row 101 f,d 99 (c 0 0 [] 0),d 25 (AV.agg [e 43 e1.ds,e 48 e1.rs]),d 48 (aw e1.a),d 152 (AV.bo 88 []),d 3 (b e1.h)]/\(((0:Int)<=e1.h/\e1.h<(↑(e1.n):Int))/\e1.ds.length<=9223372036854775807/\List.length e1.a.bl<=9223372036854775807/\(0:Int)<=e1.a.i/\e1.a.i<=(↑(List.length e1.a.bl):Int)/\∀(e0:AV),List.Mem e0 e1.a.bl->jn (toInt (af e0 0))=true->(0:Int)<=bu (toStr (af (af e0 1) 0)) e1.ds/\bu (toStr (af (af e0 1) 0)) e1.ds<(↑(e1.n):Int))/\∀(e0:Int),(0:Int)<=e0->aq (na jn e1.n e1.m e1.L e1.ds e1.h (List.drop (Int.toNat e1.a.i) e1.a.bl)) (K (AV.bool (decide (e0>=(0:Int)))) i) (K (AV.bool false) i)):=by kernel_rfl
def Wr(x:IN):=([.ptr 0 0 [] 0,eg x.ds x.rs,aw x.a, .bo 88 []],rz x.n x.m x.L)
def HL(x:IN):Out (AV×List Dn.Obj):= .one (.bool (na jn x.n x.m x.L x.ds x.h x.a.bl),rz x.n x.m x.L)
theorem cAb κ:bd (Xq κ) 12 87 (aM Wr (Df jn) HL):=by
 refine aQ ?_;rintro⟨n,m,L,ds,d,⟨xs,a,c,l,p,b,i⟩,h⟩ K ⟨g,f,hd,e,k⟩ o;simp only at g f hd e k;refine Eq.mpr (yAb κ n (dM L) ds d (bB n m L n) _ K) ?_;simp only[HL,Out.run] at o;refine⟨(ds,c),rfl,hd,rfl,⟨n,m,L,ds,d,⟨xs,a,c,l,p,b,0⟩,h⟩,by simp only[g],⟨f,hd,e,by simp only;omega,by simp only;omega,k⟩,fun j q=>?_⟩
 grind [ae,decide_eq_true]
def Qo(d:List AV->Bool)(a b:dN):dN:=fun c st K=>bif d c then a c st K else b c st K
theorem MD{c a b}(f:a.gl)(g:b.gl):(Qo c a b).gl:=fun e st K j d h=>by
 unfold Qo at h⊢;cases i:c _<;>simp[i] at h⊢
 ·exact g _ _ _ _ d h
 ·exact f _ _ _ _ d h
theorem Ui{E N f c a b}(i:bd E N f a)(g:bd E N f b):bd E N f (Qo c a b):=fun d st K h=>by
 unfold Qo at h;cases e:c _<;>rw[e] at h
 ·exact g _ _ _ h
 ·exact i _ _ _ h
def ax2:List AV->Bool
 |[_,_,_, .bo f _]=>Nat.beq f 90
 |_=>false
noncomputable def IS κ:=(Xq κ).ax 87 (Qo ax2 (aM Wq (Df ko) HK) (aM Wr (Df jn) HL))
theorem eAg κ:aE (IS κ):=(eAl _).ax (mAl _) (Ui (cAa _) (cAb _))
theorem mAg κ:aj (IS κ):=(mAl _).ax (MD aJ aJ)
theorem xLy(κ:Kp)(N i:Nat) ls ds rs fs I(n:Nat) K:(vc (IS κ) 12 43 none 3 (ad (Pr κ).toProgram 43 2) (sp 38 [(0, .ptr 0 0 [] 0),(3, .ptr 3 0 [] 0),(11, .ah 48 rs),(12, .int rs.length),(13, .int i)] (v8 N ls fs++[.box 25 (eg ds rs)])) (bg (IS κ) 43 2 3 I n K))=(
 letI a:=AV.ptr 0 0 []
 letI b:=AV.int
 letI c:=AV.agg
 letI d:=Obj.box
 letI e:=Obj.row
 letI f:=Obj.rows
 letI g:=AV.ah
 letI h:=AV.ak
 letI s:=nth rs (Int.toNat (↑i:Int))
 letI w:=IntKind.wrap IntKind.i64 ((↑i:Int)+(1:Int))
 letI x:=c [g 43 ds,g 48 rs]
 letI o:=toInt (af s 2)
 letI t:=toStr (af (af s 0) 0)
 letI y:=c [h 1 0 N,h 2 0 fs.length]
 letI z:=(↑i:Int)<(↑(rs.length):Int)
 letI u:=ag (af (af s 0) 1)
 letI v:=ag (af s 1)
 aq (decide z) (aW (true&&decide z) (∃(e3:IN),letI j:=bB e3.n e3.m e3.L e3.n;letI p:=c [h 1 0 e3.n,h 2 0 (List.length j)];letI k:=∃(e0:Nat),e0<n/\I e0 (sp 38 [(0,a 0),(3,AV.ptr 3 0 [] 0),(11,g 48 rs),(12,b (↑(rs.length):Int)),(13,b w)] [d 145 p,f 35 3 (dM e3.L) none,e 101 j,d 25 x]);letI l:=[d 145 p,f 35 3 (dM e3.L) none,e 101 j];([a 0,c [g 43 ds,g 48 rs],c [c [AV.str t,g 38 u],g 80 v,b o],AV.bo 88 []],[d 145 y,f 35 3 ls none,e 101 fs])=([a 0,c [g 43 e3.ds,g 48 e3.rs],aw e3.a,AV.bo 88 []],l)/\(e3.h=bu e3.a.rel e3.ds/\((0:Int)<=e3.h/\e3.h<(↑(e3.n):Int))/\e3.ds.length<=9223372036854775807/\List.length e3.a.bl<=9223372036854775807/\∀(e0:AV),List.Mem e0 e3.a.bl->jn (toInt (af e0 0))=true->(0:Int)<=bu (toStr (af (af e0 1) 0)) e3.ds/\bu (toStr (af (af e0 1) 0)) e3.ds<(↑(e3.n):Int))/\aq (na jn e3.n e3.m e3.L e3.ds e3.h e3.a.bl) (K Exit.ret (sp 38 [(4,b o),(5,b 70)] l)) (∃(e2:dx),([c [c [AV.str t,g 38 u],g 80 v,b o]],aR)=([aw e2],aR)/\(bn (aa (bp 38 e2.hl e2.bl))<=100000/\e2.bl.length<=100000)/\aq (ba (aL e2)) (aq (jZ (aL e2)) (aq (OT (aL e2)) (∃(e1:IN),letI m:=bB e1.n e1.m e1.L e1.n;letI q:=c [h 1 0 e1.n,h 2 0 (List.length m)];letI r:=[d 145 q,f 35 3 (dM e1.L) none,e 101 m];([a 0,c [g 43 ds,g 48 rs],c [c [AV.str t,g 38 u],g 80 v,b o],AV.bo 90 []],l)=([a 0,c [g 43 e1.ds,g 48 e1.rs],aw e1.a,AV.bo 90 []],r)/\(e1.h=bu e1.a.rel e1.ds/\((0:Int)<=e1.h/\e1.h<(↑(e1.n):Int))/\e1.ds.length<=9223372036854775807/\List.length e1.a.bl<=9223372036854775807/\∀(e0:AV),List.Mem e0 e1.a.bl->ko (toInt (af e0 0))=true->(0:Int)<=bu (toStr (af (af e0 1) 0)) e1.ds/\bu (toStr (af (af e0 1) 0)) e1.ds<(↑(e1.n):Int))/\aq (na ko e1.n e1.m e1.L e1.ds e1.h e1.a.bl) (K Exit.ret (sp 38 [(4,b o),(5,b 71)] r)) (∃(e0:Nat),e0<n/\I e0 (sp 38 [(0,a 0),(3,AV.ptr 3 0 [] 0),(11,g 48 rs),(12,b (↑(rs.length):Int)),(13,b w)] [d 145 q,f 35 3 (dM e1.L) none,e 101 m,d 25 x]))) k) k) k))) (K (Exit.exit 0) (sp 38 [] [d 145 y,f 35 3 ls none,e 101 fs]))):=by kernel_rfl
theorem xLz κ ls ds I n K:(vc (IS κ) 12 43 none 2 (ad (Pr κ).toProgram 43 2) (sp 38 [(0, .ptr 0 0 [] 0),(3, .ptr 2 0 [] 0),(11, .ah 48 []),(12, .int 0),(13, .int 0)] (zF 0 ls++[.box 25 (eg ds [])])) (bg (IS κ) 43 2 2 I n K))=(
 K (.exit 0) (sp 38 [] [.box 145 (.agg [.ak 1 0 0,AV.nil]),.rows 35 3 ls none])):=by kernel_rfl
def B5 r:=ba (aL (cK r))&&jZ (aL (cK r))&&OT (aL (cK r))
def hdI ds r:=bu (toStr (af (af r 0) 0)) ds
def Ni a n m L ds r:=na a n m L ds (hdI ds r) (ag (af r 1))
def Cm(n m:Nat)(L:Gr)(ds:List AV):List AV->Int×Int
 |[]=>(0,0)
 |r::a=>bif Ni jn n m L ds r then(toInt (af r 2),70) else bif B5 r&&Ni ko n m L ds r then(toInt (af r 2),71) else Cm n m L ds a
structure DT(n:Nat)(ds:List AV)(r:AV):Prop where
 hd:0<=hdI ds r/\hdI ds r<n
 at_: ∀l,l∈ag (af r 1)->cQ (toInt (af l 0))=true->0<=bu (toStr (af (af l 1) 0)) ds/\bu (toStr (af (af l 1) 0)) ds<n
 le:(ag (af r 1)).length<=aX
 s42:du (cK r)
theorem OU{a}(h:ko a=true):cQ a=true:=by
 have:a=1:=by grind [ko]
 subst this;rfl
theorem Es{a}(h:jn a=true):cQ a=true:=by
 grind [jn,cQ]
structure Vg where
 n:Nat
 m:Nat
 L:Gr
 ds:List AV
 rs:List AV
 i:Nat
abbrev UM(x:Vg):=sp 38 [(0, .ptr 0 0 [] 0),(3, .ptr 3 0 [] 0),(11, .ah 48 x.rs),(12, .int x.rs.length),(13, .int x.i)] (rz x.n x.m x.L++[.box 25 (eg x.ds x.rs)])
def Ik(x:Vg):=x.ds.length<=aX/\x.rs.length<=aX/\x.i<=x.rs.length/\∀r,r∈x.rs->DT x.n x.ds r
def E9(x:Vg):Out (Exit×S):= .aq (decide ((Cm x.n x.m x.L x.ds (x.rs.drop x.i)).2=0))
 (.one (.exit 0,sp 38 [] (rz x.n x.m x.L)))
 (.one (.ret,sp 38 [(4, .int (Cm x.n x.m x.L x.ds (x.rs.drop x.i)).1),(5, .int (Cm x.n x.m x.L x.ds (x.rs.drop x.i)).2)] (rz x.n x.m x.L)))
theorem lLy κ:aU (IS κ) 12 43 2 (aG 3 UM Ik E9):=by
 refine aC (fun x=>x.rs.length - x.i) ?_;rintro⟨n,m,L,ds,a,i⟩ K ⟨hd,t,w,r⟩ u;simp only at hd t w r;rw[show(IS κ).P=Pr κ from rfl];refine Eq.mpr (xLy κ n i (dM L) ds a (bB n m L n) _ _ K) ?_;have c:=u;simp only[E9,Out.run,ae,at3,aC7] at c;simp only[aX] at t;rw[ae,at3,aC7,ai,aE2,at3];refine⟨fun h=>⟨h,?_⟩,fun h=>?_⟩
 ·have p:i<a.length:=by omega
  have v:nth a i∈a:=by rw[aV _ _ p];exact List.getElem_mem _
  have g:=r _ v;have d:Cm n m L ds (a.drop i)=bif Ni jn n m L ds (nth a i) then(toInt (af (nth a i) 2),70) else bif B5 (nth a i)&&Ni ko n m L ds (nth a i) then(toInt (af (nth a i) 2),71) else Cm n m L ds (a.drop (i+1)):=by
   rw[aD6 p,←aV a i p];rfl
  have b:Ni jn n m L ds (nth a i)=false->(B5 (nth a i)&&Ni ko n m L ds (nth a i))=false->∃k,k<a.length - i/\eW UM Ik E9 (fun x=>x.rs.length - x.i) K k (UM ⟨n,m,L,ds,a,i+1⟩):=fun j o=>by
   rw[j,o,aD0,aD0] at d;refine⟨_,?_,⟨n,m,L,ds,a,i+1⟩,rfl,⟨hd,by simpa[aX] using t,p,r⟩,rfl,?_⟩
   ·simp only;omega
   ·simp only[E9,Out.run,←d];exact u
  rw[Int.toNat_natCast,az (n:=(i:Int)+1) (by omega) (by omega)];refine⟨⟨n,m,L,ds,a,cK (nth a i),hdI ds (nth a i)⟩,rfl,⟨rfl,g.hd,hd,g.le,fun l q h=>g.at_ l q (Es h)⟩,?_⟩;rw[ae];refine⟨fun e=>?_,fun e=>?_⟩
  ·have e:Ni jn n m L ds (nth a i)=true:=e
   rw[e,aD2] at d;have:=c.2 (by rw[d];exact fun h=>nomatch h)
   rw[d] at this;exact this
  ·have e:Ni jn n m L ds (nth a i)=false:=e
   refine⟨cK (nth a i),rfl,g.s42,?_⟩;rw[ae];refine⟨fun j=>?_,fun j=>b e (by unfold B5;rw[j];rfl)⟩;rw[ae];refine⟨fun o=>?_,fun o=>b e (by unfold B5;rw[j,o];rfl)⟩;rw[ae];refine⟨fun s=>?_,fun s=>b e (by unfold B5;rw[j,o,s];rfl)⟩;have y:B5 (nth a i)=true:=by unfold B5;rw[j,o,s];rfl
   refine⟨⟨n,m,L,ds,a,cK (nth a i),hdI ds (nth a i)⟩,rfl,⟨rfl,g.hd,hd,g.le,fun l q h=>g.at_ l q (OU h)⟩,?_⟩;rw[ae];refine⟨fun f=>?_,fun f=>b e (by have f:Ni ko n m L ds (nth a i)=false:=f;rw[f,Bool.and_false])⟩;have f:Ni ko n m L ds (nth a i)=true:=f;rw[e,y,f,aD0,Bool.and_true,aD2] at d;have:=c.2 (by rw[d];exact fun h=>nomatch h)
   rw[d] at this;exact this
 ·rw[aD3 (by omega)] at c
  exact c.1 rfl
structure Zm where
 ls:List (List Value)
 ds:List AV
abbrev ap1(x:Zm):=sp 38 [(0, .ptr 0 0 [] 0),(3, .ptr 2 0 [] 0),(11, .ah 48 []),(12, .int 0),(13, .int 0)] (zF 0 x.ls++[.box 25 (eg x.ds [])])
def VW(x:Zm):Out (Exit×S):= .one (.exit 0,sp 38 [] (zF 0 x.ls))
theorem lLz κ:aU (IS κ) 12 43 2 (aG 2 ap1 (fun _=>True) VW):=by
 refine aC (fun _=>0) ?_;rintro⟨b,ds⟩ K _ a;exact Eq.mpr (xLz _ _ _ _ _ K) a
noncomputable def Xs κ:=(IS κ).an 43 2 (tj am0 (aG 3 UM Ik E9) (aG 2 ap1 (fun _=>True) VW))
theorem eLl κ:aE (Xs κ):=(eAg _).an (mAg _) (pR (lLy _) (lLz _))
theorem mLl κ:aj (Xs κ):=(mAg _).an (lT aK aK)
theorem yLy κ N ls ds rs fs K:(a8 (Xs κ) 12 43 [.ptr 0 0 [] 0,eg ds rs] (v8 N ls fs) K)=(
 letI b:=AV.int
 letI c:=Obj.box
 letI d:=AV.ah
 ad (Pg.toProgram (Env.P (IS κ))) 43 2=ad (Pg.toProgram (Env.P (IS κ))) 43 2/\∃(a:Vg),letI e:=bB a.n a.m a.L a.n;letI g:=AV.agg [AV.ak 1 0 a.n,AV.ak 2 0 (List.length e)];letI h:=[c 145 g,Obj.rows 35 3 (dM a.L) none,Obj.row 101 e];letI f:=Cm a.n a.m a.L a.ds (List.drop a.i a.rs);sp 38 [(0,AV.ptr 0 0 [] 0),(3,AV.ptr 3 0 [] 0),(11,d 48 rs),(12,b (↑(rs.length):Int)),(13,b 0)] [c 145 (AV.agg [AV.ak 1 0 N,AV.ak 2 0 fs.length]),Obj.rows 35 3 ls none,Obj.row 101 fs,c 25 (AV.agg [d 43 ds,d 48 rs])]=sp 38 [(0,AV.ptr 0 0 [] 0),(3,AV.ptr 3 0 [] 0),(11,d 48 a.rs),(12,b (↑(a.rs.length):Int)),(13,b (↑(a.i):Int))] [c 145 g,Obj.rows 35 3 (dM a.L) none,Obj.row 101 e,c 25 (AV.agg [d 43 a.ds,d 48 a.rs])]/\(a.ds.length<=9223372036854775807/\a.rs.length<=9223372036854775807/\a.i<=a.rs.length/\∀(r:AV),List.Mem r a.rs->DT a.n a.ds r)/\aq (decide (Prod.snd f=(0:Int))) (K (AV.aH [b 0,b 0]) h) (K (AV.aH [b (Prod.fst f),b (Prod.snd f)]) h)):=by kernel_rfl
theorem yLz κ ls ds K:(a8 (Xs κ) 12 43 [.ptr 0 0 [] 0,eg ds []] (zF 0 ls) K)=(
 letI a:=AV.int
 letI b:=Obj.box
 letI c:=AV.ah
 letI d:=.agg [.ak 1 0 0,AV.nil]
 letI e:=Pg.toProgram (Env.P (IS κ))
 ad e 43 2=ad e 43 2/\∃(e0:Zm),sp 38 [(0,.ptr 0 0 [] 0),(3,.ptr 2 0 [] 0),(11,c 48 []),(12,a 0),(13,a 0)] [b 145 d,
 .rows 35 3 ls none,b 25 (.agg [c 43 ds,c 48 []])]=sp 38 [(0,.ptr 0 0 [] 0),(3,.ptr 2 0 [] 0),(11,c 48 []),(12,a 0),
 (13,a 0)] [b 145 d,.rows 35 3 e0.ls none,b 25 (.agg [c 43 e0.ds,c 48 []])]/\True/\K (.aH [a 0,a 0]) [b
 145 d,.rows 35 3 e0.ls none]):=by kernel_rfl
def Ws(x:Vg):=([.ptr 0 0 [] 0,eg x.ds x.rs],rz x.n x.m x.L)
def KB(x:Vg):=x.ds.length<=aX/\x.rs.length<=aX/\∀r,r∈x.rs->DT x.n x.ds r
def HM(x:Vg):Out (AV×List Dn.Obj):= .one (.aH [.int (Cm x.n x.m x.L x.ds x.rs).1, .int (Cm x.n x.m x.L x.ds x.rs).2],rz x.n x.m x.L)
theorem EF n m L ds: ∀a,(Cm n m L ds a).2=0->Cm n m L ds a=(0,0)
 |[],_=>rfl
 | r::a,h=>by
  rw[Cm] at h⊢;cases e:Ni jn n m L ds r with
  |true=>grind
  | false=>
   rw[e,aD0] at h;cases b:B5 r&&Ni ko n m L ds r with
   |true=>grind
   |false=>
    rw[b,aD0] at h;exact EF n m L ds a h
theorem cLy κ:bd (Xs κ) 12 43 (aM Ws KB HM):=by
 refine aQ ?_;rintro⟨n,m,L,ds,a,i⟩ K ⟨hd,c,d⟩ b;refine Eq.mpr (yLy κ n (dM L) ds a (bB n m L n) K) ?_;refine⟨rfl,⟨n,m,L,ds,a,0⟩,rfl,⟨hd,c,Nat.zero_le _,d⟩,?_⟩;simp only[HM,Out.run] at b;rw[aD5,ae]
 grind [EF]
def Wt(x:Zm):=([.ptr 0 0 [] 0,eg x.ds []],zF 0 x.ls)
def Qf(x:Zm):Out (AV×List Dn.Obj):= .one (.aH [.int 0, .int 0],zF 0 x.ls)
theorem cLz κ:bd (Xs κ) 12 43 (aM Wt (fun _=>True) Qf):=by
 refine aQ ?_;rintro⟨b,ds⟩ K _ a;refine Eq.mpr (yLz _ _ _ K) ?_;exact⟨rfl,_,rfl,trivial,a⟩
noncomputable def ELy κ:=(Xs κ).ax 43 (H7 al9 (aM Ws KB HM) (aM Wt (fun _=>True) Qf))
theorem eLy κ:aE (ELy κ):=(eLl _).ax (mLl _) (C6 (cLy _) (cLz _))
theorem mLy κ:aj (ELy κ):=(mLl _).ax (uJ aJ aJ)
noncomputable abbrev SG(κ:Kp):Env:=ELy κ
theorem eCk(κ:Kp):aE (SG κ):=eLy κ
theorem mCk(κ:Kp):aj (SG κ):=mLy κ
theorem xGi κ(N i:Nat) ls fs gs l es I n K:(vc (SG κ) 12 18 none 0 (ad (Pr κ).toProgram 18 15) (sp 63 [(7, .ptr 0 0 [] 0),(10, .ak 3 0 gs.length),(11, .mp 4),(13, .ah 3 l),(49, .ah 3 l),(50, .int l.length),(51, .int i)] (v8 N ls fs++[.row 35 gs, .map 3 4 es])) (bg (SG κ) 18 15 0 I n K))=(
 letI a:=Obj.row
 letI b:=.agg [.ak 1 0 N,.ak 2 0 fs.length]
 letI c:=↑i<(↑(l.length):Int)
 aq (decide c) (aW (true&&decide c) (∃e0,e0<n/\I e0 (sp 63 [(7,.ptr 0 0 [] 0),(10,.ak 3 0 gs.length),(11,.mp 4),(13,.ah 3 l),
 (49,.ah 3 l),(50,AV.int ↑(l.length)),(51,AV.int (IntKind.wrap .i64 (↑i+1)))] [.box 145 b,.rows 35 3 ls none,
 a 101 fs,a 35 gs,.map 3 4 (fb es (.int .i64 (toInt (nth l (Int.toNat ↑i)))) (AV.bool true))]))) (K (.exit 2) (sp 63
 [(7,.ptr 0 0 [] 0),(10,.ak 3 0 gs.length),(11,.mp 4),(13,.ah 3 l)] [.box 145 b,.rows 35 3 ls none,a 101 fs,a 35 gs,
 .map 3 4 es]))):=by kernel_rfl
def iM(a:List (List Int)):List AV:=a.map fun g=> .ah 3 (iA g)
theorem TB a b:iM (a++b)=iM a++iM b:=by simp[iM]
theorem BZ a:(iM a).length=a.length:=by simp[iM]
structure AGi where
 n:Nat
 m:Nat
 L:Gr
 gs:List (List Int)
 l:List Int
 done:List Int
 i:Nat
abbrev YX(x:AGi):=sp 63 [(7, .ptr 0 0 [] 0),(10, .ak 3 0 (iM x.gs).length),(11, .mp 4),(13, .ah 3 (iA x.l)),(49, .ah 3 (iA x.l)),(50, .int (iA x.l).length),(51, .int x.i)] (rz x.n x.m x.L++[.row 35 (iM x.gs), .map 3 4 (jl x.done)])
def QG(x:AGi):=x.i<=x.l.length/\x.l.length<=60
def JY(x:AGi):Out (Exit×S):= .one (.exit 2,sp 63 [(7, .ptr 0 0 [] 0),(10, .ak 3 0 (iM x.gs).length),(11, .mp 4),(13, .ah 3 (iA x.l))] (rz x.n x.m x.L++[.row 35 (iM x.gs), .map 3 4 (jl (sa x.done (x.l.drop x.i)))]))
theorem Yl: ∀l k h,toInt (nth (iA l) k)=l[k]:=fun l k h=>by
 grind [aV,iA,toInt]
theorem lGi κ:aU (SG κ) 12 18 15 (aG 0 YX QG JY):=by
 refine aC (fun x=>x.l.length - x.i) ?_;rintro⟨n,m,L,c,l,done,i⟩ K ⟨e,d⟩ a;simp only at e d;rw[show(SG κ).P=Pr κ from rfl];refine Eq.mpr (xGi κ n i (dM L) (bB n m L n) (iM c) (iA l) (jl done) _ _ K) ?_;simp only[JY,Out.run] at a;rw[ae,ai,aE2,at3,aC7,jG];refine⟨fun h=>⟨h,?_⟩,fun h=>?_⟩
 ·have b:i<l.length:=by omega
  rw[Int.toNat_natCast,Yl l i b,az (n:=(i:Int)+1) (by omega) (by omega),tD];refine⟨_,?_,⟨n,m,L,c,l,bif done.contains l[i] then done else done++[l[i]],i+1⟩,?_,⟨b,d⟩,rfl,?_⟩
  ·simp only;omega
  ·simp only[YX,jG];rfl
  ·rw[aD6 b] at a
   simp only[JY,Out.run];exact a
 ·rw[aD3 (by omega)] at a
  exact a
noncomputable def IT κ:=(SG κ).an 18 15 (aG 0 YX QG JY)
theorem eGi κ:aE (IT κ):=(eCk _).an (mCk _) (lGi _)
theorem mGi κ:aj (IT κ):=(mCk _).an aK
theorem xGo κ N a ls fs gs es I n K:(vc (IT κ) 12 18 none 0 (ad (Pr κ).toProgram 18 11) (sp 63 [(7, .ptr 0 0 [] 0),(10, .ak 3 0 (iM gs).length),(11, .mp 4),(12, .int a)] (v8 N ls fs++[.row 35 (iM gs), .map 3 4 es])) (bg (IT κ) 18 11 0 I n K))=(
 letI b:=AV.ptr 0 0 []
 letI c:=AV.int
 letI d:=Obj.box
 letI e:=Obj.row
 letI f:=Obj.rows
 letI g:=Dn.Obj.map
 letI h:=AV.ak
 letI m:=Pg.toProgram (Env.P (SG κ))
 aq (decide (a>=(0:Int))) (∃(e3:Ve),letI i:=bB e3.n e3.m e3.L e3.n;letI o:=AV.agg [h 1 0 e3.n,h 2 0 (List.length i)];letI j:=iA (dY e3.n e3.m e3.L e3.a);([b 0,c a],[d 145 (AV.agg [h 1 0 N,h 2 0 fs.length]),f 35 3 ls none,e 101 fs])=([b 0,c e3.a],[d 145 o,f 35 3 (dM e3.L) none,e 101 i])/\(((0:Int)<=e3.a/\e3.a<(↑(e3.n):Int))/\e3.n<=60)/\ad m 18 15=ad m 18 15/\∃(e2:AGi),letI k:=bB e2.n e2.m e2.L e2.n;letI p:=AV.agg [h 1 0 e2.n,h 2 0 (List.length k)];sp 63 [(7,b 0),(10,h 3 0 (List.length (iM gs))),(11,AV.mp 4),(13,AV.ah 3 j),(49,AV.ah 3 j),(50,c (↑(List.length j):Int)),(51,c 0)] [d 145 o,f 35 3 (dM e3.L) none,e 101 i,e 35 (iM gs),g 3 4 es]=sp 63 [(7,b 0),(10,h 3 0 (List.length (iM e2.gs))),(11,AV.mp 4),(13,AV.ah 3 (iA e2.l)),(49,AV.ah 3 (iA e2.l)),(50,c (↑(List.length (iA e2.l)):Int)),(51,c (↑(e2.i):Int))] [d 145 p,f 35 3 (dM e2.L) none,e 101 k,e 35 (iM e2.gs),g 3 4 (jl e2.done)]/\(e2.i<=e2.l.length/\e2.l.length<=60)/\aW (decide ((List.length (iM e2.gs)+1+1)*25<=70368744177664)) (∃(e1:IQ),letI l:=bB e1.n e1.m e1.L e1.n;letI q:=AV.agg [h 1 0 e1.n,h 2 0 (List.length l)];([b 0,AV.mp 3],[d 145 p,f 35 3 (dM e2.L) none,e 101 k,g 3 4 (jl (sa e2.done (List.drop e2.i e2.l)))])=([b 0,AV.mp 3],[d 145 q,f 35 3 (dM e1.L) none,e 101 l,g 3 4 (jl e1.done)])/\(WG e1.n e1.m e1.L/\e1.n<=60)/\∃(e0:Nat),e0<n/\I e0 (sp 63 [(7,b 0),(10,h 3 0 (List.length (iM e2.gs)+1)),(11,AV.mp 4),(12,c (dL e1.n e1.m e1.L e1.done))] [d 145 q,f 35 3 (dM e1.L) none,e 101 l,e 35 (List.take (List.length (iM e2.gs)) (iM e2.gs)++[AV.ah 3 (iA e2.l)]),g 3 4 (jl e1.done)]))) (K (Exit.exit 0) (sp 63 [(10,h 0 0 (List.length (iM gs)))] [e 35 (iM gs)]))):=by kernel_rfl
theorem xGz κ ls es I n K:(vc (IT κ) 12 18 none 0 (ad (Pr κ).toProgram 18 11) (sp 63 [(7, .ptr 0 0 [] 0),(10, .ak 2 0 0),(11, .mp 3),(12, .int (-1))] (zF 0 ls++[.row 35 [], .map 3 4 es])) (bg (IT κ) 18 11 0 I n K))=(
 K (.exit 0) (sp 63 [(10,.ak 0 0 0)] [.row 35 []])):=by kernel_rfl
structure AGo where
 n:Nat
 m:Nat
 L:Gr
 gs:List (List Int)
 done:List Int
abbrev YY(x:AGo):=sp 63 [(7, .ptr 0 0 [] 0),(10, .ak 3 0 (iM x.gs).length),(11, .mp 4),(12, .int (dL x.n x.m x.L x.done))] (rz x.n x.m x.L++[.row 35 (iM x.gs), .map 3 4 (jl x.done)])
def QH(x:AGo):=WG x.n x.m x.L/\x.n<=60/\x.gs.length+Bl x.n x.done<=x.n
def JZ(x:AGo):Out (Exit×S):= .one (.exit 0,sp 63 [(10, .ak 0 0 (iM (x.gs++mm x.n x.m x.L x.done)).length)] [.row 35 (iM (x.gs++mm x.n x.m x.L x.done))])
theorem LL n m L a:(dY n m L a).length<=n:=En n m L a n
theorem lGo κ:aU (IT κ) 12 18 11 (aG 0 YY QH JZ):=by
 refine aC (fun x=>Bl x.n x.done) ?_;rintro⟨n,m,L,d,done⟩ K ⟨c,a,g⟩ b;simp only at c a g;rw[show(IT κ).P=Pr κ from rfl];refine Eq.mpr (xGo κ n (dL n m L done) (dM L) (bB n m L n) d (jl done) _ _ K) ?_;simp only[JZ,Out.run] at b;have e:=pw (n:=n) (m:=m) (L:=L) done;rw[ae,at3,aC7];refine⟨fun h=>?_,fun h=>?_⟩
 ·have f:=(qw (n:=n) (m:=m) (L:=L) (done:=done) h).1
  have i:=qM (n:=n) (m:=m) (L:=L) (done:=done) h;have j:=LL n m L (dL n m L done);rw[aC9 (by omega),aD0] at e;rw[e] at b;refine⟨⟨n,m,L,dL n m L done,0⟩,rfl,⟨f,a⟩,rfl,⟨n,m,L,d,dY n m L (dL n m L done),done,0⟩,rfl,⟨Nat.zero_le _,by simp only;omega⟩,?_⟩;rw[ai,at3];refine⟨by rw[BZ];simp only;omega,⟨n,m,L,sa done (dY n m L (dL n m L done)),0,[]⟩,rfl,⟨c,a⟩,_,i,⟨n,m,L,d++[dY n m L (dL n m L done)],sa done (dY n m L (dL n m L done))⟩,?_,⟨c,a,?_⟩,rfl,?_⟩
  ·rw[List.take_length]
   simp only[YY,TB,aE1];rfl
  ·simp only[aE1,List.length_singleton];omega
  ·simp only[JZ,Out.run,List.append_assoc,List.singleton_append]
   exact b
 grind
abbrev ao7(x:Se):=sp 63 [(7, .ptr 0 0 [] 0),(10, .ak 2 0 0),(11, .mp 3),(12, .int (-1))] (zF 0 x.ls++[.row 35 [], .map 3 4 x.es])
def VT(_:Se):Out (Exit×S):= .one (.exit 0,sp 63 [(10, .ak 0 0 0)] [.row 35 []])
theorem lGz κ:aU (IT κ) 12 18 11 (aG 0 ao7 (fun _=>True) VT):=by
 refine aC (fun _=>0) ?_;rintro⟨b,c⟩ K _ a;exact Eq.mpr (xGz _ _ _ _ _ K) a
noncomputable def EGo κ:=(IT κ).an 18 11 (tj am2 (aG 0 YY QH JZ) (aG 0 ao7 (fun _=>True) VT))
theorem eGo κ:aE (EGo κ):=(eGi _).an (mGi _) (pR (lGo _) (lGz _))
theorem mGo κ:aj (EGo κ):=(mGi _).an (lT aK aK)
theorem ng{ds b}(h:(lA ds b).2=0):wX ds b:=by
 have a:=(pb.1 h).1;simp[fB] at a;refine⟨a.1.1.1,a.1.1.2,fun r c=>?_,ac4 h⟩
 grind [rK,ba,y1,dI]
theorem Ol{ds b}(d:oN ds b)(h:(lA ds b).2=0): ∀r,r∈b->DT ds.length ds r:=by
 intro r a;have c:=nF h a;refine⟨c.1,c.2,?_,d.2.2 r a⟩;have:=(ng h).bs r a
 grind [aX]
def ub ds a:=bif decide ((lA ds a).2=0) then Cm ds.length (qQ ds a) (B0 ds a) ds a else lA ds a
def v7 ds a:=mm ds.length (qQ ds a) (B0 ds a) []
theorem yGr κ ds rs K:(a8 (EGo κ) 12 18 [eg ds rs] [] K)=(
 letI a:=AV.ptr 0 0 []
 letI b:=AV.int
 letI c:=AV.agg
 letI d:=Obj.box
 letI e:=Obj.row
 letI f:=Obj.rows
 letI g:=Dn.Obj.map
 letI h:=AV.ah
 letI i:=AV.ak
 letI j:=AV.mp
 letI l:=c [i 1 0 0,AV.nil]
 letI n:=Pg.toProgram (Env.P (IT κ))
 ∃(e4:zT),letI o:=lA e4.1 e4.2;([c [h 43 ds,h 48 rs]],aR)=([c [h 43 e4.1,h 48 e4.2]],aR)/\(e4.1.length<=9223372036854775807/\e4.2.length<=9223372036854775807/\∀(e0:AV),List.Mem e0 e4.2->bn (aa (bp 38 (dx.hl (cK e0)) (dx.bl (cK e0))))<=100000/\List.length (dx.bl (cK e0))<=100000)/\aq (Prod.snd o != (0:Int)) (K (AV.aH [AV.nil,b (Prod.fst o),b (Prod.snd o)]) []) (∃(e3:zT),letI p:=B0 e3.1 e3.2;letI s:=bB e3.1.length (qQ e3.1 e3.2) p e3.1.length;([c [h 43 ds,h 48 rs]],aR)=([c [h 43 e3.1,h 48 e3.2]],aR)/\wX e3.1 e3.2/\aq (Nat.beq e3.1.length 0) (∃(e2:Zm),([a 0,c [h 43 ds,h 48 rs]],[d 145 (c [i 1 0 e3.1.length,AV.nil]),f 35 3 (dM p) none])=([a 0,c [h 43 e2.ds,h 48 []]],[d 145 l,f 35 3 e2.ls none])/\True/\∃(e1:Se),([a 0,j 2],[d 145 l,f 35 3 e2.ls none,g 3 4 []])=([a 0,j 2],[d 145 l,f 35 3 e1.ls none,g 3 4 e1.es])/\True/\ad n 18 11=ad n 18 11/\∃(e0:Se),sp 63 [(7,a 0),(10,i 2 0 0),(11,j 3),(12,b (-1))] [d 145 l,f 35 3 e1.ls none,e 35 [],g 3 4 e1.es]=sp 63 [(7,a 0),(10,i 2 0 0),(11,j 3),(12,b (-1))] [d 145 l,f 35 3 e0.ls none,e 35 [],g 3 4 e0.es]/\True/\K (AV.aH [i 0 0 0,b 0,b 0]) [e 35 []]) (∃(e2:Vg),letI q:=bB e2.n e2.m e2.L e2.n;letI t:=c [i 1 0 e2.n,i 2 0 (List.length q)];letI r:=Cm e2.n e2.m e2.L e2.ds e2.rs;([a 0,c [h 43 ds,h 48 rs]],[d 145 (c [i 1 0 e3.1.length,i 2 0 (List.length s)]),f 35 3 (dM p) none,e 101 s])=([a 0,c [h 43 e2.ds,h 48 e2.rs]],[d 145 t,f 35 3 (dM e2.L) none,e 101 q])/\(e2.ds.length<=9223372036854775807/\e2.rs.length<=9223372036854775807/\∀(e0:AV),List.Mem e0 e2.rs->DT e2.n e2.ds e0)/\aq (Prod.snd r != (0:Int)) (K (AV.aH [AV.nil,b (Prod.fst r),b (Prod.snd r)]) []) (∃(e1:IQ),letI k:=bB e1.n e1.m e1.L e1.n;letI u:=c [i 1 0 e1.n,i 2 0 (List.length k)];([a 0,j 3],[d 145 t,f 35 3 (dM e2.L) none,e 101 q,g 3 4 []])=([a 0,j 3],[d 145 u,f 35 3 (dM e1.L) none,e 101 k,g 3 4 (jl e1.done)])/\(WG e1.n e1.m e1.L/\e1.n<=60)/\ad n 18 11=ad n 18 11/\∃(e0:AGo),letI m:=iM (e0.gs++mm e0.n e0.m e0.L e0.done);sp 63 [(7,a 0),(10,i 3 0 0),(11,j 4),(12,b (dL e1.n e1.m e1.L e1.done))] [d 145 u,f 35 3 (dM e1.L) none,e 101 k,e 35 [],g 3 4 (jl e1.done)]=sp 63 [(7,a 0),(10,i 3 0 (List.length (iM e0.gs))),(11,j 4),(12,b (dL e0.n e0.m e0.L e0.done))] [d 145 (c [i 1 0 e0.n,i 2 0 (List.length (bB e0.n e0.m e0.L e0.n))]),f 35 3 (dM e0.L) none,e 101 (bB e0.n e0.m e0.L e0.n),e 35 (iM e0.gs),g 3 4 (jl e0.done)]/\(WG e0.n e0.m e0.L/\e0.n<=60/\e0.gs.length+Bl e0.n e0.done<=e0.n)/\K (AV.aH [i 0 0 (List.length m),b 0,b 0]) [e 35 m])))):=by kernel_rfl
def UG(x:zT):List AV×List Dn.Obj:=([eg x.1 x.2],[])
def Di(x:zT):Prop:=oN x.1 x.2
def VR(x:zT):Out (AV×List Dn.Obj):= .aq (decide ((ub x.1 x.2).2=0))
 (.one (.aH [.ak 0 0 (iM (v7 x.1 x.2)).length, .int 0, .int 0],[.row 35 (iM (v7 x.1 x.2))]))
 (.one (.aH [.nil, .int (ub x.1 x.2).1, .int (ub x.1 x.2).2],[]))
theorem cGr κ:bd (EGo κ) 12 18 (aM UG Di VR):=by
 refine aQ ?_;rintro⟨ds,a⟩ K d b;refine Eq.mpr (yGr κ ds a K) ?_;have b:aq (decide ((ub ds a).2=0)) (K (.aH [.ak 0 0 (iM (v7 ds a)).length, .int 0, .int 0]) [.row 35 (iM (v7 ds a))]) (K (.aH [.nil, .int (ub ds a).1, .int (ub ds a).2]) []):=b;rw[ae,at3,aC7] at b;have d:oN ds a:=d;refine⟨(ds,a),rfl,d,?_⟩;rw[ae];by_cases c:(lA ds a).2=0
 ·refine⟨fun e=>absurd c (by simpa using e),fun _=>⟨(ds,a),rfl,ng c,?_⟩⟩
  have f:=ng c;have i:=Ol d c;rw[show ub ds a=Cm ds.length (qQ ds a) (B0 ds a) ds a by unfold ub;rw[aD1 c];rfl] at b;rw[ae];refine⟨fun e=>?_,fun e=>?_⟩
  ·obtain rfl:ds=[]:=List.eq_nil_of_length_eq_zero (Nat.eq_of_beq_eq_true e)
   obtain rfl:a=[]:=by
    cases a with
    |nil=>rfl
    |cons r a=>have:=(i r (by simp)).hd;simp only[List.length_nil] at this;omega
   refine⟨⟨dM (B0 [] []),[]⟩,rfl,trivial,⟨_,[]⟩,rfl,trivial,rfl,⟨_,_⟩,rfl,trivial,?_⟩;have g:=b.1 rfl;have j:v7 [] []=[]:=by
    unfold v7;rw[pw];rfl
   rw[j] at g;exact g
  ·refine⟨⟨ds.length,qQ ds a,B0 ds a,ds,a,0⟩,rfl,⟨d.1,d.2.1,i⟩,?_⟩
   rw[ae];refine⟨fun h=>b.2 (by simpa using h),fun h=>?_⟩;have g:=b.1 (by simpa using h);exact⟨⟨ds.length,qQ ds a,B0 ds a,[],0,[]⟩,rfl,⟨f.wg,f.hd⟩,rfl,⟨ds.length,qQ ds a,B0 ds a,[],[]⟩,rfl,⟨f.wg,f.hd,by simp only[List.length_nil,Nat.zero_add];exact DJ _ _⟩,g⟩
 ·rw[show ub ds a=lA ds a by unfold ub;rw[aC9 c];rfl] at b
  exact⟨fun _=>b.2 c,fun e=>absurd (by simpa using e) c⟩
noncomputable def EGr κ:=(EGo κ).ax 18 (aM UG Di VR)
theorem eGr κ:aE (EGr κ):=(eGo _).ax (mGo _) (cGr _)
theorem mGr κ:aj (EGr κ):=(mGo _).ax aJ
noncomputable abbrev EHg(κ:Kp):Env:=EGr κ
theorem eHg(κ:Kp):aE (EHg κ):=eGr κ
theorem mHg(κ:Kp):aj (EHg κ):=mGr κ
end Go.Proofs.YtioeffnadipbaaaGreatDoor
namespace Go.Proofs.YtioeffnadipbaaaGreatDoor
open Go Go.Dn Go.Rl Go.Proofs
end Go.Proofs.YtioeffnadipbaaaGreatDoor
