import Derived.Test.YtioeffnadipbaaaGreatDoorDeP7
import Derived.Test.YtioeffnadipbaaaGreatDoorDoI
namespace Go.Proofs.YtioeffnadipbaaaGreatDoor
open Go Go.Dn Go.Rl Go.Proofs
mutual
def Aw:Tm->AV
 | .mk op s n l=> .agg [.int op, .lit (.string s), .int n, .ad 38 (cr l)]
def cr:List Tm->List AV
 |[]=>[]
 |t::l=>Aw t::cr l
end
mutual
theorem B2: ∀t:Tm,bX (Aw t)=t
 | .mk op s n l=>by
  have:=sX l
  rw[Aw,pA,this]
theorem sX: ∀l:List Tm,ae (cr l)=l
 |[]=>rfl
 |t::l=>by
  have h1:=B2 t;have h2:=sX l;simp only[ae,cr,ao9] at h2⊢;rw[h1,h2]
end
theorem pO: ∀l:List Tm,(cr l).length=l.length
 |[]=>rfl
 |_::l=>by simp[cr,pO l]
theorem yU: ∀a b:List Tm,cr (a++b)=cr a++cr b
 |[],_=>rfl
 |_::a,b=>by simp[cr,yU a b]
abbrev I4(t:AT):AV:= .agg [.int t.op, .lit (.string t.s), .int t.n, .ad 38 (cr (ae t.l))]
structure SS where
 dU:List Int
 cn:List AV
 cx:List Int
 binds:List ByteArray
 cy:List Int
 eqs:List ByteArray
def mu(s:ByteArray)(l:List AV):Bool:=decide (ee s l 0>=0)
def qP(bd:List AV)(t:AT):Bool:=(t.op==1)&& !mu t.s bd
def my(bd:List AV)(s:SS)(e:Int×AT):SS:=
 bif !qP bd e.2 then{s with dU:=s.dU++[e.1],cn:=s.cn++[I4 e.2]}
 else bif mu e.2.s (strs s.binds) then{s with cy:=s.cy++[e.1],eqs:=s.eqs++[e.2.s]}
 else{s with cx:=s.cx++[e.1],binds:=s.binds++[e.2.s]}
def Kk:SS:=⟨[],[],[],[],[],[]⟩
def dn:List AV->Int->List (Int×AT)
 |[],_=>[]
 |t::l,i=>bif decide (toInt (af t 0)=4) then dn l (i+1) else(i,dM t)::dn l (i+1)
def CH(l:List (Int×AT)):List AV:=l.map fun e=> .aK [.int e.1,cD e.2]
def fW(bd:List AV)(l:List (Int×AT)):SS:=l.foldl (my bd) Kk
theorem rU: ∀(l:List AV) (i:Int),(dn l i).length<=l.length
 |[],_=>Nat.le_refl _
 |t::l,i=>by
  have:=rU l (i+1)
  rw[dn];cases decide (toInt (af t 0)=4) with
  |true=>rw[an9];simp only[List.length_cons];omega
  |false=>rw[an7];simp only[List.length_cons];omega
def SS.le(s:SS)(n:Nat):Prop:=s.dU.length<=n/\s.cn.length<=n/\s.cx.length<=n/\s.binds.length<=n/\s.cy.length<=n/\s.eqs.length<=n
theorem N6:Kk.le 0:=⟨Nat.le_refl _,Nat.le_refl _,Nat.le_refl _,Nat.le_refl _,Nat.le_refl _,Nat.le_refl _⟩
theorem PG{bd:List AV}{s:SS}{n:Nat}(h:s.le n)(e:Int×AT):(my bd s e).le (n+1):=by
 obtain⟨h1,h2,h3,h4,h5,h6⟩:=h;unfold my SS.le;cases !qP bd e.2 with
 |true=>simp only[an9,ao6,List.length_singleton];omega
 |false=>
  cases mu e.2.s (strs s.binds) with
  |true=>simp only[an9,an7,ao6,List.length_singleton];omega
  |false=>simp only[an7,ao6,List.length_singleton];omega
theorem N8{bd:List AV}: ∀(l:List (Int×AT)) {s:SS} {n:Nat},s.le n->(l.foldl (my bd) s).le (n+l.length)
 |[],_,_,h=>h
 |e::l,s,n,h=>by
  have:=N8 (bd:=bd) l (PG (bd:=bd) h e)
  rw[List.foldl_cons,List.length_cons];rw[show n+(l.length+1)=n+1+l.length by omega];exact this
abbrev aj3(op na rl:Int)(s:SS)(t:ByteArray)(X Y:AV):AV:= .agg [.int op, .int na, .int rl, .ad 3 (iA s.dU), .ad 38 s.cn, .ad 3 (iA s.cx), .ad 9 (strs s.binds), .ad 3 (iA s.cy), .ad 9 (strs s.eqs), .lit (.string t),X,Y]
def zT:AT:=⟨0,ByteArray.mk #[],0,[]⟩
def mD(t:AT):AT:=⟨t.op,t.s,t.n,cr (ae t.l)⟩
structure SD where
 op:Int
 na:Int
 rl:Int
 q:SS
 t:ByteArray
 X:AT
 Y:AT
abbrev Q2(d:SD):AV:=aj3 d.op d.na d.rl d.q d.t (cD d.X) (cD d.Y)
def ud(ds bd:List AV)(rel:ByteArray)(l:List AV)(op:Int)(u v:AT):SD:=
 bif op==2 then⟨2,0,ck rel ds,fW bd (dn l 0),ByteArray.mk #[],zT,zT⟩
 else bif op==1 then⟨1,0,ck rel ds,fW bd (dn l 0),ByteArray.mk #[],zT,zT⟩
 else bif op==3 then(bif qP bd u then⟨4,0,0,Kk,u.s,mD v,zT⟩ else bif qP bd v then⟨4,0,0,Kk,v.s,mD u,zT⟩ else⟨3,op,0,Kk,ByteArray.mk #[],mD u,mD v⟩)
 else bif op==4||(op==5||op==6) then⟨3,op,0,Kk,ByteArray.mk #[],mD u,mD v⟩
 else bif qP bd u then⟨5,op,ck rel ds,fW bd (dn l 0),u.s,zT,v⟩
 else⟨5,op,ck rel ds,fW bd (dn l 0),ByteArray.mk #[],u,v⟩
def jt(ds bd:List AV)(l:AV):SD:=ud ds bd (toStr (af (af l 1) 0)) (aa (af (af l 1) 1)) (toInt (af l 0)) (dM (af l 2)) (dM (af l 3))
structure QD where
 rel:Int
 steps:List AV
 out:List AV
 delta:Int
abbrev qA(q:QD):AV:= .agg [.int q.rel, .ad 40 q.steps, .ad 38 q.out, .int q.delta]
def Qb(a b n:Int):Bool:=(decide (0<=a)&&decide (a<n))&&(decide (0<=b)&&decide (b<n))
def Ec(ds rs:List AV)(a b n:Int):Int:=bif decide ((jy ds rs).2=0) then(bif Qb a b n then 0 else 2) else(jy ds rs).2
theorem PN{ds rs:List AV}{a b n:Int}(h:Ec ds rs a b n=0):(jy ds rs).2=0/\(0<=a/\a<n)/\0<=b/\b<n:=by
 unfold Ec at h;by_cases hc:(jy ds rs).2=0
 ·rw[an8 hc,an9] at h
  cases e:Qb a b n with
  |true=>
   simp only[Qb,an3,an2] at e;exact⟨hc,e⟩
  |false=>rw[e] at h;cases h
 ·rw[an6 hc,an7] at h
  exact absurd h hc
theorem WK{ds rs:List AV}{a b n:Int}(hc:(jy ds rs).2=0)(ha:0<=a/\a<n)(hb:0<=b/\b<n):Ec ds rs a b n=0:=by
 unfold Ec;rw[an8 hc,an9,show Qb a b n=true by simp[Qb,ha,hb]];rfl
abbrev WS:List Nat:=P8
noncomputable def Vp(κ:Kp):EB:=EB.calm ⟨ECs κ,eCs κ,mCs κ⟩ [888888]
end Go.Proofs.YtioeffnadipbaaaGreatDoor
namespace Go.Proofs.YtioeffnadipbaaaGreatDoor
open Go Go.Dn Go.Rl Go.Proofs
attribute [local irreducible] a8 vc
set_option maxRecDepth 20000
def Km(l:List AV):List AV×List Dn.Obj:=([.ad 38 l],[])
def NJ(n:Nat)(l:List AV):Prop:=aM (ae l)=n/\n<=100000
def Hm(l:List AV):Out (AV×List Dn.Obj):= .one (.ad 38 (cr (ae l)),[])
def QO(n:Nat):cO:=aX Km (NJ n) Hm
noncomputable def Pp(κ:Kp)(r:Nat):Env:=(Vp κ).E.aB 64 fun args st K=>∃m,m<r/\QO m args st K
theorem xCp(κ:Kp)(r:Nat)(l:List AV)(i:Int)(xs:List AV)(k:Nat)(I:Nat->S->Prop)(n:Nat)(K:Exit->S->Prop):(vc (Pp κ r) 12 64 none 0 (ah (Pr κ).toProgram 64 3) (sp 19 [(3, .ax 0 0 k),(6, .ad 38 l),(7, .int l.length),(8, .int i)] [.row 38 xs]) (bh (Pp κ r) 64 3 0 I n K))=(
 letI a:=nth l i.toNat
 letI b:=i<(↑(l.length):Int)
 an (decide b) (aG (decide ((0:Int)<=i)&&decide b) (∃(e2:Nat),e2<r/\∃(e1:List AV),([AV.ad 38 (aa (af a 3))],[])=Km e1/\NJ e2 e1/\aG
 (decide ((k+1+1)*57<=70368744177664)) (∃(e0:Nat),e0<n/\I e0 (sp 19 [(3,AV.ax 0 0 (k+1)),(6,AV.ad 38 l),(7,AV.int (↑(l.length):Int)),(8,
 AV.int (IntKind.wrap IntKind.i64 (i+(1:Int))))] [Obj.row 38 (List.take k xs++[AV.agg [AV.int (toInt (af a 0)),AV.str (toStr (af a 1)),AV.int (toInt
 (af a 2)),AV.ad 38 (cr (ae e1))]])])))) (K (Exit.exit 0) (sp 19 [(3,AV.ax 0 0 k)] [Obj.row 38 xs]))):=by kernel_rfl
theorem TM(x:AV):Aw (bX x)= .agg [.int (toInt (af x 0)), .lit (.string (toStr (af x 1))), .int (toInt (af x 2)), .ad 38 (cr (ae (aa (af x 3))))]:=by
 rw[cF,Aw]
theorem LJ(l:List AV)(i:Nat)(h:i<l.length):cr (ae (l.take (i+1)))=cr (ae (l.take i))++[Aw (bX (nth l i))]:=by
 rw[List.take_add_one,ao5 h,←aJ l i h];simp[ae,yU,cr]
theorem PW(l:List AV):(cr (ae l)).length=l.length:=by rw[pO,dz]
abbrev H5(a:List AV×Nat):S:=sp 19 [(3, .ax 0 0 (cr (ae (a.1.take a.2))).length),(6, .ad 38 a.1),(7, .int a.1.length),(8, .int a.2)] [.row 38 (cr (ae (a.1.take a.2)))]
def BK(r:Nat)(a:List AV×Nat):Prop:=a.2<=a.1.length/\a.1.length<=100000/\aM (ae (a.1.drop a.2))<=r/\r<=100000
def MY(a:List AV×Nat):Out (Exit×S):= .one (.exit 0,sp 19 [(3, .ax 0 0 (cr (ae a.1)).length)] [.row 38 (cr (ae a.1))])
theorem lCp(κ:Kp)(r:Nat):aP (Pp κ r) 12 64 3 (aI 0 H5 (BK r) MY):=by
 refine aD (fun a=>a.1.length - a.2) ?_;rintro⟨l,i⟩ K ⟨h1,h2,h3,h4⟩ ho;simp only at h1 h2 h3;rw[show(Pp κ r).P=Pr κ from rfl];refine Eq.mpr (xCp κ r l i (cr (ae (l.take i))) (cr (ae (l.take i))).length _ _ K) ?_;rw[ag,an2,an4];refine⟨fun h=>ai.2 ⟨by simp;omega,?_⟩,fun h=>?_⟩
 ·have hk:i<l.length:=by omega
  have hc:=GF l i hk;have he:=LJ l i hk;rw[Int.toNat_natCast];refine⟨_,?_,aa (af (nth l i) 3),rfl,⟨rfl,by omega⟩,ai.2 ⟨?_,_,?_,(l,i+1),?_,⟨hk,h2,by simp only;omega,h4⟩,rfl,ho⟩⟩
  ·simp only[Nat.lt_iff_add_one_le];omega
  ·rw[an2,PW,List.length_take];omega
  ·simp only;omega
  ·simp only[H5]
   rw[he,←TM,List.take_length,ay (n:=(i:Int)+1) (by omega) (by omega),ao6];rfl
 ·obtain rfl:i=l.length:=by omega
  rw[List.take_length];exact ho
noncomputable def Vs(κ:Kp)(r:Nat):Env:=(Pp κ r).aq 64 3 (aI 0 H5 (BK r) MY)
theorem yCp(κ:Kp)(r:Nat)(l:List AV)(K:AV->List Dn.Obj->Prop):(a8 (Vs κ r) 12 64 [.ad 38 l] [] K)=(
 letI a:=Pg.toProgram (Env.P (Pp κ r))
 ah a 64 3=ah a 64 3/\∃(e0:List AV×Nat),sp 19 [(3,AV.ax 0 0 0),(6,AV.ad 38 l),(7,AV.int (↑(l.length):Int)),(8,AV.int 0)] [Obj.row 38 []]=H5
 e0/\BK r e0/\K (AV.ad 38 (List.take (List.length (cr (ae e0.1))) (List.drop 0 (cr (ae e0.1))))) []):=by kernel_rfl
theorem eCq(κ:Kp)(r:Nat)(hp: ∀args st K,(∃m,m<r/\QO m args st K)->bt (Pr κ) 64 args st K):aF (Vs κ r)/\aj (Vs κ r)/\(Vs κ r).P=Pr κ:=
 have h:aF (Pp κ r):=(Vp κ).ok.eX hp;have hm:aj (Pp κ r):=(Vp κ).mono.aB (fun _ _ _ _ hK ⟨m,h1,h2⟩=>⟨m,h1,aZ _ _ _ _ hK h2⟩)
 ⟨h.aq hm (lCp κ r),hm.aq a0,rfl⟩
theorem cCp(κ:Kp)(r:Nat):bq (Vs κ r) 12 64 (QO r):=by
 refine a7 ?_;rintro l K ⟨h1,h2⟩ ho;refine Eq.mpr (yCp κ r l K) ?_;have:=eu (ae l)
 rw[dz] at this;refine⟨rfl,(l,0),rfl,⟨Nat.zero_le _,by simp only;omega,by simp only[ao2];omega,h2⟩,?_⟩;simp only[Hm,Out.run] at ho;rw[ao2,List.take_length];exact ho
def BL(l:List AV):Prop:=aM (ae l)<=100000
theorem qCp(κ:Kp): ∀args st K,aX Km BL Hm args st K->bt (Pr κ) 64 args st K:=by
 rintro args st K ⟨l,h1,h2,h3⟩;exact aF.nf QO (Vs κ) (eCq κ) (cCp κ) (aM (ae l)) args st K ⟨l,h1,⟨rfl,h2⟩,h3⟩
noncomputable def SL(κ:Kp):EB:=⟨(Vp κ).E.aB 64 (aX Km BL Hm),(Vp κ).ok.eX (qCp κ),(Vp κ).mono.aB aZ⟩
structure VJ where
 rel:ByteArray
 l:List AV
 xs:List AV
 i:Nat
abbrev Oj(x:VJ):S:=sp 24 [(0, .bJ 0),(6, .ad 38 x.l),(7, .int x.l.length),(8, .int x.i)] [.ext (some x.xs), .box 45 (.agg [.lit (.string x.rel), .ad 38 x.l])]
theorem xCl(κ:Kp)(x:VJ)(I:Nat->S->Prop)(n:Nat)(K:Exit->S->Prop):(vc (SL κ).E 12 188 none 2 (ah (Pr κ).toProgram 188 1) (Oj x) (bh (SL κ).E 188 1 2 I n K))=(
 letI a:=AV.int
 letI b:=Obj.box
 letI c:=Obj.ext
 letI d:=nth x.l (Int.toNat (↑(x.i):Int))
 letI e:=AV.agg [AV.str x.rel,AV.ad 38 x.l]
 letI f:=IntKind.wrap IntKind.i64 ((↑(x.i):Int)+(1:Int))
 letI g:=(↑(x.i):Int)<(↑(x.l.length):Int)
 an (decide g) (aG (true&&decide g) (an (toInt (af d 0) != (4:Int)) (∃(e1:List AV),x.xs=AV.aK [a (↑(x.i):Int),AV.agg [a (toInt (af d
 0)),AV.str (toStr (af d 1)),a (toInt (af d 2)),AV.ad 38 (aa (af d 3))]]::e1/\(∃(e0:Nat),e0<n/\I e0 (sp 24 [(0,AV.bJ 0),(6,AV.ad 38 x.l),
 (7,a (↑(x.l.length):Int)),(8,a f)] [c (some e1),b 45 e]))/\K Exit.ret (sp 24 [] [c none,b 45 e])) (∃(e0:Nat),e0
 <n/\I e0 (sp 24 [(0,AV.bJ 0),(6,AV.ad 38 x.l),(7,a (↑(x.l.length):Int)),(8,a f)] [c (some x.xs),b 45 e])))) (K (Exit.exit 0)
 (sp 24 [] [c (some x.xs),b 45 e]))):=by kernel_rfl
def FW(x:VJ):Prop:=x.l.length<=100000/\x.i<=x.l.length/\x.xs=CH (dn (x.l.drop x.i) x.i)
def R2(x:VJ):Out (Exit×S):= .all (fun _:Bool=>True) fun b=> .an b
 (.one (.exit 0,sp 24 [] [.ext (some []), .box 45 (.agg [.lit (.string x.rel), .ad 38 x.l])]))
 (.one (.ret,sp 24 [] [.ext none, .box 45 (.agg [.lit (.string x.rel), .ad 38 x.l])]))
theorem LG(l:List AV)(i:Nat)(h:i<l.length):dn (l.drop i) i=bif decide (toInt (af (nth l i) 0)=4) then dn (l.drop (i+1)) ((i+1:Nat):Int) else((i:Int),dM (nth l i))::dn (l.drop (i+1)) ((i+1:Nat):Int):=by
 rw[ao3 h,←aJ l i h,dn];rfl
theorem lCl(κ:Kp):aP (SL κ).E 12 188 1 (aI 2 Oj FW R2):=by
 refine aD (fun x=>x.l.length - x.i) ?_;rintro⟨rel,l,xs,i⟩ K ⟨h1,h2,h3⟩ ho;simp only at h1 h2 h3;rw[show(SL κ).E.P=Pr κ from rfl];refine Eq.mpr (xCl κ ⟨rel,l,xs,i⟩ _ _ K) ?_;have ho1:=ho true trivial;have ho2:=ho false trivial;simp only[Out.run,an] at ho1 ho2;rw[ag,an2,an4];refine⟨fun h=>ai.2 ⟨by simp at h⊢;omega,?_⟩,fun h=>?_⟩
 ·have hk:i<l.length:=by simp only at h;omega
  have hd:=LG l i hk;rw[hd] at h3;have next: ∀ys,ys=CH (dn (l.drop (i+1)) ((i+1:Nat):Int))->∃m,m<l.length - i/\gq Oj FW R2 (fun x=>x.l.length - x.i) K m (Oj ⟨rel,l,ys,i+1⟩):=fun ys hy=>
   ⟨_,by simp only;omega,⟨rel,l,ys,i+1⟩,rfl,⟨h1,hk,hy⟩,rfl,ho⟩
  simp only[Int.toNat_natCast];rw[ay (n:=(i:Int)+1) (by omega) (by omega),ag];refine⟨fun e=>?_,fun e=>?_⟩
  ·rw[an6 (by simpa using e),an7] at h3
   exact⟨_,h3,next _ rfl,ho2⟩
  ·rw[an8 (by simpa using e),an9] at h3
   exact next _ h3
 ·have hk:i=l.length:=by simp only at h;omega
  rw[ao0 (by omega)] at h3;have h3:xs=[]:=h3;subst h3;exact ho1
noncomputable def BCk(κ:Kp):EB:=(SL κ).loop (lCl κ)
theorem yCl(κ:Kp)(l xs:List AV)(rel:ByteArray)(K:AV->List Dn.Obj->Prop):(a8 (BCk κ).E 12 188 [.bJ 0, .ptr 1 0 [] 0] [.ext (some xs), .box 45 (.agg [.lit (.string rel), .ad 38 l])] K)=(
 letI a:=Pg.toProgram (Env.P (EB.E (SL κ)))
 ah a 188 1=ah a 188 1/\∃(e1:VJ),letI b:=AV.agg [AV.str e1.rel,AV.ad 38 e1.l];sp 24 [(0,AV.bJ 0),(6,AV.ad 38 l),(7,AV.int (↑(l.length):Int)),(8,AV.int 0)] [Obj.ext (some xs),Obj.box 45 (AV.agg [AV.str rel,AV.ad 38 l])]=Oj e1/\FW e1/\∀(e0:Bool),True->an e0 (K (AV.aK []) [Obj.ext (some []),Obj.box 45 b]) (K (AV.aK []) [Obj.ext none,Obj.box 45 b])):=by kernel_rfl
abbrev AP3:=ByteArray×List AV
def Sk(x:AP3):List AV×List Dn.Obj:=([.bJ 0, .ptr 1 0 [] 0],[.ext (some (CH (dn x.2 0))), .box 45 (.agg [.lit (.string x.1), .ad 38 x.2])])
def HN(x:AP3):Prop:=x.2.length<=100000
def MV(_:AP3):Out (AV×List Dn.Obj):= .all (fun st'=>uT st') fun st'=> .one (.aK [],st')
theorem cCl(κ:Kp):bq (BCk κ).E 12 188 (aX Sk HN MV):=by
 refine a7 ?_;rintro⟨rel,l⟩ K h1 ho;refine Eq.mpr (yCl κ l (CH (dn l 0)) rel K) ?_;refine⟨rfl,⟨rel,l,CH (dn l 0),0⟩,rfl,⟨h1,Nat.zero_le _,rfl⟩,fun y _=>?_⟩;cases y
 ·exact ho _ trivial
 ·exact ho _ trivial
noncomputable def BCl(κ:Kp):EB:=(BCk κ).call (cCl κ)
theorem al9(κ:Kp)(t:AT)(K:AV->List Dn.Obj->Prop):(a8 (BCl κ).E 12 111 [cD t] [] K)=(
 ∃(a:List AV),([AV.ad 38 t.l],[])=Km a/\BL a/\K (AV.agg [AV.int t.op,AV.str t.s,AV.int t.n,AV.ad 38 (cr (ae a))]) []):=by kernel_rfl
def iV(t:AT):List AV×List Dn.Obj:=([cD t],[])
def Uk(t:AT):Out (AV×List Dn.Obj):= .one (I4 t,[])
theorem aa9(κ:Kp):bq (BCl κ).E 12 111 (aX iV (fun t=>t.tm.eT<=100000) Uk):=by
 refine a7 ?_;rintro t K h ho;refine Eq.mpr (al9 κ t K) ?_;have hc:t.tm.eT=1+aM (ae t.l):=by rw[AT.tm,Tm.eT]
 exact⟨t.l,rfl,by show aM (ae t.l)<=100000;omega,ho⟩
noncomputable def Vl(κ:Kp):EB:=(((BCl κ).call (aa9 κ)).CV [111]).calm [111,64,63]
structure uq where
 ds:List AV
 rs:List AV
 bd:List AV
 rel:ByteArray
 l:List AV
 op:Int
 na:Int
 rl:Int
 s:ByteArray
 u:AT
 v:AT
abbrev VD(x:uq):Dn.Obj:= .box 122 (.agg [lj x.ds x.rs, .ad 9 x.bd])
abbrev WC(x:uq):Dn.Obj:= .box 45 (.agg [.lit (.string x.rel), .ad 38 x.l])
abbrev UH(x:uq)(rl:Int)(a b c d e f:AV):Dn.Obj:= .box 40 (.agg [.int x.op, .int x.na, .int rl,a,b,c,d,e,f, .lit (.string x.s),cD x.u,cD x.v])
noncomputable abbrev T7(κ:Kp)(x:uq):Dn.Obj:=
 .loop (iE (Pr κ).toProgram 117 3 .ready none (ig (bL 102) [(0, .ptr 0 0 [] 0),(1, .agg [.lit (.string x.rel), .ad 38 x.l]),(2, .ptr 1 0 [] 0),(3, .ptr 2 0 [] 0),(4, .ptr 3 0 [] 0),(5, .ptr 4 0 [] 0),(8, .aK [.int (ck x.rel x.ds), .bool (fL x.rel x.ds)]),(9, .ptr 1 0 [] 0),(10, .ptr 0 0 [] 0),(11, .ptr 0 0 [] 0),(12, .ptr 0 0 [0] 0),(13, .ptr 0 0 [0,0] 0),(14, .ad 43 x.ds),(15, .ptr 3 0 [0] 0),(16, .lit (.string x.rel)),(17, .aK [.int (ck x.rel x.ds), .bool (fL x.rel x.ds)]),(18, .int (ck x.rel x.ds)),(19, .bool (fL x.rel x.ds)),(20, .ptr 1 0 [] 0),(21, .ptr 1 0 [2] 2),(22, .agg [.lit (.string x.rel), .ad 38 x.l]),(23, .bp 188 [.ptr 5 0 [] 0])]))
noncomputable abbrev pw(κ:Kp)(x:uq):List Dn.Obj:=[VD x,UH x (ck x.rel x.ds) .nil .nil .nil .nil .nil .nil, .box 120 (.ptr 0 0 [] 0),WC x, .box 185 (.ptr 1 0 [] 0),WC x,T7 κ x]
noncomputable abbrev Zg(κ:Kp)(x:uq):List Dn.Obj:=[VD x,UH x (ck x.rel x.ds) .nil .nil .nil .nil .nil .nil, .box 120 (.ptr 0 0 [] 0),WC x, .box 185 (.ptr 1 0 [] 0), .dead,T7 κ x]
noncomputable abbrev mb(κ:Kp)(x:uq)(q:SS):List Dn.Obj:=[VD x,UH x (ck x.rel x.ds) (.ax 7 0 (iA q.dU).length) (.ax 8 0 q.cn.length) (.ax 9 0 (iA q.cx).length) (.ax 10 0 (strs q.binds).length) (.ax 11 0 (iA q.cy).length) (.ax 12 0 (strs q.eqs).length), .box 120 (.ptr 0 0 [] 0),WC x, .box 185 (.ptr 1 0 [] 0), .dead,T7 κ x,
 .row 3 (iA q.dU), .row 38 q.cn, .row 3 (iA q.cx), .row 9 (strs q.binds), .row 3 (iA q.cy), .row 9 (strs q.eqs)]
def flA:List (Nat×Nat×TypeId):=[(1,3,3),(1,4,38),(1,5,3),(1,6,9),(1,7,3),(1,8,9)]
theorem sAm(κ:Kp)(x:uq)(Q:List Dn.Obj->Prop):(tidy (Pr κ).toProgram 7 (ei (pw κ x) (dc (pw κ x) [.ptr 5 0 [] 0])) Q)=(
 letI a:=AV.ptr 0 0 []
 letI b:=AV.int
 letI c:=AV.ptr
 letI d:=AV.agg
 letI e:=AV.str
 letI f:=Obj.box
 letI g:=AV.ad
 letI h:=AV.nil
 letI i:=ck x.rel x.ds
 letI j:=fL x.rel x.ds
 Q [f 122 (d [d [g 43 x.ds,g 48 x.rs],g 9 x.bd]),f 40 (d [b x.op,b x.na,b i,h,h,h,
 h,h,h,e x.s,cD x.u,cD x.v]),f 120 (a 0),f 45 (d [e x.rel,g 38 x.l]),f 185 (c 1 0
 [] 0),Obj.dead,Dn.Obj.loop (iE Tryz.prog 117 3 LoopState.ready none (ig (bL 102) [(0,a 0),(1,d [e x.rel,g 38 x.l]),(2,c 1
 0 [] 0),(3,c 2 0 [] 0),(4,c 3 0 [] 0),(5,c 4 0 [] 0),(8,AV.aK [b i,AV.bool j]),(9,c 1 0 [] 0),(10,a 0),(11,
 a 0),(12,c 0 0 [0] 0),(13,c 0 0 [0,0] 0),(14,g 43 x.ds),(15,c 3 0 [0] 0),(16,e x.rel),(17,AV.aK [b i,
 AV.bool j]),(18,b i),(19,AV.bool j),(20,c 1 0 [] 0),(21,c 1 0 [2] 2),(22,d [e x.rel,g 38 x.l]),(23,AV.bp 188
 [c 5 0 [] 0])]))]):=by kernel_rfl
theorem rAm(κ:Kp)(x:uq)(q:SS)(i:Int)(t:AT)(Q:List Dn.Obj->Prop)(K2:List Dn.Obj->Prop):(jo (vc (Vl κ).E 12) 6 [.int i,cD t] (mb κ x q) (fun r st''=>match r with| .lit (.bool true)=>tidy (Pr κ).toProgram 7 st'' Q| .lit (.bool false)=>K2 st''|_=>False))=(
 letI a:=AV.ptr 0 0 []
 letI b:=AV.int
 letI c:=AV.ptr
 letI d:=AV.agg
 letI e:=AV.str
 letI f:=Obj.box
 letI g:=Obj.row
 letI h:=AV.ad
 letI j:=AV.ax
 letI A:=decide ((List.length (iA q.cy)+1+1)*9<=70368744177664)
 letI B:=decide ((List.length (iA q.cx)+1+1)*9<=70368744177664)
 letI n:=strs q.binds
 letI C:=d [d [h 43 x.ds,h 48 x.rs],h 9 x.bd]
 letI D:=d [e x.rel,h 38 x.l]
 letI k:=strs q.eqs
 letI l:=ck x.rel x.ds
 letI m:=List.length n
 letI o:=List.length (iA q.dU)
 letI p:=List.length (iA q.cy)
 letI s:=List.length (iA q.cx)
 letI z:=List.take m (List.drop 0 n)
 letI u:=List.length k
 letI v:=a 0
 letI w:=c 1 0 [] 0
 letI y:=fL x.rel x.ds
 letI F:=iE Tryz.prog 117 3 LoopState.ready none (ig (bL 102) [(0,a 0),(1,d [e x.rel,h 38 x.l]),(2,c 1 0 [] 0),(3,
  c 2 0 [] 0),(4,c 3 0 [] 0),(5,c 4 0 [] 0),(8,AV.aK [b l,AV.bool y]),(9,c 1 0 [] 0),(10,a 0),(11,c 0 0
  [] 0),(12,c 0 0 [0] 0),(13,c 0 0 [0,0] 0),(14,h 43 x.ds),(15,c 3 0 [0] 0),(16,e x.rel),(17,AV.aK [b l,AV.bool
  y]),(18,b l),(19,AV.bool y),(20,c 1 0 [] 0),(21,c 1 0 [2] 2),(22,d [e x.rel,h 38 x.l]),(23,AV.bp 188 [c 5 0
  [] 0])])
 letI G:=aG (decide ((List.length n+1+1)*17<=70368744177664)) (Q [f 122 C,f 40 (d [b x.op,b x.na,b l,j 7 0
  o,j 8 0 q.cn.length,j 9 0 (List.length (iA q.cx)+1),j 10 0 (List.length n+1),j 11 0 p,j 12 0 u,e x.s,cD x.u,cD
  x.v]),f 120 v,f 45 D,f 185 w,Obj.dead,Dn.Obj.loop F,g 3 (iA q.dU),g 38 q.cn,g 3 (List.take s (iA q.cx)++
  [b i]),g 9 (List.take m n++[e t.s]),g 3 (iA q.cy),g 9 k])
 letI H:=aG (decide ((List.length k+1+1)*17<=70368744177664)) (Q [f 122 C,f 40 (d [b x.op,b x.na,b l,j 7 0
  o,j 8 0 q.cn.length,j 9 0 s,j 10 0 m,j 11 0 (List.length (iA q.cy)+1),j 12 0 (List.length k+1),e x.s,cD x.u,cD
  x.v]),f 120 v,f 45 D,f 185 w,Obj.dead,Dn.Obj.loop F,g 3 (iA q.dU),g 38 q.cn,g 3 (iA q.cx),g 9 n,
  g 3 (List.take p (iA q.cy)++[b i]),g 9 (List.take u k++[e t.s])])
 letI I:=aG (decide ((List.length (iA q.dU)+1+1)*9<=70368744177664)) (∃(e0:AT),([cD t],[])=iV e0/\Tm.eT (AT.tm e0)<=100000/\aG (decide
  ((q.cn.length+1+1)*57<=70368744177664)) (Q [f 122 C,f 40 (d [b x.op,b x.na,b l,j 7 0 (List.length (iA q.dU)+
  1),j 8 0 (q.cn.length+1),j 9 0 s,j 10 0 m,j 11 0 p,j 12 0 u,e x.s,cD x.u,cD x.v]),f 120 v,f 45 D,
  f 185 w,Obj.dead,Dn.Obj.loop F,g 3 (List.take o (iA q.dU)++[b i]),g 38 (List.take q.cn.length q.cn++[d [b e0.op,
  e e0.s,b e0.n,h 38 (cr (ae e0.l))]]),g 3 (iA q.cx),g 9 n,g 3 (iA q.cy),g 9 k]))
 an (t.op==(1:Int)) (aG (decide (x.bd.length<=9223372036854775807)) (an (!!decide (ee t.s x.bd (0:Int)>=(0:Int))) I (aG (decide (List.length z<=
 9223372036854775807)) (an (decide (ee t.s z (0:Int)>=(0:Int))) ((aG A H/\aG A H)/\aG A H) ((aG B G/\aG B G)/\aG B G))))) I):=by kernel_rfl
theorem mAm(κ:Kp)(x:uq):sj flA (Zg κ x)=mb κ x Kk:=by kernel_rfl
theorem oAm(κ:Kp)(x:uq):qq (pw κ x) [.ptr 5 0 [] 0]=true:=by kernel_rfl
theorem kAm(κ:Kp)(x:uq)(xs:List AV):(AV.bJ 0::gG (kx (dc (pw κ x) [.ptr 5 0 [] 0])) [.ptr 5 0 [] 0],Obj.ext (some xs)::iy (kx (dc (pw κ x) [.ptr 5 0 [] 0])) (iw (pw κ x) (dc (pw κ x) [.ptr 5 0 [] 0])))=([.bJ 0, .ptr 1 0 [] 0],[.ext (some xs),WC x]):=by kernel_rfl
theorem Ar: ∀{l:List AV} {x:AV},x∈l->(bX x).eT<=aM (ae l)
 | a::l,x,h=>by
  rw[ae,ao9,aM];rcases List.mem_cons.1 h with rfl|h
  ·omega
  ·have:=Ar h
   rw[ae] at this;omega
theorem As: ∀{l:List AV} {i:Int} {e:Int×AT},e∈dn l i->∃x,x∈l/\e.2=dM x
 |[],_,_,h=>by simp[dn] at h
 | a::l,i,e,h=>by
  rw[dn] at h;cases hc:decide (toInt (af a 0)=4) with
  |true=>
   rw[hc,an9] at h;obtain⟨x,h1,h2⟩:=As h;exact⟨x,by simp[h1],h2⟩
  | false=>
   rw[hc,an7] at h;rcases List.mem_cons.1 h with rfl|h
   ·exact⟨a,by simp,rfl⟩
   ·obtain⟨x,h1,h2⟩:=As h
    exact⟨x,by simp[h1],h2⟩
structure rF(x:uq):Prop where
 hl:aM (ae x.l)<=100000
 hb:x.bd.length<=100000
 hd:x.ds.length<=aU
noncomputable def Y9(κ:Kp)(x:uq):List AV×List Dn.Obj:=([.ptr 5 0 [] 0],pw κ x)
noncomputable def YA(κ:Kp):fJ:=fun caps st K=>∃x:uq,(caps,st)=Y9 κ x/\rF x/\K (mb κ x (fW x.bd (dn x.l 0)))
theorem Kc(κ:Kp):(YA κ).gA:=by
 rintro caps st K K' hK ⟨a,h1,h2,h3⟩;exact⟨a,h1,h2,hK _ h3⟩
theorem TE(κ:Kp)(args:List AV)(st:List Dn.Obj)(K:AV->List Dn.Obj->Prop)(h:aX Sk HN MV args st K):(Vl κ).E.call 188 args st K:=h
theorem ok9{n:Nat}(h:n<=200000):decide ((n+1+1)*9<=70368744177664)=true:=by rw[an2];omega
theorem XB{n:Nat}(h:n<=200000):decide ((n+1+1)*17<=70368744177664)=true:=by rw[an2];omega
theorem ai0{n:Nat}(h:n<=200000):decide ((n+1+1)*57<=70368744177664)=true:=by rw[an2];omega
attribute [local irreducible] sj
theorem gAm(κ:Kp):vL (Vl κ).E 12 188 flA (YA κ):=by
 rintro caps st K ⟨x,h1,hf,h5⟩;obtain⟨rfl,rfl⟩:=Prod.mk.inj (show(caps,st)=([.ptr 5 0 [] 0],pw κ x) from h1);have hll:=eu (ae x.l);rw[dz] at hll;have hl:=hf.hl;have hb:=hf.hb;have hcl:=rU x.l 0;refine⟨CH (dn x.l 0),fun items st'=>∃E1 E2,items=CH E2/\st'=mb κ x (fW x.bd E1)/\E1++E2=dn x.l 0,⟨oAm κ x,?_,?_,?_,?_⟩⟩
 ·refine TE κ _ _ _ ⟨(x.rel,x.l),?_,by show x.l.length<=100000;omega,fun st' h=>h⟩
  rw[kAm];rfl
 ·rw[show(Vl κ).E.P=Pr κ from rfl,show(pw κ x).length=7 from rfl,sAm]
  refine Exists.intro [] (Exists.intro (dn x.l 0) (And.intro (Eq.refl _) (And.intro ?_ (List.nil_append _))));exact mAm κ x
 ·rintro us rest st' ⟨E1,E2,e1,rfl,e3⟩
  cases E2 with
  |nil=>cases e1
  | cons e E2=>
   obtain⟨i,t⟩:=e;obtain⟨hu,rfl⟩:=List.cons.inj e1;obtain rfl:=AV.aK.inj hu;rw[show(Vl κ).E.P=Pr κ from rfl,show(pw κ x).length=7 from rfl];rw[show(7:Nat) - 1=6 from rfl,show[AV.int (i,t).1,cD (i,t).2]=[AV.int i,cD t] from rfl];refine Eq.mpr (rAm κ x (fW x.bd E1) i t (fun st'=>∃F1 F2,CH E2=CH F2/\st'=mb κ x (fW x.bd F1)/\F1++F2=dn x.l 0) K) ?_;have hle:(fW x.bd E1).le (0+E1.length):=N8 (bd:=x.bd) E1 N6;have hE:E1.length<=(dn x.l 0).length:=by rw[←e3];simp
   obtain⟨q1,q2,q3,q4,q5,q6⟩:=hle;simp only[Nat.zero_add] at q1 q2 q3 q4 q5 q6;have hc:t.tm.eT<=100000:=by
    obtain⟨y,y1,y2⟩:=As (show(i,t)∈dn x.l 0 by rw[←e3];simp);have:=Ar y1
    simp only at y2;rw[y2,eY];omega
   have next: ∀st',st'=mb κ x (my x.bd (fW x.bd E1) (i,t))->∃F1 F2,CH E2=CH F2/\st'=mb κ x (fW x.bd F1)/\F1++F2=dn x.l 0:=fun st' h=>
    ⟨E1++[(i,t)],E2,rfl,by rw[h];simp[fW],by rw[←e3];simp⟩
   generalize fW x.bd E1=q at*
   have hbd:decide (x.bd.length<=9223372036854775807)=true:=by rw[an2];omega
   have hbn:decide ((strs q.binds).length<=9223372036854775807)=true:=by rw[an2,aR];clear next;omega
   rw[←jf q.dU] at q1;rw[←jf q.cx] at q3;rw[←aR q.binds] at q4;rw[←jf q.cy] at q5;rw[←aR q.eqs] at q6;have cA:qP x.bd t=false->∃F1 F2,CH E2=CH F2/\mb κ x {q with dU:=q.dU++[i],cn:=q.cn++[I4 t]}=mb κ x (fW x.bd F1)/\F1++F2=dn x.l 0:=fun h=>next _ (by unfold my;simp only[h];rfl)
   have cB:qP x.bd t=true->mu t.s (strs q.binds)=true->∃F1 F2,CH E2=CH F2/\mb κ x {q with cy:=q.cy++[i],eqs:=q.eqs++[t.s]}=mb κ x (fW x.bd F1)/\F1++F2=dn x.l 0:=fun h h2=>next _ (by unfold my;simp only[h,h2];rfl)
   have cC:qP x.bd t=true->mu t.s (strs q.binds)=false->∃F1 F2,CH E2=CH F2/\mb κ x {q with cx:=q.cx++[i],binds:=q.binds++[t.s]}=mb κ x (fW x.bd F1)/\F1++F2=dn x.l 0:=fun h h2=>next _ (by unfold my;simp only[h,h2];rfl)
   have iA1:iA [i]=[AV.int i]:=rfl;have st1:strs [t.s]=[AV.str t.s]:=rfl;simp only[mb,UH,L3,iz,ao6,iA1,st1,List.length_singleton] at cA cB cC;clear next h5 hf h1;simp only[ao2,List.take_length];have b1:=ok9 (n:=(iA q.dU).length) (by omega);have b2:=ai0 (n:=q.cn.length) (by omega);have b3:=ok9 (n:=(iA q.cy).length) (by omega);have b4:=XB (n:=(strs q.eqs).length) (by omega);have b5:=ok9 (n:=(iA q.cx).length) (by omega);have b6:=XB (n:=(strs q.binds).length) (by omega);rw[ag];refine⟨fun e1=>ai.2 ⟨hbd,ag.2 ⟨fun e2=>?_,fun e2=>ai.2 ⟨hbn,ag.2 ⟨fun e3=>?_,fun e3=>?_⟩⟩⟩⟩,fun e1=>?_⟩
   ·exact ai.2 ⟨b1,t,rfl,hc,ai.2 ⟨b2,cA (by unfold qP mu;rw[Bool.not_not] at e2;rw[e2,Bool.not_true,Bool.and_false])⟩⟩
   ·have h:=cB (by unfold qP mu;rw[Bool.not_not] at e2;rw[e2,e1];rfl) e3
    repeat' first
     |exact ai.2 ⟨b3,ai.2 ⟨b4,h⟩⟩
     |refine And.intro ?_ ?_
   ·have h:=cC (by unfold qP mu;rw[Bool.not_not] at e2;rw[e2,e1];rfl) e3
    repeat' first
     |exact ai.2 ⟨b5,ai.2 ⟨b6,h⟩⟩
     |refine And.intro ?_ ?_
   ·exact ai.2 ⟨b1,t,rfl,hc,ai.2 ⟨b2,cA (by unfold qP;rw[e1,Bool.false_and])⟩⟩
 ·rintro st' ⟨E1,E2,e1,rfl,e3⟩
  obtain rfl:E2=[]:=by cases E2 with|nil=>rfl|cons _ _=>cases e1
  rw[List.append_nil] at e3;rw[e3];exact h5
noncomputable def BAm(κ:Kp):EB:=(Vl κ).Uw 117 3 (Kc κ) (gAm κ) (fun f=>ic f (188::WS))
theorem yAm(κ:Kp)(x:uq)(K:AV->List Dn.Obj->Prop):(a8 (BAm κ).E 12 117 [.ptr 0 0 [] 0, .agg [.lit (.string x.rel), .ad 38 x.l], .ptr 1 0 [] 0] [VD x,UH x x.rl .nil .nil .nil .nil .nil .nil] K)=(
 letI a:=AV.ptr 0 0 []
 letI b:=AV.int
 letI c:=AV.ptr
 letI d:=AV.agg
 letI e:=AV.str
 letI f:=Obj.box
 letI g:=Obj.row
 letI h:=AV.ad
 letI i:=AV.ax
 letI j:=AV.nil
 letI m:=d [e x.rel,h 38 x.l]
 ∃(e1:List AV×ByteArray),letI l:=ck e1.2 e1.1;letI n:=[b l,AV.bool (fL e1.2 e1.1)];([h 43 x.ds,e x.rel],[])=H6 e1/\p9 e1/\∃(e0:uq),letI k:=fW e0.bd (dn e0.l (0:Int));([c 5 0 [] 0],[f 122 (d [d [h 43 x.ds,h 48 x.rs],h 9 x.bd]),f 40 (d [b x.op,b x.na,b l,j,j,j,j,j,j,e x.s,cD x.u,cD x.v]),f 120 (a 0),f 45 m,f 185 (c 1 0 [] 0),f 45 m,Dn.Obj.loop (iE Tryz.prog 117 3 LoopState.ready none (ig (bL 102) [(0,a 0),(1,d [e x.rel,h 38 x.l]),(2,c 1 0 [] 0),(3,c 2 0 [] 0),(4,c 3 0 [] 0),(5,c 4 0 [] 0),(8,AV.aK n),(9,c 1 0 [] 0),(10,a 0),(11,a 0),(12,c 0 0 [0] 0),(13,c 0 0 [0,0] 0),(14,h 43 x.ds),(15,c 3 0 [0] 0),(16,e x.rel),(17,AV.aK n),(18,b l),(19,AV.bool (fL e1.2 e1.1)),(20,c 1 0 [] 0),(21,c 1 0 [2] 2),(22,d [e x.rel,h 38 x.l]),(23,AV.bp 188 [c 5 0 [] 0])]))])=Y9 κ e0/\rF e0/\K (AV.aK []) [f 122 (d [d [h 43 e0.ds,h 48 e0.rs],h 9 e0.bd]),f 40 (d [b e0.op,b e0.na,b (ck e0.rel e0.ds),i 2 0 (List.length (iA (SS.dU k))),i 3 0 (List.length (SS.cn k)),i 4 0 (List.length (iA (SS.cx k))),i 5 0 (List.length (strs (SS.binds k))),i 6 0 (List.length (iA (SS.cy k))),i 7 0 (List.length (strs (SS.eqs k))),e e0.s,cD e0.u,cD e0.v]),g 3 (iA (SS.dU k)),g 38 (SS.cn k),g 3 (iA (SS.cx k)),g 9 (strs (SS.binds k)),g 3 (iA (SS.cy k)),g 9 (strs (SS.eqs k))]):=by kernel_rfl
def zR(x:uq):List AV×List Dn.Obj:=([.ptr 0 0 [] 0, .agg [.lit (.string x.rel), .ad 38 x.l], .ptr 1 0 [] 0],[VD x,UH x x.rl .nil .nil .nil .nil .nil .nil])
def iW(x:uq):SS:=fW x.bd (dn x.l 0)
abbrev Zh(x:uq)(q:SS):List Dn.Obj:=[VD x,UH x (ck x.rel x.ds) (.ax 2 0 (iA q.dU).length) (.ax 3 0 q.cn.length) (.ax 4 0 (iA q.cx).length) (.ax 5 0 (strs q.binds).length) (.ax 6 0 (iA q.cy).length) (.ax 7 0 (strs q.eqs).length),
 .row 3 (iA q.dU), .row 38 q.cn, .row 3 (iA q.cx), .row 9 (strs q.binds), .row 3 (iA q.cy), .row 9 (strs q.eqs)]
def Uu(x:uq):Out (AV×List Dn.Obj):= .one (.aK [],Zh x (iW x))
theorem cAm(κ:Kp):bq (BAm κ).E 12 117 (aX zR rF Uu):=by
 refine a7 ?_;rintro x K hf ho;refine Eq.mpr (yAm κ x K) ?_;exact⟨(x.ds,x.rel),rfl,hf.hd,x,rfl,hf,ho⟩
noncomputable def BAo(κ:Kp):EB:=(BAm κ).opened [(1,[10,3],38),(1,[11,3],38)] [] (cAm κ)
structure Vi where
 ds:List AV
 rs:List AV
 bd:List AV
 rel:ByteArray
 l:List AV
 op:Int
 u:AT
 v:AT
abbrev Z3(x:Vi):Dn.Obj:= .box 122 (.agg [lj x.ds x.rs, .ad 9 x.bd])
theorem ySp(κ:Kp)(x:Vi)(K:AV->List Dn.Obj->Prop):(a8 (BAo κ).E 12 66 [.ptr 0 0 [] 0, .agg [.int x.op, .agg [.lit (.string x.rel), .ad 38 x.l],cD x.u,cD x.v]] [Z3 x] K)=(
 letI a:=AV.ptr 0 0 []
 letI b:=AV.int
 letI c:=AV.agg
 letI d:=AV.str
 letI e:=Obj.box
 letI f:=AV.ad
 letI g:=AV.nil
 letI h:=c [c [f 43 x.ds,f 48 x.rs],f 9 x.bd]
 letI i:=∃(e1:AT),([c [b x.u.op,d x.u.s,b x.u.n,f 38 x.u.l]],[])=iV e1/\Tm.eT (AT.tm e1)<=100000/\∃(e0:AT),([c [b x.v.op,d x.v.s,b x.v.n,f 38 x.v.l]],[])=iV e0/\Tm.eT (AT.tm e0)<=100000/\K (c [b 3,b x.op,b 0,f 3 [],f 38 [],f 3 [],f 9 [],f 3 [],f 9 [],d {data:= #[]},c [b e1.op,d e1.s,b e1.n,f 38 (cr (ae e1.l))],c [b e0.op,d e0.s,b e0.n,f 38 (cr (ae e0.l))]]) [e 122 h]
 letI l:=∃(e0:uq),letI j:=strs (SS.binds (iW e0));([a 0,c [d x.rel,f 38 x.l],AV.ptr 1 0 [] 0],[e 122 h,e 40 (c [b 5,b x.op,b 0,g,g,g,g,g,g,d {data:= #[]},c [b x.u.op,d x.u.s,b x.u.n,f 38 x.u.l],c [b x.v.op,d x.v.s,b x.v.n,f 38 x.v.l]])])=zR e0/\rF e0/\K (c [b e0.op,b e0.na,b (ck e0.rel e0.ds),f 3 (List.take (List.length (iA (SS.dU (iW e0)))) (List.drop 0 (iA (SS.dU (iW e0))))),f 38 (List.take (List.length (SS.cn (iW e0))) (List.drop 0 (SS.cn (iW e0)))),f 3 (List.take (List.length (iA (SS.cx (iW e0)))) (List.drop 0 (iA (SS.cx (iW e0))))),f 9 (List.take (List.length j) (List.drop 0 j)),f 3 (List.take (List.length (iA (SS.cy (iW e0)))) (List.drop 0 (iA (SS.cy (iW e0))))),f 9 (List.take (List.length (strs (SS.eqs (iW e0)))) (List.drop 0 (strs (SS.eqs (iW e0))))),d e0.s,c [b e0.u.op,d e0.u.s,b e0.u.n,f 38 e0.u.l],c [b e0.v.op,d e0.v.s,b e0.v.n,f 38 e0.v.l]]) [e 122 (c [c [f 43 e0.ds,f 48 e0.rs],f 9 e0.bd])]
 letI k:=decide (x.bd.length<=9223372036854775807)
 letI m:=aG k (an (!decide (ee x.v.s x.bd (0:Int)>=(0:Int))) (∃(e0:AT),([c [b x.u.op,d x.u.s,b x.u.n,f 38 x.u.l]],[])=iV e0/\Tm.eT (AT.tm e0)<=100000/\K (c [b 4,b 0,b 0,f 3 [],f 38 [],f 3 [],f 9 [],f 3 [],f 9 [],d x.v.s,c [b e0.op,d e0.s,b e0.n,f 38 (cr (ae e0.l))],c [b 0,d {data:= #[]},b 0,f 38 []]]) [e 122 h]) i)
 letI n:=!decide (ee x.u.s x.bd (0:Int)>=(0:Int))
 an (x.op==(2:Int)) (∃(e0:uq),letI o:=strs (SS.binds (iW e0));([a 0,c [d x.rel,f 38 x.l],AV.ptr 1 0 [] 0],[e 122 h,e 40 (c [b 2,b 0,b 0,g,g,g,g,g,g,d {data:= #[]},c [b 0,d {data:= #[]},b 0,f 38 []],c [b 0,d {data:= #[]},b 0,f 38 []]])])=zR e0/\rF e0/\K (c [b e0.op,b e0.na,b (ck e0.rel e0.ds),f 3 (List.take (List.length (iA (SS.dU (iW e0)))) (List.drop 0 (iA (SS.dU (iW e0))))),f 38 (List.take (List.length (SS.cn (iW e0))) (List.drop 0 (SS.cn (iW e0)))),f 3 (List.take (List.length (iA (SS.cx (iW e0)))) (List.drop 0 (iA (SS.cx (iW e0))))),f 9 (List.take (List.length o) (List.drop 0 o)),f 3 (List.take (List.length (iA (SS.cy (iW e0)))) (List.drop 0 (iA (SS.cy (iW e0))))),f 9 (List.take (List.length (strs (SS.eqs (iW e0)))) (List.drop 0 (strs (SS.eqs (iW e0))))),d e0.s,c [b e0.u.op,d e0.u.s,b e0.u.n,f 38 e0.u.l],c [b e0.v.op,d e0.v.s,b e0.v.n,f 38 e0.v.l]]) [e 122 (c [c [f 43 e0.ds,f 48 e0.rs],f 9 e0.bd])]) (an (x.op==(1:Int)) (∃(e0:uq),letI p:=strs (SS.binds (iW e0));([a 0,c [d x.rel,f 38 x.l],AV.ptr 1 0 [] 0],[e 122 h,e 40 (c [b 1,b 0,b 0,g,g,g,g,g,g,d {data:= #[]},c [b 0,d {data:= #[]},b 0,f 38 []],c [b 0,d {data:= #[]},b 0,f 38 []]])])=zR e0/\rF e0/\K (c [b e0.op,b e0.na,b (ck e0.rel e0.ds),f 3 (List.take (List.length (iA (SS.dU (iW e0)))) (List.drop 0 (iA (SS.dU (iW e0))))),f 38 (List.take (List.length (SS.cn (iW e0))) (List.drop 0 (SS.cn (iW e0)))),f 3 (List.take (List.length (iA (SS.cx (iW e0)))) (List.drop 0 (iA (SS.cx (iW e0))))),f 9 (List.take (List.length p) (List.drop 0 p)),f 3 (List.take (List.length (iA (SS.cy (iW e0)))) (List.drop 0 (iA (SS.cy (iW e0))))),f 9 (List.take (List.length (strs (SS.eqs (iW e0)))) (List.drop 0 (strs (SS.eqs (iW e0))))),d e0.s,c [b e0.u.op,d e0.u.s,b e0.u.n,f 38 e0.u.l],c [b e0.v.op,d e0.v.s,b e0.v.n,f 38 e0.v.l]]) [e 122 (c [c [f 43 e0.ds,f 48 e0.rs],f 9 e0.bd])]) (an (x.op==(3:Int)) (an (x.u.op==(1:Int)) (aG k (an n (∃(e0:AT),([c [b x.v.op,d x.v.s,b x.v.n,f 38 x.v.l]],[])=iV e0/\Tm.eT (AT.tm e0)<=100000/\K (c [b 4,b 0,b 0,f 3 [],f 38 [],f 3 [],f 9 [],f 3 [],f 9 [],d x.u.s,c [b e0.op,d e0.s,b e0.n,f 38 (cr (ae e0.l))],c [b 0,d {data:= #[]},b 0,f 38 []]]) [e 122 h]) (an (x.v.op==(1:Int)) m (∃(e1:AT),([c [b x.u.op,d x.u.s,b x.u.n,f 38 x.u.l]],[])=iV e1/\Tm.eT (AT.tm e1)<=100000/\∃(e0:AT),([c [b x.v.op,d x.v.s,b x.v.n,f 38 x.v.l]],[])=iV e0/\Tm.eT (AT.tm e0)<=100000/\K (c [b 3,b x.op,b 0,f 3 [],f 38 [],f 3 [],f 9 [],f 3 [],f 9 [],d {data:= #[]},c [b e1.op,d e1.s,b e1.n,f 38 (cr (ae e1.l))],c [b e0.op,d e0.s,b e0.n,f 38 (cr (ae e0.l))]]) [e 122 h])))) (an (x.v.op==(1:Int)) m i)) (an (x.op==(4:Int)) i (an (x.op==(5:Int)) i (an (x.op==(6:Int)) i (an (x.u.op==(1:Int)) (aG k (an n (∃(e0:uq),letI q:=strs (SS.binds (iW e0));([a 0,c [d x.rel,f 38 x.l],AV.ptr 1 0 [] 0],[e 122 h,e 40 (c [b 5,b x.op,b 0,g,g,g,g,g,g,d x.u.s,c [b 0,d {data:= #[]},b 0,f 38 []],c [b x.v.op,d x.v.s,b x.v.n,f 38 x.v.l]])])=zR e0/\rF e0/\K (c [b e0.op,b e0.na,b (ck e0.rel e0.ds),f 3 (List.take (List.length (iA (SS.dU (iW e0)))) (List.drop 0 (iA (SS.dU (iW e0))))),f 38 (List.take (List.length (SS.cn (iW e0))) (List.drop 0 (SS.cn (iW e0)))),f 3 (List.take (List.length (iA (SS.cx (iW e0)))) (List.drop 0 (iA (SS.cx (iW e0))))),f 9 (List.take (List.length q) (List.drop 0 q)),f 3 (List.take (List.length (iA (SS.cy (iW e0)))) (List.drop 0 (iA (SS.cy (iW e0))))),f 9 (List.take (List.length (strs (SS.eqs (iW e0)))) (List.drop 0 (strs (SS.eqs (iW e0))))),d e0.s,c [b e0.u.op,d e0.u.s,b e0.u.n,f 38 e0.u.l],c [b e0.v.op,d e0.v.s,b e0.v.n,f 38 e0.v.l]]) [e 122 (c [c [f 43 e0.ds,f 48 e0.rs],f 9 e0.bd])]) l)) l))))))):=by kernel_rfl
structure RC(x:Vi):Prop where
 hl:aM (ae x.l)<=100000
 hb:x.bd.length<=100000
 hd:x.ds.length<=aU
 hu:x.u.tm.eT<=100000
 hv:x.v.tm.eT<=100000
def Zc(x:Vi):List AV×List Dn.Obj:=([.ptr 0 0 [] 0, .agg [.int x.op, .agg [.lit (.string x.rel), .ad 38 x.l],cD x.u,cD x.v]],[Z3 x])
def Ya(x:Vi):Out (AV×List Dn.Obj):= .one (Q2 (ud x.ds x.bd x.rel x.l x.op x.u x.v),[Z3 x])
theorem cSp(κ:Kp):bq (BAo κ).E 12 66 (aX Zc RC Ya):=by
 refine a7 ?_;rintro x K hf ho;refine Eq.mpr (ySp κ x K) ?_;have hbd:decide (x.bd.length<=9223372036854775807)=true:=by
  have:=hf.hb
  rw[an2];omega
 have fa: ∀op na rl s u v,rF ⟨x.ds,x.rs,x.bd,x.rel,x.l,op,na,rl,s,u,v⟩:=fun _ _ _ _ _ _=>⟨hf.hl,hf.hb,hf.hd⟩
 have ho:K (Q2 (ud x.ds x.bd x.rel x.l x.op x.u x.v)) [Z3 x]:=ho;unfold ud qP at ho;simp only[ao2,List.take_length,hbd];cases h2:(x.op==2) with
 |true=>
  rw[h2] at ho;exact⟨⟨x.ds,x.rs,x.bd,x.rel,x.l,2,0,0,ByteArray.mk #[],zT,zT⟩,rfl,fa _ _ _ _ _ _,ho⟩
 | false=>
  rw[h2] at ho;cases h1:(x.op==1) with
  |true=>
   rw[h1] at ho;exact⟨⟨x.ds,x.rs,x.bd,x.rel,x.l,1,0,0,ByteArray.mk #[],zT,zT⟩,rfl,fa _ _ _ _ _ _,ho⟩
  | false=>
   rw[h1] at ho;cases h3:(x.op==3) with
   | true=>
    rw[h3] at ho;cases hu1:(x.u.op==1)<;>rw[hu1] at ho
    ·cases hv1:(x.v.op==1)<;>rw[hv1] at ho
     ·exact⟨x.u,rfl,hf.hu,x.v,rfl,hf.hv,ho⟩
     ·cases hv2:mu x.v.s x.bd<;>rw[hv2] at ho<;>unfold mu at hv2<;>rw[hv2]
      ·exact⟨x.u,rfl,hf.hu,ho⟩
      ·exact⟨x.u,rfl,hf.hu,x.v,rfl,hf.hv,ho⟩
    ·cases hu2:mu x.u.s x.bd<;>rw[hu2] at ho<;>unfold mu at hu2<;>rw[hu2]
     ·exact⟨x.v,rfl,hf.hv,ho⟩
     ·cases hv1:(x.v.op==1)<;>rw[hv1] at ho
      ·exact⟨x.u,rfl,hf.hu,x.v,rfl,hf.hv,ho⟩
      ·cases hv2:mu x.v.s x.bd<;>rw[hv2] at ho<;>unfold mu at hv2<;>rw[hv2]
       ·exact⟨x.u,rfl,hf.hu,ho⟩
       ·exact⟨x.u,rfl,hf.hu,x.v,rfl,hf.hv,ho⟩
   | false=>
    rw[h3] at ho;cases h4:(x.op==4) with
    |true=>rw[h4] at ho;exact⟨x.u,rfl,hf.hu,x.v,rfl,hf.hv,ho⟩
    | false=>
     rw[h4] at ho;cases h5:(x.op==5) with
     |true=>rw[h5] at ho;exact⟨x.u,rfl,hf.hu,x.v,rfl,hf.hv,ho⟩
     | false=>
      rw[h5] at ho;cases h6:(x.op==6) with
      |true=>rw[h6] at ho;exact⟨x.u,rfl,hf.hu,x.v,rfl,hf.hv,ho⟩
      | false=>
       rw[h6] at ho;cases hu1:(x.u.op==1)<;>rw[hu1] at ho
       ·exact⟨⟨x.ds,x.rs,x.bd,x.rel,x.l,5,x.op,0,ByteArray.mk #[],x.u,x.v⟩,rfl,fa _ _ _ _ _ _,ho⟩
       ·cases hu2:mu x.u.s x.bd<;>rw[hu2] at ho<;>unfold mu at hu2<;>rw[hu2]
        ·exact⟨⟨x.ds,x.rs,x.bd,x.rel,x.l,5,x.op,0,x.u.s,zT,x.v⟩,rfl,fa _ _ _ _ _ _,ho⟩
        ·exact⟨⟨x.ds,x.rs,x.bd,x.rel,x.l,5,x.op,0,ByteArray.mk #[],x.u,x.v⟩,rfl,fa _ _ _ _ _ _,ho⟩
noncomputable def BSp(κ:Kp):EB:=(((BAo κ).call (cSp κ)).calm [66]).opens [(32,5,[(1193,some 40)])]
end Go.Proofs.YtioeffnadipbaaaGreatDoor
namespace Go.Proofs.YtioeffnadipbaaaGreatDoor
open Go Go.Dn Go.Rl Go.Proofs
theorem xP{f}: ∀{a},(Hx f a).2=0↔ ∀x,x∈a->f x=0
 |[]=>by simp[Hx]
 |x::l=>by
  rw[Hx];by_cases h:f x=0
  ·rw[an8 h,an9,xP];grind
  grind
theorem LD{ds a}:(jy ds a).2=0↔fR ds a=true/\(Sy ds ds 0).2=0/\(∀x,x∈a->lz ds x=0)/\∀x,x∈a->lh x=0:=by
 unfold jy Aq;cases fR ds a with
 |false=>simp
 | true=>
  simp only[an9,true_and];by_cases h:(Sy ds ds 0).2=0
  ·by_cases b:(Hx (lz ds) a).2=0
   ·simp_all[an8,an9,xP]
   ·grind [xP]
  grind
theorem Zj{ds r}(h:(ve (ds,r)).1=0):ke (cP ds) (aH r)=0:=by
 by_cases e:ke (cP ds) (aH r)=0
 ·omega
 ·have a: ∀n,(gk getM gI _ _ (n+1) []).1=ke _ _:=fun n=>by
   rw[gk,De _ _ _ e,an6 e,an7]
  grind [ve,OJ]
theorem wP{ds}: ∀{b},jg ds b=0->∀l,l∈b->Rl.gQ l=true->known ds l.a=0
 |[],_,_,h,_=>nomatch h
 | x::b,d,l,c,f=>by
  rw[jg] at d;cases e:Rl.gQ x&& !decide (known ds x.a=0) with
  |true=>
   grind
  |false=>
   rw[e] at d;rcases List.mem_cons.1 c with rfl|c
   ·grind
   ·exact wP d l c f
def gQ(a:Int):=bif decide (a<3) then true else decide (a>6)
end Go.Proofs.YtioeffnadipbaaaGreatDoor
namespace Go.Proofs.YtioeffnadipbaaaGreatDoor
open Go Go.Dn Go.Rl Go.Proofs
attribute [local irreducible] a8 vc
set_option maxRecDepth 20000
structure Li(a:dt):Prop where
 s:dk a
 r:ba (aH a)=true
 f:lv (aH a)=true
def Y5(a:dt):List AV×List Dn.Obj:=([aw a],[])
def X5(a:dt):Out (AV×List Dn.Obj):= .one (.aK [.ax 0 0 (bI (aH a)).length, .int 0],[.row 3 (ints (bI (aH a)))])
def YO(x:dt×Nat):List AV×List Dn.Obj:=([aw x.1, .int x.2],[])
def NG(x:dt×Nat):Prop:=Li x.1/\x.2<=x.1.bl.length
def XE(x:dt×Nat):Out (AV×List Dn.Obj):= .one (.aK [.ad 9 (strs (j6 (aH x.1) x.2)), .int 0],[])
theorem Xw: ∀b st K,aX Y5 Li X5 b st K->aX DI dk JN b st K:=by
 rintro b st K ⟨a,e,c,d⟩;refine⟨a,e,c.s,?_⟩;simp[JN];rw[c.r,c.f];exact d
theorem Xu: ∀args st K,aX YO NG XE args st K->aX QX BB zx args st K:=by
 rintro args st K ⟨⟨a,k⟩,h1,⟨h2,hk⟩,h3⟩;simp only at h2 hk;refine⟨(a,(k:Int)),h1,h2.s,?_⟩;simp only[zx,Out.run];rw[h2.r,h2.f,show(decide ((k:Int)<0)||decide ((a.bl.length:Int)<k))=false by simp;omega];exact h3
theorem TI(κ:Kp)(args:List AV)(st:List Dn.Obj)(K:AV->List Dn.Obj->Prop)(h:aX DI dk JN args st K):(BSp κ).E.call 62 args st K:=h
noncomputable def BOr(κ:Kp):EB:=(BSp κ).narrow (TI κ) Xw
theorem TF(κ:Kp)(args:List AV)(st:List Dn.Obj)(K:AV->List Dn.Obj->Prop)(h:aX QX BB zx args st K):(BOr κ).E.call 65 args st K:=h
noncomputable def BBd(κ:Kp):EB:=(BOr κ).narrow (TF κ) Xu
noncomputable def S8(κ:Kp):EB:=(BBd κ).calm [62,65]
abbrev qZ:Dn.Obj:= .box 31 (.agg [.int 0, .nil, .nil, .int 0])
abbrev UY(ds rs:List AV)(a:dt)(rl:Int)(xs os:List AV)(ws:List Nat)(i:Int):S:=sp 66 [(2, .ptr 0 0 [] 0),(3, .ptr 1 0 [] 0),(4, .ptr 2 0 [] 0),(7, .ptr 3 0 [] 0),(35, .ax 5 0 ws.length),(36, .int ws.length),(37, .int i)] [.box 25 (lj ds rs), .box 48 (aw a),qZ, .box 31 (.agg [.int rl, .ax 4 0 xs.length, .ad 38 os, .int (-1)]), .row 40 xs, .row 3 (ints ws)]
theorem xMd(κ:Kp)(ds rs:List AV)(a:dt)(rl:Int)(xs os:List AV)(ws:List Nat)(i:Int)(I:Nat->S->Prop)(n:Nat)(K:Exit->S->Prop):(vc (S8 κ).E 12 32 none 0 (ah (Pr κ).toProgram 32 5) (UY ds rs a rl xs os ws i) (bh (S8 κ).E 32 5 0 I n K))=(
 letI b:=AV.ptr 0 0 []
 letI c:=AV.int
 letI d:=AV.agg
 letI e:=AV.str
 letI f:=Obj.box
 letI g:=AV.ad
 letI k:=d [c 0,AV.nil,AV.nil,c 0]
 letI l:=d [g 43 ds,g 48 rs]
 letI o:=d [c rl,AV.ax 4 0 xs.length,g 38 os,c (-1)]
 letI m:=nth (ints ws) (0+i.toNat)
 letI j:=nth a.bl (Int.toNat (toInt m))
 letI p:=i<(↑(ws.length):Int)
 an (decide p) (aG (decide ((0:Int)<=i)&&decide p) (∃(e2:dt×Nat),letI q:=d [d [g 43 ds,g 48 rs],g 9 (strs (j6 (aH e2.1) e2.2))];([aw a,c i],[])=YO e2/\NG e2/\aG (decide ((0:Int)<=toInt m)&&decide (toInt m<(↑(a.bl.length):Int))) (∃(e1:Vi),letI h:=ud e1.ds e1.bd e1.rel e1.l e1.op e1.u e1.v;([b 0,d [c (toInt (af j 0)),d [e (toStr (af (af j 1) 0)),g 38 (aa (af (af j 1) 1))],d [c (toInt (af (af j 2) 0)),e (toStr (af (af j 2) 1)),c (toInt (af (af j 2) 2)),g 38 (aa (af (af j 2) 3))],d [c (toInt (af (af j 3) 0)),e (toStr (af (af j 3) 1)),c (toInt (af (af j 3) 2)),g 38 (aa (af (af j 3) 3))]]],[f 122 q])=Zc e1/\RC e1/\(f 25 l=f 25 l/\f 48 (aw a)=f 48 (aw a)/\f 31 k=f 31 k/\f 31 o=f 31 o/\f 122 (d [d [g 43 e1.ds,g 48 e1.rs],g 9 e1.bd])=f 122 q/\True)/\aG (decide ((xs.length+1+1)*297<=70368744177664)) (∃(e0:Nat),e0<n/\I e0 (sp 66 [(2,b 0),(3,AV.ptr 1 0 [] 0),(4,AV.ptr 2 0 [] 0),(7,AV.ptr 3 0 [] 0),(35,AV.ax 5 0 ws.length),(36,c (↑(ws.length):Int)),(37,c (IntKind.wrap IntKind.i64 (i+(1:Int))))] [f 25 l,f 48 (aw a),f 31 k,f 31 (d [c rl,AV.ax 4 0 (xs.length+1),g 38 os,c (-1)]),Obj.row 40 (List.take xs.length xs++[d [c (SD.op h),c (SD.na h),c (SD.rl h),g 3 (iA (SS.dU (SD.q h))),g 38 (SS.cn (SD.q h)),g 3 (iA (SS.cx (SD.q h))),g 9 (strs (SS.binds (SD.q h))),g 3 (iA (SS.cy (SD.q h))),g 9 (strs (SS.eqs (SD.q h))),e (SD.t h),d [c (AT.op (SD.X h)),e (AT.s (SD.X h)),c (AT.n (SD.X h)),g 38 (AT.l (SD.X h))],d [c (AT.op (SD.Y h)),e (AT.s (SD.Y h)),c (AT.n (SD.Y h)),g 38 (AT.l (SD.Y h))]]]),Obj.row 3 (ints ws)]))))) (K (Exit.exit 0) (sp 66 [(4,b 0),(7,AV.ptr 1 0 [] 0)] [f 31 k,f 31 (d [c rl,AV.ax 2 0 xs.length,g 38 os,c (-1)]),Obj.row 40 xs]))):=by kernel_rfl
theorem Ik: ∀{l:List Nat} {x:Nat},x∈l->x<=l.sum
 |a::l,x,h=>by
  rw[List.sum_cons];rcases List.mem_cons.1 h with rfl|h
  ·omega
  ·have:=Ik h;omega
theorem wX{a:dt}(h:dk a){l:AV}(hl:l∈a.bl):aM (ae (aa (af (af l 1) 1)))<=100000/\(bX (af l 2)).eT<=100000/\(bX (af l 3)).eT<=100000:=by
 have h1:=h.1;rw[nO 38 a.rel a.hl a.bl] at h1;have h2:jh (c9 l)<=((dB a.bl).map jh).sum:=Ik (List.mem_map_of_mem (List.mem_map_of_mem hl));simp only[sI] at h1;have h3:jh (c9 l)=aM [bX (af l 2),bX (af l 3)]+aM (ae (aa (af (af l 1) 1))):=rfl;simp only[aM] at h3;omega
def ju(ds:List AV)(a:dt)(n:Nat):List AV:=(List.range n).map fun k=>Q2 (jt ds (strs (j6 (aH a) k)) (nth a.bl ((bI (aH a)).getD k 0)))
theorem DU(ds:List AV)(a:dt)(n:Nat):ju ds a (n+1)=ju ds a n++[Q2 (jt ds (strs (j6 (aH a) n)) (nth a.bl ((bI (aH a)).getD n 0)))]:=by
 simp[ju,List.range_succ]
theorem ry(ds:List AV)(a:dt)(n:Nat):(ju ds a n).length=n:=by simp[ju]
structure ZE where
 ds:List AV
 rs:List AV
 a:dt
 rl:Int
 os:List AV
 i:Nat
abbrev UW(x:ZE):S:=UY x.ds x.rs x.a x.rl (ju x.ds x.a x.i) x.os (bI (aH x.a)) x.i
def NS(x:ZE):Prop:=Li x.a/\x.ds.length<=aU/\x.i<=(bI (aH x.a)).length
def X1(x:ZE):Out (Exit×S):= .one (.exit 0,sp 66 [(4, .ptr 0 0 [] 0),(7, .ptr 1 0 [] 0)] [qZ, .box 31 (.agg [.int x.rl, .ax 2 0 (ju x.ds x.a (bI (aH x.a)).length).length, .ad 38 x.os, .int (-1)]), .row 40 (ju x.ds x.a (bI (aH x.a)).length)])
theorem lMd(κ:Kp):aP (S8 κ).E 12 32 5 (aI 0 UW NS X1):=by
 refine aD (fun x=>(bI (aH x.a)).length - x.i) ?_;rintro⟨ds,rs,a,rl,os,i⟩ K ⟨ha,hd,hi⟩ ho;simp only at ha hd hi;rw[show(S8 κ).E.P=Pr κ from rfl];refine Eq.mpr (xMd κ ds rs a rl (ju ds a i) os (bI (aH a)) i _ _ K) ?_;have hw:=mX ha.f;have hbl:=ha.s.2;rw[ag,an2,an4];refine⟨fun h=>?_,fun h=>?_⟩
 ·have hk:i<(bI (aH a)).length:=by omega
  have hwk:(bI (aH a))[i]<a.bl.length:=by
   have:=pF (List.getElem_mem hk)
   rwa [fK] at this
  have hx:nth a.bl (bI (aH a))[i]∈a.bl:=by rw[aJ _ _ hwk];exact List.getElem_mem _
  have hf:=wX ha.s hx;have hgd:(bI (aH a)).getD i 0=(bI (aH a))[i]:=by simp[List.getD_eq_getElem?_getD,hk]
  have hv:(strs (j6 (aH a) i)).length<=100000:=by
   have h1:=zU ha.s;have h2:(j6 (aH a) i).length<=(dm (aH a)).length:=List.length_filter_le _ _;rw[aR];omega
  have hs:=DU ds a i;rw[hgd] at hs;simp only[Int.toNat_natCast,Nat.zero_add,CG _ _ hk];refine ai.2 ⟨by simp;omega,(a,i),rfl,⟨ha,by show i<=a.bl.length;omega⟩,ai.2 ⟨by simp;omega,⟨ds,rs,strs (j6 (aH a) i),toStr (af (af (nth a.bl (bI (aH a))[i]) 1) 0),aa (af (af (nth a.bl (bI (aH a))[i]) 1) 1),toInt (af (nth a.bl (bI (aH a))[i]) 0),dM (af (nth a.bl (bI (aH a))[i]) 2),dM (af (nth a.bl (bI (aH a))[i]) 3)⟩,rfl,⟨hf.1,hv,hd,by rw[eY];exact hf.2.1,by rw[eY];exact hf.2.2⟩,by simp,ai.2 ⟨?_,_,?_,⟨ds,rs,a,rl,os,i+1⟩,?_,⟨ha,hd,hk⟩,rfl,ho⟩⟩⟩
  ·rw[an2,ry];omega
  ·simp only;omega
  ·simp only[UW,UY]
   rw[hs,List.take_length,ay (n:=(i:Int)+1) (by omega) (by omega),ao6];rfl
 ·obtain rfl:i=(bI (aH a)).length:=by omega
  exact ho
noncomputable def BMl(κ:Kp):EB:=(S8 κ).loop (lMd κ)
theorem yMd(κ:Kp)(ds rs:List AV)(a:dt)(K:AV->List Dn.Obj->Prop):(a8 (BMl κ).E 12 32 [lj ds rs,aw a] [] K)=(
 letI b:=AV.int
 letI c:=Obj.box
 letI d:=AV.ad
 letI e:=Pg.toProgram (Env.P (EB.E (S8 κ)))
 ∃(e3:List AV×ByteArray),([d 43 ds,AV.str a.rel],[])=H6 e3/\p9 e3/\∃(e2:List AV),([d 38 a.hl],[])=Km e2/\BL e2/\∃(e1:dt),letI f:=List.length (bI (aH e1));([aw a],[])=Y5 e1/\Li e1/\ah e 32 5=ah e 32 5/\∃(e0:ZE),letI g:=ju e0.ds e0.a (List.length (bI (aH e0.a)));sp 66 [(2,AV.ptr 0 0 [] 0),(3,AV.ptr 1 0 [] 0),(4,AV.ptr 2 0 [] 0),(7,AV.ptr 3 0 [] 0),(35,AV.ax 5 0 f),(36,b (↑f:Int)),(37,b 0)] [c 25 (AV.agg [d 43 ds,d 48 rs]),c 48 (aw a),c 31 (AV.agg [b 0,AV.nil,AV.nil,b 0]),c 31 (AV.agg [b (ck e3.2 e3.1),AV.ax 4 0 0,d 38 (cr (ae e2)),b (-1)]),Obj.row 40 [],Obj.row 3 (ints (bI (aH e1)))]=UW e0/\NS e0/\K (AV.agg [b e0.rl,d 40 (List.take (List.length g) (List.drop 0 g)),d 38 e0.os,b (-1)]) []):=by kernel_rfl
def bB(ds:List AV)(a:dt):QD:=⟨ck a.rel ds,ju ds a (bI (aH a)).length,cr (ae a.hl), -1⟩
structure VL where
 ds:List AV
 rs:List AV
 a:dt
def UT(x:VL):List AV×List Dn.Obj:=([lj x.ds x.rs,aw x.a],[])
def F4(x:VL):Prop:=Li x.a/\x.ds.length<=aU
def XW(x:VL):Out (AV×List Dn.Obj):= .one (qA (bB x.ds x.a),[])
theorem cM0(κ:Kp):bq (BMl κ).E 12 32 (aX UT F4 XW):=by
 refine a7 ?_;rintro⟨ds,rs,a⟩ K ⟨ha,hd⟩ ho;simp only at ha hd;refine Eq.mpr (yMd κ ds rs a K) ?_;have hh:aM (ae a.hl)<=100000:=by
  have h1:=ha.s.1;rw[nO 38 a.rel a.hl a.bl] at h1;simp only[sI] at h1;omega
 refine⟨(ds,a.rel),rfl,hd,a.hl,rfl,hh,a,rfl,ha,rfl,⟨ds,rs,a,ck a.rel ds,cr (ae a.hl),0⟩,rfl,⟨ha,hd,Nat.zero_le _⟩,?_⟩;rw[ao2,List.take_length];exact ho
noncomputable def VT(κ:Kp):EB:=((BMl κ).call (cM0 κ)).calm [32]
theorem yQo(κ:Kp)(ds rs:List AV)(k:Int)(K:AV->List Dn.Obj->Prop):(a8 (VT κ).E 12 13 [lj ds rs, .int k] [] K)=(
 letI a:=AV.int
 letI b:=AV.agg
 letI c:=AV.ad
 letI f:=K (AV.aK [b [a 0,AV.nil,AV.nil,a 0],a 2]) []
 letI d:=nth rs k.toNat
 ∃(e1:SF),([b [c 43 ds,c 48 rs]],[])=Kl e1/\tZ e1/\an (Prod.snd (jy e1.1 e1.2) != (0:Int)) (K (AV.aK [b [a 0,AV.nil,AV.nil,a 0],a (Prod.snd (jy e1.1 e1.2))]) []) (an (decide (k<(0:Int))) f (an (decide (k>=(↑(rs.length):Int))) f (aG (decide ((0:Int)<=k)&&decide (k<(↑(rs.length):Int))) (∃(e0:VL),letI e:=bB e0.ds e0.a;([b [c 43 ds,c 48 rs],b [b [AV.str (toStr (af (af d 0) 0)),c 38 (aa (af (af d 0) 1))],c 80 (aa (af d 1)),a (toInt (af d 2))]],[])=UT e0/\F4 e0/\K (AV.aK [b [a (QD.rel e),c 40 (QD.steps e),c 38 (QD.out e),a (QD.delta e)],a 0]) []))))):=by kernel_rfl
theorem pN{ds a}(c:j2 ds a)(h:(jy ds a).2=0){r}(b:r∈a):Li (cG r):=by
 have d:=(LD.1 h).2.2.2 r b;refine⟨c.2.2 r b,?_,?_⟩
 ·grind [cG,lh,Fs]
 grind [lh,Fs]
structure Vg where
 ds:List AV
 rs:List AV
 k:Int
def Y7(x:Vg):List AV×List Dn.Obj:=([lj x.ds x.rs, .int x.k],[])
def Na(x:Vg):Out (AV×List Dn.Obj):= .an (decide (Ec x.ds x.rs x.k x.k x.rs.length=0))
 (.one (.aK [qA (bB x.ds (cG (nth x.rs x.k.toNat))), .int 0],[]))
 (.one (.aK [.agg [.int 0, .nil, .nil, .int 0], .int (Ec x.ds x.rs x.k x.k x.rs.length)],[]))
theorem cQo(κ:Kp):bq (VT κ).E 12 13 (aX Y7 (fun x=>j2 x.ds x.rs) Na):=by
 refine a7 ?_;rintro⟨ds,rs,k⟩ K hs ho;simp only at hs;refine Eq.mpr (yQo κ ds rs k K) ?_;simp only[Na,Out.run,ag,an2,an4] at ho;refine⟨(ds,rs),rfl,hs,?_⟩;simp only[ag,ai,bne_iff_ne,bne_eq_false_iff_eq,an2,an4,an3];refine⟨fun e=>?_,fun e=>⟨fun e2=>?_,fun e2=>⟨fun e3=>?_,fun e3=>⟨⟨by omega,by omega⟩,?_⟩⟩⟩⟩
 ·have hk:Ec ds rs k k rs.length=(jy ds rs).2:=by unfold Ec;rw[an6 e];rfl
  have:=ho.2 (by rw[hk];exact e)
  rw[hk] at this;exact this
 ·have hk:Ec ds rs k k rs.length=2:=by
   unfold Ec;rw[an8 e,show Qb k k (rs.length:Int)=false by unfold Qb;simp;omega];rfl
  have:=ho.2 (by rw[hk];decide)
  rw[hk] at this;exact this
 ·have hk:Ec ds rs k k rs.length=2:=by
   unfold Ec;rw[an8 e,show Qb k k (rs.length:Int)=false by unfold Qb;simp;omega];rfl
  have:=ho.2 (by rw[hk];decide)
  rw[hk] at this;exact this
 ·have hk:k.toNat<rs.length:=by omega
  have hx:nth rs k.toNat∈rs:=by rw[aJ _ _ hk];exact List.getElem_mem _
  exact⟨⟨ds,rs,cG (nth rs k.toNat)⟩,rfl,⟨pN hs e hx,hs.1⟩,ho.1 (WK e ⟨by omega,by omega⟩ ⟨by omega,by omega⟩)⟩
noncomputable def BQo(κ:Kp):EB:=(VT κ).call (cQo κ)
end Go.Proofs.YtioeffnadipbaaaGreatDoor
