import Derived.Test.YtioeffnadipbaaaGreatDoorDeM7
import Derived.Test.YtioeffnadipbaaaGreatDoorDoJ
namespace Go.Proofs.YtioeffnadipbaaaGreatDoor
open Go Go.Dn Go.Rl Go.Proofs
mutual
def DQ:Tm->AV
 | .mk op s n l=> .agg [.int op, .lit (.string s), .int n, .ad 38 (cG l)]
def cG:List Tm->List AV
 |[]=>[]
 |t::l=>DQ t::cG l
end
mutual
theorem Km: ∀t:Tm,cI (DQ t)=t
 | .mk op s n l=>by
  have:=th l
  rw[DQ,np,this]
theorem th: ∀l:List Tm,aa (cG l)=l
 |[]=>rfl
 |t::l=>by
  have h1:=Km t
  have h2:=th l
  simp only[aa,cG,ac0] at h2⊢
  rw[h1,h2]
end
theorem xf: ∀l:List Tm,(cG l).length=l.length
 |[]=>rfl
 |_::l=>by simp[cG,xf l]
theorem wX: ∀a b:List Tm,cG (a++b)=cG a++cG b
 |[],_=>rfl
 |_::a,b=>by simp[cG,wX a b]
abbrev LD(t:AT):AV:= .agg [.int t.op, .lit (.string t.s), .int t.n, .ad 38 (cG (aa t.l))]
structure SS where
 dS:List Int
 cx:List AV
 cg:List Int
 binds:List ByteArray
 ck:List Int
 eqs:List ByteArray
def kD(s:ByteArray)(l:List AV):Bool:=decide (dU s l 0>=0)
def wx(bd:List AV)(t:AT):Bool:=(t.op==1)&& !kD t.s bd
def mS(bd:List AV)(s:SS)(e:Int×AT):SS:=
 bif !wx bd e.2 then{s with dS:=s.dS++[e.1],cx:=s.cx++[LD e.2]}
 else bif kD e.2.s (strs s.binds) then{s with ck:=s.ck++[e.1],eqs:=s.eqs++[e.2.s]}
 else{s with cg:=s.cg++[e.1],binds:=s.binds++[e.2.s]}
def HO:SS:=⟨[],[],[],[],[],[]⟩
def dt:List AV->Int->List (Int×AT)
 |[],_=>[]
 |t::l,i=>bif decide (toInt (af t 0)=4) then dt l (i+1) else(i,sQ t)::dt l (i+1)
def A1(l:List (Int×AT)):List AV:=l.map fun e=> .aX [.int e.1,cz e.2]
def fA(bd:List AV)(l:List (Int×AT)):SS:=l.foldl (mS bd) HO
theorem qL: ∀(l:List AV) (i:Int),(dt l i).length<=l.length
 |[],_=>Nat.le_refl _
 |t::l,i=>by
  have:=qL l (i+1)
  rw[dt]
  cases decide (toInt (af t 0)=4) with
  |true=>rw[aa7];simp only[List.length_cons];omega
  |false=>rw[aa5];simp only[List.length_cons];omega
def SS.le(s:SS)(n:Nat):Prop:=s.dS.length<=n/\s.cx.length<=n/\s.cg.length<=n/\s.binds.length<=n/\s.ck.length<=n/\s.eqs.length<=n
theorem JP:HO.le 0:=⟨Nat.le_refl _,Nat.le_refl _,Nat.le_refl _,Nat.le_refl _,Nat.le_refl _,Nat.le_refl _⟩
theorem M5{bd:List AV}{s:SS}{n:Nat}(h:s.le n)(e:Int×AT):(mS bd s e).le (n+1):=by
 obtain⟨h1,h2,h3,h4,h5,h6⟩:=h
 unfold mS SS.le
 cases !wx bd e.2 with
 |true=>simp only[aa7,ab8,List.length_singleton];omega
 |false=>
  cases kD e.2.s (strs s.binds) with
  |true=>simp only[aa7,aa5,ab8,List.length_singleton];omega
  |false=>simp only[aa5,ab8,List.length_singleton];omega
theorem Jp{bd:List AV}: ∀(l:List (Int×AT)) {s:SS} {n:Nat},s.le n->(l.foldl (mS bd) s).le (n+l.length)
 |[],_,_,h=>h
 |e::l,s,n,h=>by
  have:=Jp (bd:=bd) l (M5 (bd:=bd) h e)
  rw[List.foldl_cons,List.length_cons]
  rw[show n+(l.length+1)=n+1+l.length by omega];exact this
abbrev Xl(op pZ rl:Int)(s:SS)(t:ByteArray)(X Y:AV):AV:= .agg [.int op, .int pZ, .int rl, .ad 3 (iA s.dS), .ad 38 s.cx, .ad 3 (iA s.cg), .ad 9 (strs s.binds), .ad 3 (iA s.ck), .ad 9 (strs s.eqs), .lit (.string t),X,Y]
def zT:AT:=⟨0,ByteArray.mk #[],0,[]⟩
def nN(t:AT):AT:=⟨t.op,t.s,t.n,cG (aa t.l)⟩
structure SD where
 op:Int
 pZ:Int
 rl:Int
 q:SS
 t:ByteArray
 X:AT
 Y:AT
abbrev Qa(d:SD):AV:=Xl d.op d.pZ d.rl d.q d.t (cz d.X) (cz d.Y)
def s7(ds bd:List AV)(rel:ByteArray)(l:List AV)(op:Int)(u v:AT):SD:=
 bif op==2 then⟨2,0,cv rel ds,fA bd (dt l 0),ByteArray.mk #[],zT,zT⟩
 else bif op==1 then⟨1,0,cv rel ds,fA bd (dt l 0),ByteArray.mk #[],zT,zT⟩
 else bif op==3 then(bif wx bd u then⟨4,0,0,HO,u.s,nN v,zT⟩ else bif wx bd v then⟨4,0,0,HO,v.s,nN u,zT⟩ else⟨3,op,0,HO,ByteArray.mk #[],nN u,nN v⟩)
 else bif op==4||(op==5||op==6) then⟨3,op,0,HO,ByteArray.mk #[],nN u,nN v⟩
 else bif wx bd u then⟨5,op,cv rel ds,fA bd (dt l 0),u.s,zT,v⟩
 else⟨5,op,cv rel ds,fA bd (dt l 0),ByteArray.mk #[],u,v⟩
def rG(ds bd:List AV)(l:AV):SD:=s7 ds bd (toStr (af (af l 1) 0)) (ah (af (af l 1) 1)) (toInt (af l 0)) (sQ (af l 2)) (sQ (af l 3))
structure QD where
 rel:Int
 steps:List AV
 out:List AV
 delta:Int
abbrev qA(q:QD):AV:= .agg [.int q.rel, .ad 40 q.steps, .ad 38 q.out, .int q.delta]
def LB(a b n:Int):Bool:=(decide (0<=a)&&decide (a<n))&&(decide (0<=b)&&decide (b<n))
def Ca(ds rs:List AV)(a b n:Int):Int:=bif decide ((mo ds rs).2=0) then(bif LB a b n then 0 else 2) else(mo ds rs).2
theorem M4{ds rs:List AV}{a b n:Int}(h:Ca ds rs a b n=0):(mo ds rs).2=0/\(0<=a/\a<n)/\0<=b/\b<n:=by
 unfold Ca at h
 by_cases hc:(mo ds rs).2=0
 ·rw[aa6 hc,aa7] at h
  cases e:LB a b n with
  |true=>
   simp only[LB,aa1,aa0] at e
   exact⟨hc,e⟩
  |false=>rw[e] at h;cases h
 ·rw[aa4 hc,aa5] at h
  exact absurd h hc
theorem QH{ds rs:List AV}{a b n:Int}(hc:(mo ds rs).2=0)(ha:0<=a/\a<n)(hb:0<=b/\b<n):Ca ds rs a b n=0:=by
 unfold Ca
 rw[aa6 hc,aa7,show LB a b n=true by simp[LB,ha,hb]];rfl
abbrev Xf:List Nat:=Nl
noncomputable def Qm(κ:Kp):EB:=EB.calm ⟨V7 κ,eCs κ,mCs κ⟩ [888888]
end Go.Proofs.YtioeffnadipbaaaGreatDoor
namespace Go.Proofs.YtioeffnadipbaaaGreatDoor
open Go Go.Dn Go.Rl Go.Proofs
attribute [local irreducible] ba vc
set_option maxRecDepth 20000
def F7(l:List AV):List AV×List Dn.Obj:=([.ad 38 l],[])
def Ib(n:Nat)(l:List AV):Prop:=aI (aa l)=n/\n<=100000
def Er(l:List AV):Out (AV×List Dn.Obj):= .one (.ad 38 (cG (aa l)),[])
def MF(n:Nat):b7:=a0 F7 (Ib n) Er
noncomputable def LW(κ:Kp)(r:Nat):Env:=(Qm κ).E.az 64 fun args st K=>∃m,m<r/\MF m args st K
theorem xCp(κ:Kp)(r:Nat)(l:List AV)(i:Int)(xs:List AV)(k:Nat)(I:Nat->S->Prop)(n:Nat)(K:Exit->S->Prop):(vc (LW κ r) 12 64 none 0 (ag (Pr κ).toProgram 64 3) (sp 19 [(3, .aB 0 0 k),(6, .ad 38 l),(7, .int l.length),(8, .int i)] [.row 38 xs]) (bB (LW κ r) 64 3 0 I n K))=(
 letI z1:=nth l i.toNat
 letI z2:=i<(↑(l.length):Int)
 aw (decide z2) (aP (decide ((0:Int)<=i)&&decide z2) (∃(e2:Nat),e2<r/\∃(e1:List AV),([AV.ad 38 (ah (af z1 3))],[])=F7 e1/\Ib e2 e1/\aP
 (decide ((k+1+1)*57<=70368744177664)) (∃(e0:Nat),e0<n/\I e0 (sp 19 [(3,AV.aB 0 0 (k+1)),(6,AV.ad 38 l),(7,AV.int (↑(l.length):Int)),(8,
 AV.int (IntKind.wrap IntKind.i64 (i+(1:Int))))] [Obj.row 38 (List.take k xs++[AV.agg [AV.int (toInt (af z1 0)),AV.str (toStr (af z1 1)),AV.int (toInt
 (af z1 2)),AV.ad 38 (cG (aa e1))]])])))) (K (Exit.exit 0) (sp 19 [(3,AV.aB 0 0 k)] [Obj.row 38 xs]))):=by kernel_rfl
theorem Oq(x:AV):DQ (cI x)= .agg [.int (toInt (af x 0)), .lit (.string (toStr (af x 1))), .int (toInt (af x 2)), .ad 38 (cG (aa (ah (af x 3))))]:=by
 rw[cP,DQ]
theorem KG(l:List AV)(i:Nat)(h:i<l.length):cG (aa (l.take (i+1)))=cG (aa (l.take i))++[DQ (cI (nth l i))]:=by
 rw[List.take_add_one,ab6 h,←a7 l i h]
 simp[aa,wX,cG]
theorem MQ(l:List AV):(cG (aa l)).length=l.length:=by rw[xf,du]
abbrev E9(a:List AV×Nat):S:=sp 19 [(3, .aB 0 0 (cG (aa (a.1.take a.2))).length),(6, .ad 38 a.1),(7, .int a.1.length),(8, .int a.2)] [.row 38 (cG (aa (a.1.take a.2)))]
def zx(r:Nat)(a:List AV×Nat):Prop:=a.2<=a.1.length/\a.1.length<=100000/\aI (aa (a.1.drop a.2))<=r/\r<=100000
def Jr(a:List AV×Nat):Out (Exit×S):= .one (.exit 0,sp 19 [(3, .aB 0 0 (cG (aa a.1)).length)] [.row 38 (cG (aa a.1))])
theorem lCp(κ:Kp)(r:Nat):bf (LW κ r) 12 64 3 (aR 0 E9 (zx r) Jr):=by
 refine aG (fun a=>a.1.length - a.2) ?_
 rintro⟨l,i⟩ K ⟨h1,h2,h3,h4⟩ ho
 simp only at h1 h2 h3
 rw[show(LW κ r).P=Pr κ from rfl]
 refine Eq.mpr (xCp κ r l i (cG (aa (l.take i))) (cG (aa (l.take i))).length _ _ K) ?_
 rw[ae,aa0,aa2]
 refine⟨fun h=>ai.2 ⟨by simp;omega,?_⟩,fun h=>?_⟩
 ·have hk:i<l.length:=by omega
  have hc:=EF l i hk
  have he:=KG l i hk
  rw[Int.toNat_natCast]
  refine⟨_,?_,ah (af (nth l i) 3),rfl,⟨rfl,by omega⟩,ai.2 ⟨?_,_,?_,(l,i+1),?_,⟨hk,h2,by simp only;omega,h4⟩,rfl,ho⟩⟩
  ·simp only[Nat.lt_iff_add_one_le];omega
  ·rw[aa0,MQ,List.length_take];omega
  ·simp only;omega
  ·simp only[E9]
   rw[he,←Oq,List.take_length,aC (n:=(i:Int)+1) (by omega) (by omega),ab8]
   rfl
 ·obtain rfl:i=l.length:=by omega
  rw[List.take_length];exact ho
noncomputable def Qk(κ:Kp)(r:Nat):Env:=(LW κ r).ar 64 3 (aR 0 E9 (zx r) Jr)
theorem yCp(κ:Kp)(r:Nat)(l:List AV)(K:AV->List Dn.Obj->Prop):(ba (Qk κ r) 12 64 [.ad 38 l] [] K)=(
 letI z1:=Pg.toProgram (Env.P (LW κ r))
 ag z1 64 3=ag z1 64 3/\∃(e0:List AV×Nat),sp 19 [(3,AV.aB 0 0 0),(6,AV.ad 38 l),(7,AV.int (↑(l.length):Int)),(8,AV.int 0)] [Obj.row 38 []]=E9
 e0/\zx r e0/\K (AV.ad 38 (List.take (List.length (cG (aa e0.1))) (List.drop 0 (cG (aa e0.1))))) []):=by kernel_rfl
theorem eCq(κ:Kp)(r:Nat)(hp: ∀args st K,(∃m,m<r/\MF m args st K)->bD (Pr κ) 64 args st K):aE (Qk κ r)/\aj (Qk κ r)/\(Qk κ r).P=Pr κ:=
 have h:aE (LW κ r):=(Qm κ).ok.fT hp
 have hm:aj (LW κ r):=(Qm κ).mono.az (fun _ _ _ _ hK ⟨m,h1,h2⟩=>⟨m,h1,aZ _ _ _ _ hK h2⟩)
 ⟨h.ar hm (lCp κ r),hm.ar aW,rfl⟩
theorem cCp(κ:Kp)(r:Nat):bG (Qk κ r) 12 64 (MF r):=by
 refine bc ?_
 rintro l K ⟨h1,h2⟩ ho
 refine Eq.mpr (yCp κ r l K) ?_
 have:=ee (aa l)
 rw[du] at this
 refine⟨rfl,(l,0),rfl,⟨Nat.zero_le _,by simp only;omega,by simp only[ab0];omega,h2⟩,?_⟩
 simp only[Er,Out.run] at ho
 rw[ab0,List.take_length]
 exact ho
def zQ(l:List AV):Prop:=aI (aa l)<=100000
theorem qCp(κ:Kp): ∀args st K,a0 F7 zQ Er args st K->bD (Pr κ) 64 args st K:=by
 rintro args st K ⟨l,h1,h2,h3⟩
 exact aE.q9 MF (Qk κ) (eCq κ) (cCp κ) (aI (aa l)) args st K ⟨l,h1,⟨rfl,h2⟩,h3⟩
noncomputable def PZ(κ:Kp):EB:=⟨(Qm κ).E.az 64 (a0 F7 zQ Er),(Qm κ).ok.fT (qCp κ),(Qm κ).mono.az aZ⟩
structure SR where
 rel:ByteArray
 l:List AV
 xs:List AV
 i:Nat
abbrev KK(x:SR):S:=sp 24 [(0, .de 0),(6, .ad 38 x.l),(7, .int x.l.length),(8, .int x.i)] [.ext (some x.xs), .box 45 (.agg [.lit (.string x.rel), .ad 38 x.l])]
theorem xCl(κ:Kp)(x:SR)(I:Nat->S->Prop)(n:Nat)(K:Exit->S->Prop):(vc (PZ κ).E 12 188 none 2 (ag (Pr κ).toProgram 188 1) (KK x) (bB (PZ κ).E 188 1 2 I n K))=(
 letI z1:=nth x.l (Int.toNat (↑(x.i):Int))
 letI z2:=AV.agg [AV.str x.rel,AV.ad 38 x.l]
 letI z3:=IntKind.wrap IntKind.i64 ((↑(x.i):Int)+(1:Int))
 letI z4:=(↑(x.i):Int)<(↑(x.l.length):Int)
 aw (decide z4) (aP (true&&decide z4) (aw (toInt (af z1 0) != (4:Int)) (∃(e1:List AV),x.xs=AV.aX [AV.int (↑(x.i):Int),AV.agg [AV.int (toInt (af z1
 0)),AV.str (toStr (af z1 1)),AV.int (toInt (af z1 2)),AV.ad 38 (ah (af z1 3))]]::e1/\(∃(e0:Nat),e0<n/\I e0 (sp 24 [(0,AV.de 0),(6,AV.ad 38 x.l),
 (7,AV.int (↑(x.l.length):Int)),(8,AV.int z3)] [Obj.ext (some e1),Obj.box 45 z2]))/\K Exit.ret (sp 24 [] [Obj.ext none,Obj.box 45 z2])) (∃(e0:Nat),e0
 <n/\I e0 (sp 24 [(0,AV.de 0),(6,AV.ad 38 x.l),(7,AV.int (↑(x.l.length):Int)),(8,AV.int z3)] [Obj.ext (some x.xs),Obj.box 45 z2])))) (K (Exit.exit 0)
 (sp 24 [] [Obj.ext (some x.xs),Obj.box 45 z2]))):=by kernel_rfl
def DA(x:SR):Prop:=x.l.length<=100000/\x.i<=x.l.length/\x.xs=A1 (dt (x.l.drop x.i) x.i)
def Ok(x:SR):Out (Exit×S):= .all (fun _:Bool=>True) fun b=> .aw b
 (.one (.exit 0,sp 24 [] [.ext (some []), .box 45 (.agg [.lit (.string x.rel), .ad 38 x.l])]))
 (.one (.ret,sp 24 [] [.ext none, .box 45 (.agg [.lit (.string x.rel), .ad 38 x.l])]))
theorem Jc(l:List AV)(i:Nat)(h:i<l.length):dt (l.drop i) i=bif decide (toInt (af (nth l i) 0)=4) then dt (l.drop (i+1)) ((i+1:Nat):Int) else((i:Int),sQ (nth l i))::dt (l.drop (i+1)) ((i+1:Nat):Int):=by
 rw[ab1 h,←a7 l i h,dt];rfl
theorem lCl(κ:Kp):bf (PZ κ).E 12 188 1 (aR 2 KK DA Ok):=by
 refine aG (fun x=>x.l.length - x.i) ?_
 rintro⟨rel,l,xs,i⟩ K ⟨h1,h2,h3⟩ ho
 simp only at h1 h2 h3
 rw[show(PZ κ).E.P=Pr κ from rfl]
 refine Eq.mpr (xCl κ ⟨rel,l,xs,i⟩ _ _ K) ?_
 have ho1:=ho true trivial
 have ho2:=ho false trivial
 simp only[Out.run,aw] at ho1 ho2
 rw[ae,aa0,aa2]
 refine⟨fun h=>ai.2 ⟨by simp at h⊢;omega,?_⟩,fun h=>?_⟩
 ·have hk:i<l.length:=by simp only at h;omega
  have hd:=Jc l i hk
  rw[hd] at h3
  have next: ∀ys,ys=A1 (dt (l.drop (i+1)) ((i+1:Nat):Int))->∃m,m<l.length - i/\ig KK DA Ok (fun x=>x.l.length - x.i) K m (KK ⟨rel,l,ys,i+1⟩):=fun ys hy=>
   ⟨_,by simp only;omega,⟨rel,l,ys,i+1⟩,rfl,⟨h1,hk,hy⟩,rfl,ho⟩
  simp only[Int.toNat_natCast]
  rw[aC (n:=(i:Int)+1) (by omega) (by omega),ae]
  refine⟨fun e=>?_,fun e=>?_⟩
  ·rw[aa4 (by simpa using e),aa5] at h3
   exact⟨_,h3,next _ rfl,ho2⟩
  ·rw[aa6 (by simpa using e),aa7] at h3
   exact next _ h3
 ·have hk:i=l.length:=by simp only at h;omega
  rw[aa8 (by omega)] at h3
  have h3:xs=[]:=h3
  subst h3
  exact ho1
noncomputable def Wv(κ:Kp):EB:=(PZ κ).loop (lCl κ)
theorem yCl(κ:Kp)(l xs:List AV)(rel:ByteArray)(K:AV->List Dn.Obj->Prop):(ba (Wv κ).E 12 188 [.de 0, .ptr 1 0 [] 0] [.ext (some xs), .box 45 (.agg [.lit (.string rel), .ad 38 l])] K)=(
 letI z1:=Pg.toProgram (Env.P (EB.E (PZ κ)))
 ag z1 188 1=ag z1 188 1/\∃(e1:SR),sp 24 [(0,AV.de 0),(6,AV.ad 38 l),(7,AV.int (↑(l.length):Int)),(8,AV.int 0)] [Obj.ext (some xs),Obj.box 45
 (AV.agg [AV.str rel,AV.ad 38 l])]=KK e1/\DA e1/\∀(e0:Bool),True->aw e0 (K (AV.aX []) [Obj.ext (some []),Obj.box 45 (AV.agg [AV.str e1.rel,AV.ad 38
 e1.l])]) (K (AV.aX []) [Obj.ext none,Obj.box 45 (AV.agg [AV.str e1.rel,AV.ad 38 e1.l])])):=by kernel_rfl
abbrev Wd:=ByteArray×List AV
def N5(x:Wd):List AV×List Dn.Obj:=([.de 0, .ptr 1 0 [] 0],[.ext (some (A1 (dt x.2 0))), .box 45 (.agg [.lit (.string x.1), .ad 38 x.2])])
def EN(x:Wd):Prop:=x.2.length<=100000
def Ia(_:Wd):Out (AV×List Dn.Obj):= .all (fun st'=>vh st') fun st'=> .one (.aX [],st')
theorem cCl(κ:Kp):bG (Wv κ).E 12 188 (a0 N5 EN Ia):=by
 refine bc ?_
 rintro⟨rel,l⟩ K h1 ho
 refine Eq.mpr (yCl κ l (A1 (dt l 0)) rel K) ?_
 refine⟨rfl,⟨rel,l,A1 (dt l 0),0⟩,rfl,⟨h1,Nat.zero_le _,rfl⟩,fun y _=>?_⟩
 cases y
 ·exact ho _ trivial
 ·exact ho _ trivial
noncomputable def W5(κ:Kp):EB:=(Wv κ).call (cCl κ)
theorem VP(κ:Kp)(t:AT)(K:AV->List Dn.Obj->Prop):(ba (W5 κ).E 12 111 [cz t] [] K)=(
 ∃(a:List AV),([AV.ad 38 t.l],[])=F7 a/\zQ a/\K (AV.agg [AV.int t.op,AV.str t.s,AV.int t.n,AV.ad 38 (cG (aa a))]) []):=by kernel_rfl
def im(t:AT):List AV×List Dn.Obj:=([cz t],[])
def O3(t:AT):Out (AV×List Dn.Obj):= .one (LD t,[])
theorem XL(κ:Kp):bG (W5 κ).E 12 111 (a0 im (fun t=>t.tm.fS<=100000) O3):=by
 refine bc ?_
 rintro t K h ho
 refine Eq.mpr (VP κ t K) ?_
 have hc:t.tm.fS=1+aI (aa t.l):=by rw[AT.tm,Tm.fS]
 exact⟨t.l,rfl,by show aI (aa t.l)<=100000;omega,ho⟩
noncomputable def Ql(κ:Kp):EB:=(((W5 κ).call (XL κ)).Fm [111]).calm [111,64,63]
structure sv where
 ds:List AV
 rs:List AV
 bd:List AV
 rel:ByteArray
 l:List AV
 op:Int
 pZ:Int
 rl:Int
 s:ByteArray
 u:AT
 v:AT
abbrev Qo(x:sv):Dn.Obj:= .box 122 (.agg [mO x.ds x.rs, .ad 9 x.bd])
abbrev Tp(x:sv):Dn.Obj:= .box 45 (.agg [.lit (.string x.rel), .ad 38 x.l])
abbrev OF(x:sv)(rl:Int)(a b c d e f:AV):Dn.Obj:= .box 40 (.agg [.int x.op, .int x.pZ, .int rl,a,b,c,d,e,f, .lit (.string x.s),cz x.u,cz x.v])
noncomputable abbrev PR(κ:Kp)(x:sv):Dn.Obj:=
 .loop (iw (Pr κ).toProgram 117 3 .ready none (ic (bM 102) [(0, .ptr 0 0 [] 0),(1, .agg [.lit (.string x.rel), .ad 38 x.l]),(2, .ptr 1 0 [] 0),(3, .ptr 2 0 [] 0),(4, .ptr 3 0 [] 0),(5, .ptr 4 0 [] 0),(8, .aX [.int (cv x.rel x.ds), .bool (fr x.rel x.ds)]),(9, .ptr 1 0 [] 0),(10, .ptr 0 0 [] 0),(11, .ptr 0 0 [] 0),(12, .ptr 0 0 [0] 0),(13, .ptr 0 0 [0,0] 0),(14, .ad 43 x.ds),(15, .ptr 3 0 [0] 0),(16, .lit (.string x.rel)),(17, .aX [.int (cv x.rel x.ds), .bool (fr x.rel x.ds)]),(18, .int (cv x.rel x.ds)),(19, .bool (fr x.rel x.ds)),(20, .ptr 1 0 [] 0),(21, .ptr 1 0 [2] 2),(22, .agg [.lit (.string x.rel), .ad 38 x.l]),(23, .bq 188 [.ptr 5 0 [] 0])]))
noncomputable abbrev od(κ:Kp)(x:sv):List Dn.Obj:=[Qo x,OF x (cv x.rel x.ds) .nil .nil .nil .nil .nil .nil, .box 120 (.ptr 0 0 [] 0),Tp x, .box 185 (.ptr 1 0 [] 0),Tp x,PR κ x]
noncomputable abbrev Qz(κ:Kp)(x:sv):List Dn.Obj:=[Qo x,OF x (cv x.rel x.ds) .nil .nil .nil .nil .nil .nil, .box 120 (.ptr 0 0 [] 0),Tp x, .box 185 (.ptr 1 0 [] 0), .dead,PR κ x]
noncomputable abbrev kR(κ:Kp)(x:sv)(q:SS):List Dn.Obj:=[Qo x,OF x (cv x.rel x.ds) (.aB 7 0 (iA q.dS).length) (.aB 8 0 q.cx.length) (.aB 9 0 (iA q.cg).length) (.aB 10 0 (strs q.binds).length) (.aB 11 0 (iA q.ck).length) (.aB 12 0 (strs q.eqs).length), .box 120 (.ptr 0 0 [] 0),Tp x, .box 185 (.ptr 1 0 [] 0), .dead,PR κ x,
 .row 3 (iA q.dS), .row 38 q.cx, .row 3 (iA q.cg), .row 9 (strs q.binds), .row 3 (iA q.ck), .row 9 (strs q.eqs)]
def Yl:List (Nat×Nat×TypeId):=[(1,3,3),(1,4,38),(1,5,3),(1,6,9),(1,7,3),(1,8,9)]
theorem sAm(κ:Kp)(x:sv)(Q:List Dn.Obj->Prop):(tidy (Pr κ).toProgram 7 (ez (od κ x) (dj (od κ x) [.ptr 5 0 [] 0])) Q)=(
 letI z1:=cv x.rel x.ds
 letI z2:=fr x.rel x.ds
 Q [Obj.box 122 (AV.agg [AV.agg [AV.ad 43 x.ds,AV.ad 48 x.rs],AV.ad 9 x.bd]),Obj.box 40 (AV.agg [AV.int x.op,AV.int x.pZ,AV.int z1,AV.nil,AV.nil,AV.nil,
 AV.nil,AV.nil,AV.nil,AV.str x.s,cz x.u,cz x.v]),Obj.box 120 (AV.ptr 0 0 [] 0),Obj.box 45 (AV.agg [AV.str x.rel,AV.ad 38 x.l]),Obj.box 185 (AV.ptr 1 0
 [] 0),Obj.dead,Dn.Obj.loop (iw Tryz.prog 117 3 LoopState.ready none (ic (bM 102) [(0,AV.ptr 0 0 [] 0),(1,AV.agg [AV.str x.rel,AV.ad 38 x.l]),(2,AV.ptr 1
 0 [] 0),(3,AV.ptr 2 0 [] 0),(4,AV.ptr 3 0 [] 0),(5,AV.ptr 4 0 [] 0),(8,AV.aX [AV.int z1,AV.bool z2]),(9,AV.ptr 1 0 [] 0),(10,AV.ptr 0 0 [] 0),(11,
 AV.ptr 0 0 [] 0),(12,AV.ptr 0 0 [0] 0),(13,AV.ptr 0 0 [0,0] 0),(14,AV.ad 43 x.ds),(15,AV.ptr 3 0 [0] 0),(16,AV.str x.rel),(17,AV.aX [AV.int z1,
 AV.bool z2]),(18,AV.int z1),(19,AV.bool z2),(20,AV.ptr 1 0 [] 0),(21,AV.ptr 1 0 [2] 2),(22,AV.agg [AV.str x.rel,AV.ad 38 x.l]),(23,AV.bq 188
 [AV.ptr 5 0 [] 0])]))]):=by kernel_rfl
theorem rAm(κ:Kp)(x:sv)(q:SS)(i:Int)(t:AT)(Q:List Dn.Obj->Prop)(K2:List Dn.Obj->Prop):(iS (vc (Ql κ).E 12) 6 [.int i,cz t] (kR κ x q) (fun r st''=>match r with| .lit (.bool true)=>tidy (Pr κ).toProgram 7 st'' Q| .lit (.bool false)=>K2 st''|_=>False))=(
 letI z5:=decide ((List.length (iA q.ck)+1+1)*9<=70368744177664)
 letI z6:=decide ((List.length (iA q.cg)+1+1)*9<=70368744177664)
 letI z7:=strs q.binds
 letI z8:=AV.agg [AV.agg [AV.ad 43 x.ds,AV.ad 48 x.rs],AV.ad 9 x.bd]
 letI z9:=AV.agg [AV.str x.rel,AV.ad 38 x.l]
 letI z10:=strs q.eqs
 letI z11:=cv x.rel x.ds
 letI z12:=List.length z7
 letI z13:=List.length (iA q.dS)
 letI z14:=List.length (iA q.ck)
 letI z15:=List.length (iA q.cg)
 letI z16:=List.take z12 (List.drop 0 z7)
 letI z17:=List.length z10
 letI z18:=AV.ptr 0 0 [] 0
 letI z19:=AV.ptr 1 0 [] 0
 letI z20:=fr x.rel x.ds
 letI z1:=iw Tryz.prog 117 3 LoopState.ready none (ic (bM 102) [(0,AV.ptr 0 0 [] 0),(1,AV.agg [AV.str x.rel,AV.ad 38 x.l]),(2,AV.ptr 1 0 [] 0),(3,
  AV.ptr 2 0 [] 0),(4,AV.ptr 3 0 [] 0),(5,AV.ptr 4 0 [] 0),(8,AV.aX [AV.int z11,AV.bool z20]),(9,AV.ptr 1 0 [] 0),(10,AV.ptr 0 0 [] 0),(11,AV.ptr 0 0
  [] 0),(12,AV.ptr 0 0 [0] 0),(13,AV.ptr 0 0 [0,0] 0),(14,AV.ad 43 x.ds),(15,AV.ptr 3 0 [0] 0),(16,AV.str x.rel),(17,AV.aX [AV.int z11,AV.bool
  z20]),(18,AV.int z11),(19,AV.bool z20),(20,AV.ptr 1 0 [] 0),(21,AV.ptr 1 0 [2] 2),(22,AV.agg [AV.str x.rel,AV.ad 38 x.l]),(23,AV.bq 188 [AV.ptr 5 0
  [] 0])])
 letI z2:=aP (decide ((List.length z7+1+1)*17<=70368744177664)) (Q [Obj.box 122 z8,Obj.box 40 (AV.agg [AV.int x.op,AV.int x.pZ,AV.int z11,AV.aB 7 0
  z13,AV.aB 8 0 q.cx.length,AV.aB 9 0 (List.length (iA q.cg)+1),AV.aB 10 0 (List.length z7+1),AV.aB 11 0 z14,AV.aB 12 0 z17,AV.str x.s,cz x.u,cz
  x.v]),Obj.box 120 z18,Obj.box 45 z9,Obj.box 185 z19,Obj.dead,Dn.Obj.loop z1,Obj.row 3 (iA q.dS),Obj.row 38 q.cx,Obj.row 3 (List.take z15 (iA q.cg)++
  [AV.int i]),Obj.row 9 (List.take z12 z7++[AV.str t.s]),Obj.row 3 (iA q.ck),Obj.row 9 z10])
 letI z3:=aP (decide ((List.length z10+1+1)*17<=70368744177664)) (Q [Obj.box 122 z8,Obj.box 40 (AV.agg [AV.int x.op,AV.int x.pZ,AV.int z11,AV.aB 7 0
  z13,AV.aB 8 0 q.cx.length,AV.aB 9 0 z15,AV.aB 10 0 z12,AV.aB 11 0 (List.length (iA q.ck)+1),AV.aB 12 0 (List.length z10+1),AV.str x.s,cz x.u,cz
  x.v]),Obj.box 120 z18,Obj.box 45 z9,Obj.box 185 z19,Obj.dead,Dn.Obj.loop z1,Obj.row 3 (iA q.dS),Obj.row 38 q.cx,Obj.row 3 (iA q.cg),Obj.row 9 z7,
  Obj.row 3 (List.take z14 (iA q.ck)++[AV.int i]),Obj.row 9 (List.take z17 z10++[AV.str t.s])])
 letI z4:=aP (decide ((List.length (iA q.dS)+1+1)*9<=70368744177664)) (∃(e0:AT),([cz t],[])=im e0/\Tm.fS (AT.tm e0)<=100000/\aP (decide
  ((q.cx.length+1+1)*57<=70368744177664)) (Q [Obj.box 122 z8,Obj.box 40 (AV.agg [AV.int x.op,AV.int x.pZ,AV.int z11,AV.aB 7 0 (List.length (iA q.dS)+
  1),AV.aB 8 0 (q.cx.length+1),AV.aB 9 0 z15,AV.aB 10 0 z12,AV.aB 11 0 z14,AV.aB 12 0 z17,AV.str x.s,cz x.u,cz x.v]),Obj.box 120 z18,Obj.box 45 z9,
  Obj.box 185 z19,Obj.dead,Dn.Obj.loop z1,Obj.row 3 (List.take z13 (iA q.dS)++[AV.int i]),Obj.row 38 (List.take q.cx.length q.cx++[AV.agg [AV.int e0.op,
  AV.str e0.s,AV.int e0.n,AV.ad 38 (cG (aa e0.l))]]),Obj.row 3 (iA q.cg),Obj.row 9 z7,Obj.row 3 (iA q.ck),Obj.row 9 z10]))
 aw (t.op==(1:Int)) (aP (decide (x.bd.length<=9223372036854775807)) (aw (!!decide (dU t.s x.bd (0:Int)>=(0:Int))) z4 (aP (decide (List.length z16<=
 9223372036854775807)) (aw (decide (dU t.s z16 (0:Int)>=(0:Int))) ((aP z5 z3/\aP z5 z3)/\aP z5 z3) ((aP z6 z2/\aP z6 z2)/\aP z6 z2))))) z4):=by kernel_rfl
theorem mAm(κ:Kp)(x:sv):o5 Yl (Qz κ x)=kR κ x HO:=by kernel_rfl
theorem oAm(κ:Kp)(x:sv):qW (od κ x) [.ptr 5 0 [] 0]=true:=by kernel_rfl
theorem kAm(κ:Kp)(x:sv)(xs:List AV):(AV.de 0::fY (kn (dj (od κ x) [.ptr 5 0 [] 0])) [.ptr 5 0 [] 0],Obj.ext (some xs)::gK (kn (dj (od κ x) [.ptr 5 0 [] 0])) (ik (od κ x) (dj (od κ x) [.ptr 5 0 [] 0])))=([.de 0, .ptr 1 0 [] 0],[.ext (some xs),Tp x]):=by kernel_rfl
theorem yk: ∀{l:List AV} {x:AV},x∈l->(cI x).fS<=aI (aa l)
 | a::l,x,h=>by
  rw[aa,ac0,aI]
  rcases List.mem_cons.1 h with rfl|h
  ·omega
  ·have:=yk h
   rw[aa] at this;omega
theorem zD: ∀{l:List AV} {i:Int} {e:Int×AT},e∈dt l i->∃x,x∈l/\e.2=sQ x
 |[],_,_,h=>by simp[dt] at h
 | a::l,i,e,h=>by
  rw[dt] at h
  cases hc:decide (toInt (af a 0)=4) with
  |true=>
   rw[hc,aa7] at h
   obtain⟨x,h1,h2⟩:=zD h
   exact⟨x,by simp[h1],h2⟩
  | false=>
   rw[hc,aa5] at h
   rcases List.mem_cons.1 h with rfl|h
   ·exact⟨a,by simp,rfl⟩
   ·obtain⟨x,h1,h2⟩:=zD h
    exact⟨x,by simp[h1],h2⟩
structure qu(x:sv):Prop where
 hl:aI (aa x.l)<=100000
 hb:x.bd.length<=100000
 hd:x.ds.length<=aL
noncomputable def S4(κ:Kp)(x:sv):List AV×List Dn.Obj:=([.ptr 5 0 [] 0],od κ x)
noncomputable def RA(κ:Kp):dJ:=fun caps st K=>∃x:sv,(caps,st)=S4 κ x/\qu x/\K (kR κ x (fA x.bd (dt x.l 0)))
theorem GL(κ:Kp):(RA κ).ib:=by
 rintro caps st K K' hK ⟨a,h1,h2,h3⟩
 exact⟨a,h1,h2,hK _ h3⟩
theorem OM(κ:Kp)(args:List AV)(st:List Dn.Obj)(K:AV->List Dn.Obj->Prop)(h:a0 N5 EN Ia args st K):(Ql κ).E.call 188 args st K:=h
theorem W9{n:Nat}(h:n<=200000):decide ((n+1+1)*9<=70368744177664)=true:=by rw[aa0];omega
theorem TC{n:Nat}(h:n<=200000):decide ((n+1+1)*17<=70368744177664)=true:=by rw[aa0];omega
theorem Wi{n:Nat}(h:n<=200000):decide ((n+1+1)*57<=70368744177664)=true:=by rw[aa0];omega
attribute [local irreducible] o5
theorem gAm(κ:Kp):u7 (Ql κ).E 12 188 Yl (RA κ):=by
 rintro caps st K ⟨x,h1,hf,h5⟩
 obtain⟨rfl,rfl⟩:=Prod.mk.inj (show(caps,st)=([.ptr 5 0 [] 0],od κ x) from h1)
 have hll:=ee (aa x.l)
 rw[du] at hll
 have hl:=hf.hl
 have hb:=hf.hb
 have hcl:=qL x.l 0
 refine⟨A1 (dt x.l 0),fun items st'=>∃E1 E2,items=A1 E2/\st'=kR κ x (fA x.bd E1)/\E1++E2=dt x.l 0,⟨oAm κ x,?_,?_,?_,?_⟩⟩
 ·refine OM κ _ _ _ ⟨(x.rel,x.l),?_,by show x.l.length<=100000;omega,fun st' h=>h⟩
  rw[kAm];rfl
 ·rw[show(Ql κ).E.P=Pr κ from rfl,show(od κ x).length=7 from rfl,sAm]
  refine Exists.intro [] (Exists.intro (dt x.l 0) (And.intro (Eq.refl _) (And.intro ?_ (List.nil_append _))))
  exact mAm κ x
 ·rintro us rest st' ⟨E1,E2,e1,rfl,e3⟩
  cases E2 with
  |nil=>cases e1
  | cons e E2=>
   obtain⟨i,t⟩:=e
   obtain⟨hu,rfl⟩:=List.cons.inj e1
   obtain rfl:=AV.aX.inj hu
   rw[show(Ql κ).E.P=Pr κ from rfl,show(od κ x).length=7 from rfl]
   rw[show(7:Nat) - 1=6 from rfl,show[AV.int (i,t).1,cz (i,t).2]=[AV.int i,cz t] from rfl]
   refine Eq.mpr (rAm κ x (fA x.bd E1) i t (fun st'=>∃F1 F2,A1 E2=A1 F2/\st'=kR κ x (fA x.bd F1)/\F1++F2=dt x.l 0) K) ?_
   have hle:(fA x.bd E1).le (0+E1.length):=Jp (bd:=x.bd) E1 JP
   have hE:E1.length<=(dt x.l 0).length:=by rw[←e3];simp
   obtain⟨q1,q2,q3,q4,q5,q6⟩:=hle
   simp only[Nat.zero_add] at q1 q2 q3 q4 q5 q6
   have hc:t.tm.fS<=100000:=by
    obtain⟨y,y1,y2⟩:=zD (show(i,t)∈dt x.l 0 by rw[←e3];simp)
    have:=yk y1
    simp only at y2
    rw[y2,j8];omega
   have next: ∀st',st'=kR κ x (mS x.bd (fA x.bd E1) (i,t))->∃F1 F2,A1 E2=A1 F2/\st'=kR κ x (fA x.bd F1)/\F1++F2=dt x.l 0:=fun st' h=>
    ⟨E1++[(i,t)],E2,rfl,by rw[h];simp[fA],by rw[←e3];simp⟩
   generalize fA x.bd E1=q at*
   have hbd:decide (x.bd.length<=9223372036854775807)=true:=by rw[aa0];omega
   have hbn:decide ((strs q.binds).length<=9223372036854775807)=true:=by rw[aa0,aO];clear next;omega
   rw[←gq q.dS] at q1
   rw[←gq q.cg] at q3
   rw[←aO q.binds] at q4
   rw[←gq q.ck] at q5
   rw[←aO q.eqs] at q6
   have cA:wx x.bd t=false->∃F1 F2,A1 E2=A1 F2/\kR κ x {q with dS:=q.dS++[i],cx:=q.cx++[LD t]}=kR κ x (fA x.bd F1)/\F1++F2=dt x.l 0:=fun h=>next _ (by unfold mS;simp only[h];rfl)
   have cB:wx x.bd t=true->kD t.s (strs q.binds)=true->∃F1 F2,A1 E2=A1 F2/\kR κ x {q with ck:=q.ck++[i],eqs:=q.eqs++[t.s]}=kR κ x (fA x.bd F1)/\F1++F2=dt x.l 0:=fun h h2=>next _ (by unfold mS;simp only[h,h2];rfl)
   have cC:wx x.bd t=true->kD t.s (strs q.binds)=false->∃F1 F2,A1 E2=A1 F2/\kR κ x {q with cg:=q.cg++[i],binds:=q.binds++[t.s]}=kR κ x (fA x.bd F1)/\F1++F2=dt x.l 0:=fun h h2=>next _ (by unfold mS;simp only[h,h2];rfl)
   have iA1:iA [i]=[AV.int i]:=rfl
   have st1:strs [t.s]=[AV.str t.s]:=rfl
   simp only[kR,OF,Cs,gN,ab8,iA1,st1,List.length_singleton] at cA cB cC
   clear next h5 hf h1
   simp only[ab0,List.take_length]
   have b1:=W9 (n:=(iA q.dS).length) (by omega)
   have b2:=Wi (n:=q.cx.length) (by omega)
   have b3:=W9 (n:=(iA q.ck).length) (by omega)
   have b4:=TC (n:=(strs q.eqs).length) (by omega)
   have b5:=W9 (n:=(iA q.cg).length) (by omega)
   have b6:=TC (n:=(strs q.binds).length) (by omega)
   rw[ae]
   refine⟨fun e1=>ai.2 ⟨hbd,ae.2 ⟨fun e2=>?_,fun e2=>ai.2 ⟨hbn,ae.2 ⟨fun e3=>?_,fun e3=>?_⟩⟩⟩⟩,fun e1=>?_⟩
   ·exact ai.2 ⟨b1,t,rfl,hc,ai.2 ⟨b2,cA (by unfold wx kD;rw[Bool.not_not] at e2;rw[e2,Bool.not_true,Bool.and_false])⟩⟩
   ·have h:=cB (by unfold wx kD;rw[Bool.not_not] at e2;rw[e2,e1];rfl) e3
    repeat' first
     |exact ai.2 ⟨b3,ai.2 ⟨b4,h⟩⟩
     |refine And.intro ?_ ?_
   ·have h:=cC (by unfold wx kD;rw[Bool.not_not] at e2;rw[e2,e1];rfl) e3
    repeat' first
     |exact ai.2 ⟨b5,ai.2 ⟨b6,h⟩⟩
     |refine And.intro ?_ ?_
   ·exact ai.2 ⟨b1,t,rfl,hc,ai.2 ⟨b2,cA (by unfold wx;rw[e1,Bool.false_and])⟩⟩
 ·rintro st' ⟨E1,E2,e1,rfl,e3⟩
  obtain rfl:E2=[]:=by cases E2 with|nil=>rfl|cons _ _=>cases e1
  rw[List.append_nil] at e3
  rw[e3];exact h5
noncomputable def Xz(κ:Kp):EB:=(Ql κ).Pp 117 3 (GL κ) (gAm κ) (fun f=>gL f (188::Xf))
theorem yAm(κ:Kp)(x:sv)(K:AV->List Dn.Obj->Prop):(ba (Xz κ).E 12 117 [.ptr 0 0 [] 0, .agg [.lit (.string x.rel), .ad 38 x.l], .ptr 1 0 [] 0] [Qo x,OF x x.rl .nil .nil .nil .nil .nil .nil] K)=(
 letI z1:=AV.agg [AV.str x.rel,AV.ad 38 x.l]
 ∃(e1:List AV×ByteArray),([AV.ad 43 x.ds,AV.str x.rel],[])=FV e1/\oC e1/\∃(e0:sv),([AV.ptr 5 0 [] 0],[Obj.box 122 (AV.agg [AV.agg [AV.ad 43
 x.ds,AV.ad 48 x.rs],AV.ad 9 x.bd]),Obj.box 40 (AV.agg [AV.int x.op,AV.int x.pZ,AV.int (cv e1.2 e1.1),AV.nil,AV.nil,AV.nil,AV.nil,AV.nil,AV.nil,
 AV.str x.s,cz x.u,cz x.v]),Obj.box 120 (AV.ptr 0 0 [] 0),Obj.box 45 z1,Obj.box 185 (AV.ptr 1 0 [] 0),Obj.box 45 z1,Dn.Obj.loop (iw Tryz.prog 117 3
 LoopState.ready none (ic (bM 102) [(0,AV.ptr 0 0 [] 0),(1,AV.agg [AV.str x.rel,AV.ad 38 x.l]),(2,AV.ptr 1 0 [] 0),(3,AV.ptr 2 0 [] 0),(4,AV.ptr 3 0 []
 0),(5,AV.ptr 4 0 [] 0),(8,AV.aX [AV.int (cv e1.2 e1.1),AV.bool (fr e1.2 e1.1)]),(9,AV.ptr 1 0 [] 0),(10,AV.ptr 0 0 [] 0),(11,AV.ptr 0 0 [] 0),(12,
 AV.ptr 0 0 [0] 0),(13,AV.ptr 0 0 [0,0] 0),(14,AV.ad 43 x.ds),(15,AV.ptr 3 0 [0] 0),(16,AV.str x.rel),(17,AV.aX [AV.int (cv e1.2 e1.1),AV.bool (fr
 e1.2 e1.1)]),(18,AV.int (cv e1.2 e1.1)),(19,AV.bool (fr e1.2 e1.1)),(20,AV.ptr 1 0 [] 0),(21,AV.ptr 1 0 [2] 2),(22,AV.agg [AV.str x.rel,AV.ad 38
 x.l]),(23,AV.bq 188 [AV.ptr 5 0 [] 0])]))])=S4 κ e0/\qu e0/\K (AV.aX []) [Obj.box 122 (AV.agg [AV.agg [AV.ad 43 e0.ds,AV.ad 48 e0.rs],AV.ad 9 e0.bd]),
 Obj.box 40 (AV.agg [AV.int e0.op,AV.int e0.pZ,AV.int (cv e0.rel e0.ds),AV.aB 2 0 (List.length (iA (SS.dS (fA e0.bd (dt e0.l (0:Int)))))),AV.aB 3 0
 (List.length (SS.cx (fA e0.bd (dt e0.l (0:Int))))),AV.aB 4 0 (List.length (iA (SS.cg (fA e0.bd (dt e0.l (0:Int)))))),AV.aB 5 0 (List.length (strs
 (SS.binds (fA e0.bd (dt e0.l (0:Int)))))),AV.aB 6 0 (List.length (iA (SS.ck (fA e0.bd (dt e0.l (0:Int)))))),AV.aB 7 0 (List.length (strs (SS.eqs (fA e0.bd
 (dt e0.l (0:Int)))))),AV.str e0.s,cz e0.u,cz e0.v]),Obj.row 3 (iA (SS.dS (fA e0.bd (dt e0.l (0:Int))))),Obj.row 38 (SS.cx (fA e0.bd (dt e0.l (0:
 Int)))),Obj.row 3 (iA (SS.cg (fA e0.bd (dt e0.l (0:Int))))),Obj.row 9 (strs (SS.binds (fA e0.bd (dt e0.l (0:Int))))),Obj.row 3 (iA (SS.ck (fA e0.bd (dt
 e0.l (0:Int))))),Obj.row 9 (strs (SS.eqs (fA e0.bd (dt e0.l (0:Int)))))]):=by kernel_rfl
def w9(x:sv):List AV×List Dn.Obj:=([.ptr 0 0 [] 0, .agg [.lit (.string x.rel), .ad 38 x.l], .ptr 1 0 [] 0],[Qo x,OF x x.rl .nil .nil .nil .nil .nil .nil])
def iv(x:sv):SS:=fA x.bd (dt x.l 0)
abbrev Tt(x:sv)(q:SS):List Dn.Obj:=[Qo x,OF x (cv x.rel x.ds) (.aB 2 0 (iA q.dS).length) (.aB 3 0 q.cx.length) (.aB 4 0 (iA q.cg).length) (.aB 5 0 (strs q.binds).length) (.aB 6 0 (iA q.ck).length) (.aB 7 0 (strs q.eqs).length),
 .row 3 (iA q.dS), .row 38 q.cx, .row 3 (iA q.cg), .row 9 (strs q.binds), .row 3 (iA q.ck), .row 9 (strs q.eqs)]
def OA(x:sv):Out (AV×List Dn.Obj):= .one (.aX [],Tt x (iv x))
theorem cAm(κ:Kp):bG (Xz κ).E 12 117 (a0 w9 qu OA):=by
 refine bc ?_
 rintro x K hf ho
 refine Eq.mpr (yAm κ x K) ?_
 exact⟨(x.ds,x.rel),rfl,hf.hd,x,rfl,hf,ho⟩
noncomputable def WG(κ:Kp):EB:=(Xz κ).opened [(1,[10,3],38),(1,[11,3],38)] [] (cAm κ)
structure Qp where
 ds:List AV
 rs:List AV
 bd:List AV
 rel:ByteArray
 l:List AV
 op:Int
 u:AT
 v:AT
abbrev UI(x:Qp):Dn.Obj:= .box 122 (.agg [mO x.ds x.rs, .ad 9 x.bd])
theorem ySp(κ:Kp)(x:Qp)(K:AV->List Dn.Obj->Prop):(ba (WG κ).E 12 66 [.ptr 0 0 [] 0, .agg [.int x.op, .agg [.lit (.string x.rel), .ad 38 x.l],cz x.u,cz x.v]] [UI x] K)=(
 letI z4:=AV.agg [AV.agg [AV.ad 43 x.ds,AV.ad 48 x.rs],AV.ad 9 x.bd]
 letI z1:=∃(e1:AT),([AV.agg [AV.int x.u.op,AV.str x.u.s,AV.int x.u.n,AV.ad 38 x.u.l]],[])=im e1/\Tm.fS (AT.tm e1)<=100000/\∃(e0:AT),([AV.agg [AV.int x.v.op,AV.str x.v.s,AV.int x.v.n,AV.ad 38 x.v.l]],[])=im e0/\Tm.fS (AT.tm e0)<=100000/\K (AV.agg [AV.int 3,AV.int x.op,AV.int 0,AV.ad 3 [],AV.ad 38 [],AV.ad 3 [],AV.ad 9 [],AV.ad 3 [],AV.ad 9 [],AV.str {data:= #[]},AV.agg [AV.int e1.op,AV.str e1.s,AV.int e1.n,AV.ad 38 (cG (aa e1.l))],AV.agg [AV.int e0.op,AV.str e0.s,AV.int e0.n,AV.ad 38 (cG (aa e0.l))]]) [Obj.box 122 z4]
 letI z2:=∃(e0:sv),([AV.ptr 0 0 [] 0,AV.agg [AV.str x.rel,AV.ad 38 x.l],AV.ptr 1 0 [] 0],[Obj.box 122 z4,Obj.box 40 (AV.agg [AV.int 5,AV.int x.op,AV.int 0,AV.nil,AV.nil,AV.nil,AV.nil,AV.nil,AV.nil,AV.str {data:= #[]},AV.agg [AV.int x.u.op,AV.str x.u.s,AV.int x.u.n,AV.ad 38 x.u.l],AV.agg [AV.int x.v.op,AV.str x.v.s,AV.int x.v.n,AV.ad 38 x.v.l]])])=w9 e0/\qu e0/\K (AV.agg [AV.int e0.op,AV.int e0.pZ,AV.int (cv e0.rel e0.ds),AV.ad 3 (List.take (List.length (iA (SS.dS (iv e0)))) (List.drop 0 (iA (SS.dS (iv e0))))),AV.ad 38 (List.take (List.length (SS.cx (iv e0))) (List.drop 0 (SS.cx (iv e0)))),AV.ad 3 (List.take (List.length (iA (SS.cg (iv e0)))) (List.drop 0 (iA (SS.cg (iv e0))))),AV.ad 9 (List.take (List.length (strs (SS.binds (iv e0)))) (List.drop 0 (strs (SS.binds (iv e0))))),AV.ad 3 (List.take (List.length (iA (SS.ck (iv e0)))) (List.drop 0 (iA (SS.ck (iv e0))))),AV.ad 9 (List.take (List.length (strs (SS.eqs (iv e0)))) (List.drop 0 (strs (SS.eqs (iv e0))))),AV.str e0.s,AV.agg [AV.int e0.u.op,AV.str e0.u.s,AV.int e0.u.n,AV.ad 38 e0.u.l],AV.agg [AV.int e0.v.op,AV.str e0.v.s,AV.int e0.v.n,AV.ad 38 e0.v.l]]) [Obj.box 122 (AV.agg [AV.agg [AV.ad 43 e0.ds,AV.ad 48 e0.rs],AV.ad 9 e0.bd])]
 letI z5:=decide (x.bd.length<=9223372036854775807)
 letI z3:=aP z5 (aw (!decide (dU x.v.s x.bd (0:Int)>=(0:Int))) (∃(e0:AT),([AV.agg [AV.int x.u.op,AV.str x.u.s,AV.int x.u.n,AV.ad 38 x.u.l]],[])=im e0/\Tm.fS (AT.tm e0)<=100000/\K (AV.agg [AV.int 4,AV.int 0,AV.int 0,AV.ad 3 [],AV.ad 38 [],AV.ad 3 [],AV.ad 9 [],AV.ad 3 [],AV.ad 9 [],AV.str x.v.s,AV.agg [AV.int e0.op,AV.str e0.s,AV.int e0.n,AV.ad 38 (cG (aa e0.l))],AV.agg [AV.int 0,AV.str {data:= #[]},AV.int 0,AV.ad 38 []]]) [Obj.box 122 z4]) z1)
 letI z6:=!decide (dU x.u.s x.bd (0:Int)>=(0:Int))
 aw (x.op==(2:Int)) (∃(e0:sv),([AV.ptr 0 0 [] 0,AV.agg [AV.str x.rel,AV.ad 38 x.l],AV.ptr 1 0 [] 0],[Obj.box 122 z4,Obj.box 40 (AV.agg [AV.int 2,AV.int 0,AV.int 0,AV.nil,AV.nil,AV.nil,AV.nil,AV.nil,AV.nil,AV.str {data:= #[]},AV.agg [AV.int 0,AV.str {data:= #[]},AV.int 0,AV.ad 38 []],AV.agg [AV.int 0,AV.str {data:= #[]},AV.int 0,AV.ad 38 []]])])=w9 e0/\qu e0/\K (AV.agg [AV.int e0.op,AV.int e0.pZ,AV.int (cv e0.rel e0.ds),AV.ad 3 (List.take (List.length (iA (SS.dS (iv e0)))) (List.drop 0 (iA (SS.dS (iv e0))))),AV.ad 38 (List.take (List.length (SS.cx (iv e0))) (List.drop 0 (SS.cx (iv e0)))),AV.ad 3 (List.take (List.length (iA (SS.cg (iv e0)))) (List.drop 0 (iA (SS.cg (iv e0))))),AV.ad 9 (List.take (List.length (strs (SS.binds (iv e0)))) (List.drop 0 (strs (SS.binds (iv e0))))),AV.ad 3 (List.take (List.length (iA (SS.ck (iv e0)))) (List.drop 0 (iA (SS.ck (iv e0))))),AV.ad 9 (List.take (List.length (strs (SS.eqs (iv e0)))) (List.drop 0 (strs (SS.eqs (iv e0))))),AV.str e0.s,AV.agg [AV.int e0.u.op,AV.str e0.u.s,AV.int e0.u.n,AV.ad 38 e0.u.l],AV.agg [AV.int e0.v.op,AV.str e0.v.s,AV.int e0.v.n,AV.ad 38 e0.v.l]]) [Obj.box 122 (AV.agg [AV.agg [AV.ad 43 e0.ds,AV.ad 48 e0.rs],AV.ad 9 e0.bd])]) (aw (x.op==(1:Int)) (∃(e0:sv),([AV.ptr 0 0 [] 0,AV.agg [AV.str x.rel,AV.ad 38 x.l],AV.ptr 1 0 [] 0],[Obj.box 122 z4,Obj.box 40 (AV.agg [AV.int 1,AV.int 0,AV.int 0,AV.nil,AV.nil,AV.nil,AV.nil,AV.nil,AV.nil,AV.str {data:= #[]},AV.agg [AV.int 0,AV.str {data:= #[]},AV.int 0,AV.ad 38 []],AV.agg [AV.int 0,AV.str {data:= #[]},AV.int 0,AV.ad 38 []]])])=w9 e0/\qu e0/\K (AV.agg [AV.int e0.op,AV.int e0.pZ,AV.int (cv e0.rel e0.ds),AV.ad 3 (List.take (List.length (iA (SS.dS (iv e0)))) (List.drop 0 (iA (SS.dS (iv e0))))),AV.ad 38 (List.take (List.length (SS.cx (iv e0))) (List.drop 0 (SS.cx (iv e0)))),AV.ad 3 (List.take (List.length (iA (SS.cg (iv e0)))) (List.drop 0 (iA (SS.cg (iv e0))))),AV.ad 9 (List.take (List.length (strs (SS.binds (iv e0)))) (List.drop 0 (strs (SS.binds (iv e0))))),AV.ad 3 (List.take (List.length (iA (SS.ck (iv e0)))) (List.drop 0 (iA (SS.ck (iv e0))))),AV.ad 9 (List.take (List.length (strs (SS.eqs (iv e0)))) (List.drop 0 (strs (SS.eqs (iv e0))))),AV.str e0.s,AV.agg [AV.int e0.u.op,AV.str e0.u.s,AV.int e0.u.n,AV.ad 38 e0.u.l],AV.agg [AV.int e0.v.op,AV.str e0.v.s,AV.int e0.v.n,AV.ad 38 e0.v.l]]) [Obj.box 122 (AV.agg [AV.agg [AV.ad 43 e0.ds,AV.ad 48 e0.rs],AV.ad 9 e0.bd])]) (aw (x.op==(3:Int)) (aw (x.u.op==(1:Int)) (aP z5 (aw z6 (∃(e0:AT),([AV.agg [AV.int x.v.op,AV.str x.v.s,AV.int x.v.n,AV.ad 38 x.v.l]],[])=im e0/\Tm.fS (AT.tm e0)<=100000/\K (AV.agg [AV.int 4,AV.int 0,AV.int 0,AV.ad 3 [],AV.ad 38 [],AV.ad 3 [],AV.ad 9 [],AV.ad 3 [],AV.ad 9 [],AV.str x.u.s,AV.agg [AV.int e0.op,AV.str e0.s,AV.int e0.n,AV.ad 38 (cG (aa e0.l))],AV.agg [AV.int 0,AV.str {data:= #[]},AV.int 0,AV.ad 38 []]]) [Obj.box 122 z4]) (aw (x.v.op==(1:Int)) z3 (∃(e1:AT),([AV.agg [AV.int x.u.op,AV.str x.u.s,AV.int x.u.n,AV.ad 38 x.u.l]],[])=im e1/\Tm.fS (AT.tm e1)<=100000/\∃(e0:AT),([AV.agg [AV.int x.v.op,AV.str x.v.s,AV.int x.v.n,AV.ad 38 x.v.l]],[])=im e0/\Tm.fS (AT.tm e0)<=100000/\K (AV.agg [AV.int 3,AV.int x.op,AV.int 0,AV.ad 3 [],AV.ad 38 [],AV.ad 3 [],AV.ad 9 [],AV.ad 3 [],AV.ad 9 [],AV.str {data:= #[]},AV.agg [AV.int e1.op,AV.str e1.s,AV.int e1.n,AV.ad 38 (cG (aa e1.l))],AV.agg [AV.int e0.op,AV.str e0.s,AV.int e0.n,AV.ad 38 (cG (aa e0.l))]]) [Obj.box 122 z4])))) (aw (x.v.op==(1:Int)) z3 z1)) (aw (x.op==(4:Int)) z1 (aw (x.op==(5:Int)) z1 (aw (x.op==(6:Int)) z1 (aw (x.u.op==(1:Int)) (aP z5 (aw z6 (∃(e0:sv),([AV.ptr 0 0 [] 0,AV.agg [AV.str x.rel,AV.ad 38 x.l],AV.ptr 1 0 [] 0],[Obj.box 122 z4,Obj.box 40 (AV.agg [AV.int 5,AV.int x.op,AV.int 0,AV.nil,AV.nil,AV.nil,AV.nil,AV.nil,AV.nil,AV.str x.u.s,AV.agg [AV.int 0,AV.str {data:= #[]},AV.int 0,AV.ad 38 []],AV.agg [AV.int x.v.op,AV.str x.v.s,AV.int x.v.n,AV.ad 38 x.v.l]])])=w9 e0/\qu e0/\K (AV.agg [AV.int e0.op,AV.int e0.pZ,AV.int (cv e0.rel e0.ds),AV.ad 3 (List.take (List.length (iA (SS.dS (iv e0)))) (List.drop 0 (iA (SS.dS (iv e0))))),AV.ad 38 (List.take (List.length (SS.cx (iv e0))) (List.drop 0 (SS.cx (iv e0)))),AV.ad 3 (List.take (List.length (iA (SS.cg (iv e0)))) (List.drop 0 (iA (SS.cg (iv e0))))),AV.ad 9 (List.take (List.length (strs (SS.binds (iv e0)))) (List.drop 0 (strs (SS.binds (iv e0))))),AV.ad 3 (List.take (List.length (iA (SS.ck (iv e0)))) (List.drop 0 (iA (SS.ck (iv e0))))),AV.ad 9 (List.take (List.length (strs (SS.eqs (iv e0)))) (List.drop 0 (strs (SS.eqs (iv e0))))),AV.str e0.s,AV.agg [AV.int e0.u.op,AV.str e0.u.s,AV.int e0.u.n,AV.ad 38 e0.u.l],AV.agg [AV.int e0.v.op,AV.str e0.v.s,AV.int e0.v.n,AV.ad 38 e0.v.l]]) [Obj.box 122 (AV.agg [AV.agg [AV.ad 43 e0.ds,AV.ad 48 e0.rs],AV.ad 9 e0.bd])]) z2)) z2))))))):=by kernel_rfl
structure Ol(x:Qp):Prop where
 hl:aI (aa x.l)<=100000
 hb:x.bd.length<=100000
 hd:x.ds.length<=aL
 hu:x.u.tm.fS<=100000
 hv:x.v.tm.fS<=100000
def S2(x:Qp):List AV×List Dn.Obj:=([.ptr 0 0 [] 0, .agg [.int x.op, .agg [.lit (.string x.rel), .ad 38 x.l],cz x.u,cz x.v]],[UI x])
def St(x:Qp):Out (AV×List Dn.Obj):= .one (Qa (s7 x.ds x.bd x.rel x.l x.op x.u x.v),[UI x])
theorem cSp(κ:Kp):bG (WG κ).E 12 66 (a0 S2 Ol St):=by
 refine bc ?_
 rintro x K hf ho
 refine Eq.mpr (ySp κ x K) ?_
 have hbd:decide (x.bd.length<=9223372036854775807)=true:=by
  have:=hf.hb
  rw[aa0];omega
 have fa: ∀op pZ rl s u v,qu ⟨x.ds,x.rs,x.bd,x.rel,x.l,op,pZ,rl,s,u,v⟩:=fun _ _ _ _ _ _=>⟨hf.hl,hf.hb,hf.hd⟩
 have ho:K (Qa (s7 x.ds x.bd x.rel x.l x.op x.u x.v)) [UI x]:=ho
 unfold s7 wx at ho
 simp only[ab0,List.take_length,hbd]
 cases h2:(x.op==2) with
 |true=>
  rw[h2] at ho
  exact⟨⟨x.ds,x.rs,x.bd,x.rel,x.l,2,0,0,ByteArray.mk #[],zT,zT⟩,rfl,fa _ _ _ _ _ _,ho⟩
 | false=>
  rw[h2] at ho
  cases h1:(x.op==1) with
  |true=>
   rw[h1] at ho
   exact⟨⟨x.ds,x.rs,x.bd,x.rel,x.l,1,0,0,ByteArray.mk #[],zT,zT⟩,rfl,fa _ _ _ _ _ _,ho⟩
  | false=>
   rw[h1] at ho
   cases h3:(x.op==3) with
   | true=>
    rw[h3] at ho
    cases hu1:(x.u.op==1)<;>rw[hu1] at ho
    ·cases hv1:(x.v.op==1)<;>rw[hv1] at ho
     ·exact⟨x.u,rfl,hf.hu,x.v,rfl,hf.hv,ho⟩
     ·cases hv2:kD x.v.s x.bd<;>rw[hv2] at ho<;>unfold kD at hv2<;>rw[hv2]
      ·exact⟨x.u,rfl,hf.hu,ho⟩
      ·exact⟨x.u,rfl,hf.hu,x.v,rfl,hf.hv,ho⟩
    ·cases hu2:kD x.u.s x.bd<;>rw[hu2] at ho<;>unfold kD at hu2<;>rw[hu2]
     ·exact⟨x.v,rfl,hf.hv,ho⟩
     ·cases hv1:(x.v.op==1)<;>rw[hv1] at ho
      ·exact⟨x.u,rfl,hf.hu,x.v,rfl,hf.hv,ho⟩
      ·cases hv2:kD x.v.s x.bd<;>rw[hv2] at ho<;>unfold kD at hv2<;>rw[hv2]
       ·exact⟨x.u,rfl,hf.hu,ho⟩
       ·exact⟨x.u,rfl,hf.hu,x.v,rfl,hf.hv,ho⟩
   | false=>
    rw[h3] at ho
    cases h4:(x.op==4) with
    |true=>rw[h4] at ho;exact⟨x.u,rfl,hf.hu,x.v,rfl,hf.hv,ho⟩
    | false=>
     rw[h4] at ho
     cases h5:(x.op==5) with
     |true=>rw[h5] at ho;exact⟨x.u,rfl,hf.hu,x.v,rfl,hf.hv,ho⟩
     | false=>
      rw[h5] at ho
      cases h6:(x.op==6) with
      |true=>rw[h6] at ho;exact⟨x.u,rfl,hf.hu,x.v,rfl,hf.hv,ho⟩
      | false=>
       rw[h6] at ho
       cases hu1:(x.u.op==1)<;>rw[hu1] at ho
       ·exact⟨⟨x.ds,x.rs,x.bd,x.rel,x.l,5,x.op,0,ByteArray.mk #[],x.u,x.v⟩,rfl,fa _ _ _ _ _ _,ho⟩
       ·cases hu2:kD x.u.s x.bd<;>rw[hu2] at ho<;>unfold kD at hu2<;>rw[hu2]
        ·exact⟨⟨x.ds,x.rs,x.bd,x.rel,x.l,5,x.op,0,x.u.s,zT,x.v⟩,rfl,fa _ _ _ _ _ _,ho⟩
        ·exact⟨⟨x.ds,x.rs,x.bd,x.rel,x.l,5,x.op,0,ByteArray.mk #[],x.u,x.v⟩,rfl,fa _ _ _ _ _ _,ho⟩
noncomputable def XP(κ:Kp):EB:=(((WG κ).call (cSp κ)).calm [66]).opens [(32,5,[(1193,some 40)])]
end Go.Proofs.YtioeffnadipbaaaGreatDoor
namespace Go.Proofs.YtioeffnadipbaaaGreatDoor
open Go Go.Dn Go.Rl Go.Proofs
theorem rh{f:AV->Int}: ∀{rs:List AV},(Fj f rs).2=0↔ ∀x,x∈rs->f x=0
 |[]=>by simp[Fj]
 |x::l=>by
  rw[Fj]
  by_cases h:f x=0
  ·rw[aa6 h,aa7,rh];simp[h]
  ·rw[aa4 h,aa5];simp[h]
theorem H5{ds rs:List AV}:(mo ds rs).2=0↔fB ds rs=true/\(NT ds ds 0).2=0/\(∀x,x∈rs->kz ds x=0)/\∀x,x∈rs->jG x=0:=by
 unfold mo vL
 cases fB ds rs with
 |false=>simp
 | true=>
  simp only[aa7,true_and]
  by_cases h:(NT ds ds 0).2=0
  ·rw[aa6 h,aa7]
   by_cases h2:(Fj (kz ds) rs).2=0
   ·rw[aa6 h2,aa7,rh]
    exact⟨fun h3=>⟨h,rh.1 h2,h3⟩,fun h3=>h3.2.2⟩
   ·rw[aa4 h2,aa5]
    exact⟨fun h3=>absurd h3 h2,fun h3=>absurd (rh.2 h3.2.1) h2⟩
  ·rw[aa4 h,aa5,aa4 h,aa5]
   exact⟨fun h3=>absurd h3 h,fun h3=>absurd h3.1 h⟩
theorem RB{ds:List AV}{r:cf}(h:(sX (ds,r)).1=0):jE (ct ds) (aF r)=0:=by
 by_cases e:jE (ct ds) (aF r)=0
 ·exact e
 ·exfalso
  have hr: ∀n,(fD getM fZ (ct ds) (aF r) (n+1) []).1=jE (ct ds) (aF r):=fun n=>by
   rw[fD,BO _ _ _ e,aa4 e,aa5]
  unfold sX Jy at h
  simp only[hr,aa4 e,aa5] at h
  exact e h
theorem uQ{ds:List Dc}: ∀{b:List Lt},iJ ds b=0->∀l,l∈b->Rl.fL l=true->known ds l.a=0
 |[],_,_,h,_=>nomatch h
 | x::b,hk,l,hl,ha=>by
  rw[iJ] at hk
  cases e:Rl.fL x&& !decide (known ds x.a=0) with
  |true=>
   rw[e,aa7] at hk
   rw[hk] at e;simp at e
  |false=>
   rw[e,aa5] at hk
   rcases List.mem_cons.1 hl with rfl|hl
   ·rw[ha] at e;simpa using e
   ·exact uQ hk l hl ha
def fL(op:Int):Bool:=bif decide (op<3) then true else decide (op>6)
end Go.Proofs.YtioeffnadipbaaaGreatDoor
namespace Go.Proofs.YtioeffnadipbaaaGreatDoor
open Go Go.Dn Go.Rl Go.Proofs
attribute [local irreducible] ba vc
set_option maxRecDepth 20000
structure Ln(a:cf):Prop where
 s:da a
 r:aV (aF a)=true
 f:jI (aF a)=true
def TO(a:cf):List AV×List Dn.Obj:=([au a],[])
def Rm(a:cf):Out (AV×List Dn.Obj):= .one (.aX [.aB 0 0 (bP (aF a)).length, .int 0],[.row 3 (ints (bP (aF a)))])
def R5(x:cf×Nat):List AV×List Dn.Obj:=([au x.1, .int x.2],[])
def KL(x:cf×Nat):Prop:=Ln x.1/\x.2<=x.1.bl.length
def SW(x:cf×Nat):Out (AV×List Dn.Obj):= .one (.aX [.ad 9 (strs (kk (aF x.1) x.2)), .int 0],[])
theorem Ry: ∀args st K,a0 TO Ln Rm args st K->a0 AM da Hk args st K:=by
 rintro args st K ⟨a,h1,h2,h3⟩
 refine⟨a,h1,h2.s,?_⟩
 simp only[Hk,Out.run]
 rw[h2.r,h2.f]
 exact h3
theorem Sz: ∀args st K,a0 R5 KL SW args st K->a0 LS zA xP args st K:=by
 rintro args st K ⟨⟨a,k⟩,h1,⟨h2,hk⟩,h3⟩
 simp only at h2 hk
 refine⟨(a,(k:Int)),h1,h2.s,?_⟩
 simp only[xP,Out.run]
 rw[h2.r,h2.f,show(decide ((k:Int)<0)||decide ((a.bl.length:Int)<k))=false by simp;omega]
 exact h3
theorem Pj(κ:Kp)(args:List AV)(st:List Dn.Obj)(K:AV->List Dn.Obj->Prop)(h:a0 AM da Hk args st K):(XP κ).E.call 62 args st K:=h
noncomputable def YJ(κ:Kp):EB:=(XP κ).narrow (Pj κ) Ry
theorem Po(κ:Kp)(args:List AV)(st:List Dn.Obj)(K:AV->List Dn.Obj->Prop)(h:a0 LS zA xP args st K):(YJ κ).E.call 65 args st K:=h
noncomputable def BBd(κ:Kp):EB:=(YJ κ).narrow (Po κ) Sz
noncomputable def Ot(κ:Kp):EB:=(BBd κ).calm [62,65]
abbrev qZ:Dn.Obj:= .box 31 (.agg [.int 0, .nil, .nil, .int 0])
abbrev Qe(ds rs:List AV)(a:cf)(rl:Int)(xs os:List AV)(ws:List Nat)(i:Int):S:=sp 66 [(2, .ptr 0 0 [] 0),(3, .ptr 1 0 [] 0),(4, .ptr 2 0 [] 0),(7, .ptr 3 0 [] 0),(35, .aB 5 0 ws.length),(36, .int ws.length),(37, .int i)] [.box 25 (mO ds rs), .box 48 (au a),qZ, .box 31 (.agg [.int rl, .aB 4 0 xs.length, .ad 38 os, .int (-1)]), .row 40 xs, .row 3 (ints ws)]
theorem xMd(κ:Kp)(ds rs:List AV)(a:cf)(rl:Int)(xs os:List AV)(ws:List Nat)(i:Int)(I:Nat->S->Prop)(n:Nat)(K:Exit->S->Prop):(vc (Ot κ).E 12 32 none 0 (ag (Pr κ).toProgram 32 5) (Qe ds rs a rl xs os ws i) (bB (Ot κ).E 32 5 0 I n K))=(
 letI z2:=AV.agg [AV.int 0,AV.nil,AV.nil,AV.int 0]
 letI z3:=AV.agg [AV.ad 43 ds,AV.ad 48 rs]
 letI z4:=AV.agg [AV.int rl,AV.aB 4 0 xs.length,AV.ad 38 os,AV.int (-1)]
 letI z5:=nth (ints ws) (0+i.toNat)
 letI z1:=nth a.bl (Int.toNat (toInt z5))
 letI z6:=i<(↑(ws.length):Int)
 aw (decide z6) (aP (decide ((0:Int)<=i)&&decide z6) (∃(e2:cf×Nat),([au a,AV.int i],[])=R5 e2/\KL e2/\aP (decide ((0:Int)<=toInt z5)&&
 decide (toInt z5<(↑(a.bl.length):Int))) (∃(e1:Qp),([AV.ptr 0 0 [] 0,AV.agg [AV.int (toInt (af z1 0)),AV.agg [AV.str (toStr (af (af z1 1) 0)),AV.ad 38
 (ah (af (af z1 1) 1))],AV.agg [AV.int (toInt (af (af z1 2) 0)),AV.str (toStr (af (af z1 2) 1)),AV.int (toInt (af (af z1 2) 2)),AV.ad 38 (ah (af (af z1 2)
 3))],AV.agg [AV.int (toInt (af (af z1 3) 0)),AV.str (toStr (af (af z1 3) 1)),AV.int (toInt (af (af z1 3) 2)),AV.ad 38 (ah (af (af z1 3) 3))]]],[Obj.box 122
 (AV.agg [AV.agg [AV.ad 43 ds,AV.ad 48 rs],AV.ad 9 (strs (kk (aF e2.1) e2.2))])])=S2 e1/\Ol e1/\(Obj.box 25 z3=Obj.box 25 z3/\Obj.box 48 (au a)=
 Obj.box 48 (au a)/\Obj.box 31 z2=Obj.box 31 z2/\Obj.box 31 z4=Obj.box 31 z4/\Obj.box 122 (AV.agg [AV.agg [AV.ad 43 e1.ds,AV.ad 48 e1.rs],AV.ad 9
 e1.bd])=Obj.box 122 (AV.agg [AV.agg [AV.ad 43 ds,AV.ad 48 rs],AV.ad 9 (strs (kk (aF e2.1) e2.2))])/\True)/\aP (decide ((xs.length+1+1)*297<=
 70368744177664)) (∃(e0:Nat),e0<n/\I e0 (sp 66 [(2,AV.ptr 0 0 [] 0),(3,AV.ptr 1 0 [] 0),(4,AV.ptr 2 0 [] 0),(7,AV.ptr 3 0 [] 0),(35,AV.aB 5 0
 ws.length),(36,AV.int (↑(ws.length):Int)),(37,AV.int (IntKind.wrap IntKind.i64 (i+(1:Int))))] [Obj.box 25 z3,Obj.box 48 (au a),Obj.box 31 z2,
 Obj.box 31 (AV.agg [AV.int rl,AV.aB 4 0 (xs.length+1),AV.ad 38 os,AV.int (-1)]),Obj.row 40 (List.take xs.length xs++[AV.agg [AV.int (SD.op (s7 e1.ds
 e1.bd e1.rel e1.l e1.op e1.u e1.v)),AV.int (SD.pZ (s7 e1.ds e1.bd e1.rel e1.l e1.op e1.u e1.v)),AV.int (SD.rl (s7 e1.ds e1.bd e1.rel e1.l e1.op e1.u e1.v)),
 AV.ad 3 (iA (SS.dS (SD.q (s7 e1.ds e1.bd e1.rel e1.l e1.op e1.u e1.v)))),AV.ad 38 (SS.cx (SD.q (s7 e1.ds e1.bd e1.rel e1.l e1.op e1.u e1.v))),AV.ad 3 (iA
 (SS.cg (SD.q (s7 e1.ds e1.bd e1.rel e1.l e1.op e1.u e1.v)))),AV.ad 9 (strs (SS.binds (SD.q (s7 e1.ds e1.bd e1.rel e1.l e1.op e1.u e1.v)))),AV.ad 3 (iA (SS.ck
 (SD.q (s7 e1.ds e1.bd e1.rel e1.l e1.op e1.u e1.v)))),AV.ad 9 (strs (SS.eqs (SD.q (s7 e1.ds e1.bd e1.rel e1.l e1.op e1.u e1.v)))),AV.str (SD.t (s7 e1.ds e1.bd
 e1.rel e1.l e1.op e1.u e1.v)),AV.agg [AV.int (AT.op (SD.X (s7 e1.ds e1.bd e1.rel e1.l e1.op e1.u e1.v))),AV.str (AT.s (SD.X (s7 e1.ds e1.bd e1.rel e1.l e1.op
 e1.u e1.v))),AV.int (AT.n (SD.X (s7 e1.ds e1.bd e1.rel e1.l e1.op e1.u e1.v))),AV.ad 38 (AT.l (SD.X (s7 e1.ds e1.bd e1.rel e1.l e1.op e1.u e1.v)))],AV.agg
 [AV.int (AT.op (SD.Y (s7 e1.ds e1.bd e1.rel e1.l e1.op e1.u e1.v))),AV.str (AT.s (SD.Y (s7 e1.ds e1.bd e1.rel e1.l e1.op e1.u e1.v))),AV.int (AT.n (SD.Y (s7
 e1.ds e1.bd e1.rel e1.l e1.op e1.u e1.v))),AV.ad 38 (AT.l (SD.Y (s7 e1.ds e1.bd e1.rel e1.l e1.op e1.u e1.v)))]]]),Obj.row 3 (ints ws)]))))) (K (Exit.exit 0)
 (sp 66 [(4,AV.ptr 0 0 [] 0),(7,AV.ptr 1 0 [] 0)] [Obj.box 31 z2,Obj.box 31 (AV.agg [AV.int rl,AV.aB 2 0 xs.length,AV.ad 38 os,AV.int (-1)]),Obj.row 40
 xs]))):=by kernel_rfl
theorem Eo: ∀{l:List Nat} {x:Nat},x∈l->x<=l.sum
 |a::l,x,h=>by
  rw[List.sum_cons]
  rcases List.mem_cons.1 h with rfl|h
  ·omega
  ·have:=Eo h;omega
theorem vZ{a:cf}(h:da a){l:AV}(hl:l∈a.bl):aI (aa (ah (af (af l 1) 1)))<=100000/\(cI (af l 2)).fS<=100000/\(cI (af l 3)).fS<=100000:=by
 have h1:=h.1
 rw[lX 38 a.rel a.hl a.bl] at h1
 have h2:iH (cR l)<=((dh a.bl).map iH).sum:=Eo (List.mem_map_of_mem (List.mem_map_of_mem hl))
 simp only[ph] at h1
 have h3:iH (cR l)=aI [cI (af l 2),cI (af l 3)]+aI (aa (ah (af (af l 1) 1))):=rfl
 simp only[aI] at h3
 omega
def iD(ds:List AV)(a:cf)(n:Nat):List AV:=(List.range n).map fun k=>Qa (rG ds (strs (kk (aF a) k)) (nth a.bl ((bP (aF a)).getD k 0)))
theorem Bb(ds:List AV)(a:cf)(n:Nat):iD ds a (n+1)=iD ds a n++[Qa (rG ds (strs (kk (aF a) n)) (nth a.bl ((bP (aF a)).getD n 0)))]:=by
 simp[iD,List.range_succ]
theorem pJ(ds:List AV)(a:cf)(n:Nat):(iD ds a n).length=n:=by simp[iD]
structure Uy where
 ds:List AV
 rs:List AV
 a:cf
 rl:Int
 os:List AV
 i:Nat
abbrev O9(x:Uy):S:=Qe x.ds x.rs x.a x.rl (iD x.ds x.a x.i) x.os (bP (aF x.a)) x.i
def JI(x:Uy):Prop:=Ln x.a/\x.ds.length<=aL/\x.i<=(bP (aF x.a)).length
def QY(x:Uy):Out (Exit×S):= .one (.exit 0,sp 66 [(4, .ptr 0 0 [] 0),(7, .ptr 1 0 [] 0)] [qZ, .box 31 (.agg [.int x.rl, .aB 2 0 (iD x.ds x.a (bP (aF x.a)).length).length, .ad 38 x.os, .int (-1)]), .row 40 (iD x.ds x.a (bP (aF x.a)).length)])
theorem lMd(κ:Kp):bf (Ot κ).E 12 32 5 (aR 0 O9 JI QY):=by
 refine aG (fun x=>(bP (aF x.a)).length - x.i) ?_
 rintro⟨ds,rs,a,rl,os,i⟩ K ⟨ha,hd,hi⟩ ho
 simp only at ha hd hi
 rw[show(Ot κ).E.P=Pr κ from rfl]
 refine Eq.mpr (xMd κ ds rs a rl (iD ds a i) os (bP (aF a)) i _ _ K) ?_
 have hw:=lC ha.f
 have hbl:=ha.s.2
 rw[ae,aa0,aa2]
 refine⟨fun h=>?_,fun h=>?_⟩
 ·have hk:i<(bP (aF a)).length:=by omega
  have hwk:(bP (aF a))[i]<a.bl.length:=by
   have:=qb (List.getElem_mem hk)
   rwa [fp] at this
  have hx:nth a.bl (bP (aF a))[i]∈a.bl:=by rw[a7 _ _ hwk];exact List.getElem_mem _
  have hf:=vZ ha.s hx
  have hgd:(bP (aF a)).getD i 0=(bP (aF a))[i]:=by simp[List.getD_eq_getElem?_getD,hk]
  have hv:(strs (kk (aF a) i)).length<=100000:=by
   have h1:=xO ha.s
   have h2:(kk (aF a) i).length<=(dc (aF a)).length:=List.length_filter_le _ _
   rw[aO];omega
  have hs:=Bb ds a i
  rw[hgd] at hs
  simp only[Int.toNat_natCast,Nat.zero_add,AN _ _ hk]
  refine ai.2 ⟨by simp;omega,(a,i),rfl,⟨ha,by show i<=a.bl.length;omega⟩,ai.2 ⟨by simp;omega,⟨ds,rs,strs (kk (aF a) i),toStr (af (af (nth a.bl (bP (aF a))[i]) 1) 0),ah (af (af (nth a.bl (bP (aF a))[i]) 1) 1),toInt (af (nth a.bl (bP (aF a))[i]) 0),sQ (af (nth a.bl (bP (aF a))[i]) 2),sQ (af (nth a.bl (bP (aF a))[i]) 3)⟩,rfl,⟨hf.1,hv,hd,by rw[j8];exact hf.2.1,by rw[j8];exact hf.2.2⟩,by simp,ai.2 ⟨?_,_,?_,⟨ds,rs,a,rl,os,i+1⟩,?_,⟨ha,hd,hk⟩,rfl,ho⟩⟩⟩
  ·rw[aa0,pJ];omega
  ·simp only;omega
  ·simp only[O9,Qe]
   rw[hs,List.take_length,aC (n:=(i:Int)+1) (by omega) (by omega),ab8]
   rfl
 ·obtain rfl:i=(bP (aF a)).length:=by omega
  exact ho
noncomputable def U8(κ:Kp):EB:=(Ot κ).loop (lMd κ)
theorem yMd(κ:Kp)(ds rs:List AV)(a:cf)(K:AV->List Dn.Obj->Prop):(ba (U8 κ).E 12 32 [mO ds rs,au a] [] K)=(
 letI z1:=Pg.toProgram (Env.P (EB.E (Ot κ)))
 ∃(e3:List AV×ByteArray),([AV.ad 43 ds,AV.str a.rel],[])=FV e3/\oC e3/\∃(e2:List AV),([AV.ad 38 a.hl],[])=F7 e2/\zQ e2/\∃(e1:cf),([au
 a],[])=TO e1/\Ln e1/\ag z1 32 5=ag z1 32 5/\∃(e0:Uy),sp 66 [(2,AV.ptr 0 0 [] 0),(3,AV.ptr 1 0 [] 0),(4,AV.ptr 2 0 [] 0),(7,AV.ptr 3 0 [] 0),
 (35,AV.aB 5 0 (List.length (bP (aF e1)))),(36,AV.int (↑(List.length (bP (aF e1))):Int)),(37,AV.int 0)] [Obj.box 25 (AV.agg [AV.ad 43 ds,AV.ad 48 rs]),
 Obj.box 48 (au a),Obj.box 31 (AV.agg [AV.int 0,AV.nil,AV.nil,AV.int 0]),Obj.box 31 (AV.agg [AV.int (cv e3.2 e3.1),AV.aB 4 0 0,AV.ad 38 (cG (aa e2)),
 AV.int (-1)]),Obj.row 40 [],Obj.row 3 (ints (bP (aF e1)))]=O9 e0/\JI e0/\K (AV.agg [AV.int e0.rl,AV.ad 40 (List.take (List.length (iD e0.ds e0.a
 (List.length (bP (aF e0.a))))) (List.drop 0 (iD e0.ds e0.a (List.length (bP (aF e0.a)))))),AV.ad 38 e0.os,AV.int (-1)]) []):=by kernel_rfl
def dx(ds:List AV)(a:cf):QD:=⟨cv a.rel ds,iD ds a (bP (aF a)).length,cG (aa a.hl), -1⟩
structure Sc where
 ds:List AV
 rs:List AV
 a:cf
def O2(x:Sc):List AV×List Dn.Obj:=([mO x.ds x.rs,au x.a],[])
def Cj(x:Sc):Prop:=Ln x.a/\x.ds.length<=aL
def Ta(x:Sc):Out (AV×List Dn.Obj):= .one (qA (dx x.ds x.a),[])
theorem cM0(κ:Kp):bG (U8 κ).E 12 32 (a0 O2 Cj Ta):=by
 refine bc ?_
 rintro⟨ds,rs,a⟩ K ⟨ha,hd⟩ ho
 simp only at ha hd
 refine Eq.mpr (yMd κ ds rs a K) ?_
 have hh:aI (aa a.hl)<=100000:=by
  have h1:=ha.s.1
  rw[lX 38 a.rel a.hl a.bl] at h1
  simp only[ph] at h1;omega
 refine⟨(ds,a.rel),rfl,hd,a.hl,rfl,hh,a,rfl,ha,rfl,⟨ds,rs,a,cv a.rel ds,cG (aa a.hl),0⟩,rfl,⟨ha,hd,Nat.zero_le _⟩,?_⟩
 rw[ab0,List.take_length]
 exact ho
noncomputable def Sm(κ:Kp):EB:=((U8 κ).call (cM0 κ)).calm [32]
theorem ZT(κ:Kp)(ds rs:List AV)(k:Int)(K:AV->List Dn.Obj->Prop):(ba (Sm κ).E 12 13 [mO ds rs, .int k] [] K)=(
 letI z1:=K (AV.aX [AV.agg [AV.int 0,AV.nil,AV.nil,AV.int 0],AV.int 2]) []
 letI z2:=nth rs k.toNat
 ∃(e1:Qn),([AV.agg [AV.ad 43 ds,AV.ad 48 rs]],[])=Jm e1/\uA e1/\aw (Prod.snd (mo e1.1 e1.2) != (0:Int)) (K (AV.aX [AV.agg [AV.int 0,AV.nil,AV.nil,
 AV.int 0],AV.int (Prod.snd (mo e1.1 e1.2))]) []) (aw (decide (k<(0:Int))) z1 (aw (decide (k>=(↑(rs.length):Int))) z1 (aP (decide ((0:Int)<=k)&&
 decide (k<(↑(rs.length):Int))) (∃(e0:Sc),([AV.agg [AV.ad 43 ds,AV.ad 48 rs],AV.agg [AV.agg [AV.str (toStr (af (af z2 0) 0)),AV.ad 38 (ah (af (af z2
 0) 1))],AV.ad 80 (ah (af z2 1)),AV.int (toInt (af z2 2))]],[])=O2 e0/\Cj e0/\K (AV.aX [AV.agg [AV.int (QD.rel (dx e0.ds e0.a)),AV.ad 40 (QD.steps (dx
 e0.ds e0.a)),AV.ad 38 (QD.out (dx e0.ds e0.a)),AV.int (QD.delta (dx e0.ds e0.a))],AV.int 0]) []))))):=by kernel_rfl
theorem Ek{ds rs:List AV}(hs:mK ds rs)(h:(mo ds rs).2=0){r:AV}(hr:r∈rs):Ln (eW r):=by
 have h4:=(H5.1 h).2.2.2 r hr
 refine⟨hs.2.2 r hr,?_,?_⟩
 ·cases e:aV (aF (eW r)) with
  |true=>rfl
  |false=>
   unfold jG yx at h4
   rw[e] at h4
   cases h4
 ·cases e:aV (aF (eW r)) with
  | true=>
   cases e2:jI (aF (eW r)) with
   |true=>rfl
   |false=>
    unfold jG yx at h4
    rw[e,e2] at h4
    cases h4
  |false=>
   unfold jG yx at h4
   rw[e] at h4
   cases h4
structure U4 where
 ds:List AV
 rs:List AV
 k:Int
def RM(x:U4):List AV×List Dn.Obj:=([mO x.ds x.rs, .int x.k],[])
def JV(x:U4):Out (AV×List Dn.Obj):= .aw (decide (Ca x.ds x.rs x.k x.k x.rs.length=0))
 (.one (.aX [qA (dx x.ds (eW (nth x.rs x.k.toNat))), .int 0],[]))
 (.one (.aX [.agg [.int 0, .nil, .nil, .int 0], .int (Ca x.ds x.rs x.k x.k x.rs.length)],[]))
theorem Yc(κ:Kp):bG (Sm κ).E 12 13 (a0 RM (fun x=>mK x.ds x.rs) JV):=by
 refine bc ?_
 rintro⟨ds,rs,k⟩ K hs ho
 simp only at hs
 refine Eq.mpr (ZT κ ds rs k K) ?_
 simp only[JV,Out.run,ae,aa0,aa2] at ho
 refine⟨(ds,rs),rfl,hs,?_⟩
 simp only[ae,ai,bne_iff_ne,bne_eq_false_iff_eq,aa0,aa2,aa1]
 refine⟨fun e=>?_,fun e=>⟨fun e2=>?_,fun e2=>⟨fun e3=>?_,fun e3=>⟨⟨by omega,by omega⟩,?_⟩⟩⟩⟩
 ·have hk:Ca ds rs k k rs.length=(mo ds rs).2:=by unfold Ca;rw[aa4 e];rfl
  have:=ho.2 (by rw[hk];exact e)
  rw[hk] at this;exact this
 ·have hk:Ca ds rs k k rs.length=2:=by
   unfold Ca
   rw[aa6 e,show LB k k (rs.length:Int)=false by unfold LB;simp;omega];rfl
  have:=ho.2 (by rw[hk];decide)
  rw[hk] at this;exact this
 ·have hk:Ca ds rs k k rs.length=2:=by
   unfold Ca
   rw[aa6 e,show LB k k (rs.length:Int)=false by unfold LB;simp;omega];rfl
  have:=ho.2 (by rw[hk];decide)
  rw[hk] at this;exact this
 ·have hk:k.toNat<rs.length:=by omega
  have hx:nth rs k.toNat∈rs:=by rw[a7 _ _ hk];exact List.getElem_mem _
  exact⟨⟨ds,rs,eW (nth rs k.toNat)⟩,rfl,⟨Ek hs e hx,hs.1⟩,ho.1 (QH e ⟨by omega,by omega⟩ ⟨by omega,by omega⟩)⟩
noncomputable def BQo(κ:Kp):EB:=(Sm κ).call (Yc κ)
end Go.Proofs.YtioeffnadipbaaaGreatDoor
