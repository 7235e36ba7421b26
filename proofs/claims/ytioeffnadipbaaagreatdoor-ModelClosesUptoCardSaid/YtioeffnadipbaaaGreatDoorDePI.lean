import Derived.Test.YtioeffnadipbaaaGreatDoorDePH
namespace Go.Proofs.YtioeffnadipbaaaGreatDoor
open Go Go.Dn Go.Rl Go.Proofs
section
variable {ds rs xs:List AV} {aZ:Nat} {R:List RL}
theorem tq(h:dX ds R):R.map dk=R:=
 (List.map_congr_left fun L a=>(FL (h.v L a) (h.r L a) (by simp)).symm).trans (by simp)
structure SZ(ds rs:List AV)(aZ:Nat)(R:List RL):Prop where
 o:jS ds rs aZ R
 t:oG ds R
 n:cM R<=aZ
 g:(ub ds rs).2=0
 c: ∀r,r∈rs->∀x,x∈dp ds rs (cK r) R->x∈R.getD (atR ds r) []
theorem ac5(hs:S1 xs)(l:lI ds rs xs=true)(t:1<=aZ)(s:aZ<=50)(d:tJ ds rs xs (gD xs) aZ=0):SZ ds rs aZ (ke ds rs (gD xs) aZ)/\fT ds rs xs=true/\Le ((gD xs).map dk) (ke ds rs (gD xs) aZ):=by
 have s1:=KA hs l t s;have k:=s1.o;have f:(ub ds rs).2=0:=by
  unfold tJ at d
  grind
 have c:fT ds rs xs=true:=by
  unfold tJ at d
  grind
 obtain⟨v,w,e,m⟩:=To s1.o d;have a:=k f c;have n:xs.length<=60:=by
  simp_all[lI]
 have j: ∀b A,dX ds A->Le A (dR ds rs aZ b A):=by
  intro b;induction b with
  |nil=>exact fun A _=>Le.refl A
  |cons g b q=>exact fun A h=>(Ck  (g:=g) (F:=fun _=>True) a.p (by simp) 99 A h).1.trans (q _ (sK a.p g aZ 99 A h).1)
 exact⟨⟨m,Je a.p _ _ a.A (RE hs n c),e,f,fun r u x i=>XX a e u x i⟩,c,j _ _ a.A⟩
theorem ag5(h:SZ ds rs aZ R)(b:1<=aZ):nM ⟨ds,rs,aI R,R,aZ⟩/\tJ ds rs (aI R) R aZ=0/\ke ds rs R aZ=R:=by
 have f:=wE h.o.p h.o.A h.t;have hd:=tV h.o.p;have j:=h.o.A.len;have e:ke ds rs R aZ=R:=by
  unfold ke;rw[tq h.o.A];exact tW h.o.p h.o.A h.c h.n _
 refine⟨⟨h.o.p.s,by rw[qm h.o.p.s,m9 h.o];rfl,fun _=>⟨dm R,by grind,fun i=>kR R i,fun L a=>?_⟩,⟨b,h.o.l⟩,fun _ _=>by rw[tq h.o.A];exact h.o⟩,?_,e⟩
 ·have a:L∈R:=a
  have k:=oD a;have d:=h.o.n;obtain⟨i,q,rfl⟩:=List.getElem_of_mem a;refine⟨by omega,fun r m=>wy h.o.p h.o.A i r ?_,h.o.A.v _ a⟩
  grind
 ·have d:=h.n
  unfold tJ;rw[e,aD1 h.g,f,aC9 (by omega)];rfl
theorem Jh(h:SZ ds rs aZ R) i:fp (rws (R.getD i []))=true:=by
 refine np ?_ fun r a=>wy h.o.p h.o.A i r a
 rcases Nat.lt_or_ge i R.length with k|k
 ·have:=oD (km k)
  have:=h.o.n;omega
 grind
theorem Uj(hs:S1 xs)(m:xs.length<=60)(h:SZ ds rs aZ R)(a:fT ds rs xs=true)(c:Le ((gD xs).map dk) R) i(j:i<xs.length):wZ (ag (nth xs i),rws (R.getD i [])):=by
 have k:=BR hs m a;simp only[fT,aC6] at a;have l:i<(gD xs).length:=by simpa[gD] using j
 have e:(gD xs)[i]=dh (ag (nth xs i)):=by
  rw[←se,List.getD_eq_getElem?_getD,aE0 l];rfl
 have g:gU (dh (ag (nth xs i))):=by rw[←e];exact(k.i.f _ (by simp)).v
 have d:=ss a.2.2 i j;simp only[qW,aC6] at d;have b:=mj h.o.A i;refine⟨⟨nk hs.f i,Jh h i,?_⟩,d.2,?_⟩
 ·simp only[iB]
  refine wz g b.1 d.2 b.2 fun r n=>c i r ?_
  simp_all[jP]
 grind [iB]
theorem ME(h:SZ ds rs aZ R)(hl:aZ<=50){r:AV}(hr:r∈rs):wZ (rws (dp ds rs (cK r) R),rws (R.getD (atR ds r) [])):=by
 have b:=mj h.o.A (atR ds r);obtain⟨g1,g2,g3⟩:=nW h.o.p hr h.o.A;have hn:=h.n;have hv:=I3 h.o.p hr (h.o.t r hr) (show cM R<=50 by omega);have hs:(dp ds rs (cK r) R).length<=125000:=Nat.le_trans (qH _) hv;have hw:=IK h.o.p (atR ds r);refine⟨⟨np (by omega) (fun x hx=>by have:=g3 x hx;omega),Jh h _,?_⟩,?_,?_⟩
 ·simp only[iB]
  exact wz g1 b.1 g2 b.2 (h.c r hr)
 ·simp only[iB];exact g2
 ·simp only[iB];exact b.2
end
end Go.Proofs.YtioeffnadipbaaaGreatDoor
namespace Go.Proofs.YtioeffnadipbaaaGreatDoor
open Go Go.Dn Go.Rl Go.Proofs
attribute [local irreducible] a8 vc
set_option maxRecDepth 20000
structure AFz where
 ds:List AV
 rel:ByteArray
 i:Nat
abbrev UE(x:AFz):=sp 21 [(0, .ah 43 x.ds),(1, .lit (.string x.rel)),(6, .int x.i)] []
theorem xFz κ x I n K:(vc (Zu κ).E 12 25 none 0 (ad (Pr κ).toProgram 25 2) (UE x) (bg (Zu κ).E 25 2 0 I n K))=(
 letI a:=↑(x.i)<(↑(x.ds.length):Int)
 aq (decide a) (aW (true&&decide a) (aq (ByteArray.toList (toStr (af (nth x.ds (Int.toNat ↑(x.i))) 0))==ByteArray.toList x.rel) (K .ret (sp 21
 [(4,AV.int ↑(x.i)),(5,AV.bool true)] [])) (∃e0,e0<n/\I e0 (sp 21 [(0,.ah 43 x.ds),(1,AV.str x.rel),(6,AV.int (IntKind.wrap
 .i64 (↑(x.i)+1)))] [])))) (K (.exit 0) (sp 21 [] []))):=by kernel_rfl
def QF(x:AFz):=x.i<=x.ds.length/\x.ds.length<=aX
def ah9(x:AFz):Out (Exit×S):= .aq (decide (0<=jE x.rel (x.ds.drop x.i) x.i)) (.one (.ret,sp 21 [(4, .int (jE x.rel (x.ds.drop x.i) x.i)),(5, .bool true)] [])) (.one (.exit 0,sp 21 [] []))
theorem lFz κ:aU (Zu κ).E 12 25 2 (aG 0 UE QF ah9):=by
 refine aC (fun x=>x.ds.length - x.i) ?_;rintro⟨ds,a,i⟩ K ⟨f,d⟩ b;simp only[aX] at f d;refine Eq.mpr (xFz κ ⟨ds,a,i⟩ _ _ K) ?_;simp only[Int.toNat_natCast];have b:aq (decide (0<=jE a (ds.drop i) i)) _ (K (.exit 0) (sp 21 [] [])):=b;rw[ae,at3,aC7];refine⟨fun h=>ai.2 ⟨by simp;omega,?_⟩,fun h=>?_⟩
 ·have c:i<ds.length:=by omega
  rw[aD6 c,←aV ds i c,jE] at b;refine ae.2 ⟨fun e=>?_,fun e=>⟨_,?_,⟨ds,a,i+1⟩,?_,⟨c,by simp only[aX];omega⟩,rfl,?_⟩⟩
  ·rw[show oT (toStr (af (nth ds i) 0)) a=true from e,aD2] at b
   exact b
  ·simp only;omega
  ·simp only[UE]
   grind [az]
  ·rw[show oT (toStr (af (nth ds i) 0)) a=false from e,aD0] at b
   exact b
 ·rw[aD3 (by omega)] at b
  exact b
noncomputable def BFz κ:=(Zu κ).loop (lFz _)
theorem yFz κ ds rel K:(a8 (BFz κ).E 12 25 [.ah 43 ds, .lit (.string rel)] [] K)=(
 letI a:=Pg.toProgram (Env.P (EB.E (Zu κ)))
 ad a 25 2=ad a 25 2/\∃e0,sp 21 [(0,.ah 43 ds),(1,AV.str rel),(6,AV.int 0)] []=UE e0/\QF e0/\aq (decide (0<=jE e0.rel
 (List.drop e0.i e0.ds) ↑(e0.i))) (K (.aH [AV.int (jE e0.rel (List.drop e0.i e0.ds) ↑(e0.i)),AV.bool true]) []) (K (.aH [AV.int 0,AV.bool
 false]) [])):=by kernel_rfl
theorem cFz κ:bd (BFz κ).E 12 25 (aM Bh gZ CQ):=by
 refine aQ ?_;rintro⟨ds,b⟩ K hs a
 replace a:K _ _:=a
 refine Eq.mpr (yFz _ _ _ K) ⟨rfl,⟨_,_,0⟩,rfl,⟨Nat.zero_le _,hs⟩,?_⟩
 grind [bu,BU,ae]
noncomputable def BFy κ:=EB.owns ((BFz κ).call (cFz _)) [50,24]
theorem yFy κ ds rs ALL k K:(a8 (BFy κ).E 12 24 [eg ds rs, .int k, .ak 0 0 ALL.length] [.row 51 ALL] K)=(
 letI a:=AV.int
 letI b:=Obj.row
 letI d:=K (.aH [AV.nil,a 2]) [b 51 ALL]
 letI c:=nth rs k.toNat
 letI e:=List.take ALL.length (List.drop 0 ALL)
 ∃e1,([eg ds rs],[])=Rp e1/\za e1/\aq (Prod.snd (lA e1.1 e1.2) != 0) (K (.aH [AV.nil,a (Prod.snd (lA e1.1 e1.2))]) [b 51
 ALL]) (aq (decide (k<0)) d (aq (decide (k>=↑(rs.length))) d (aW (List.all rs ei&&fS e) (aq (!fT ds rs e) (K (.aH [AV.nil,a 90])
 [b 51 ALL]) (aW (decide (0<=k)&&decide (k<↑(rs.length))) (∃e0,([eg ds rs,.agg [.agg [AV.str (toStr (af (af c 0) 0)),
 .ah 38 (ag (af (af c 0) 1))],.ah 80 (ag (af c 1)),a (toInt (af c 2))],.ak 0 0 ALL.length],[b 51 ALL])=IA e0/\oZ e0/\(.box 25 (eg
 ds rs)=Obj.box 25 (eg ds rs)/\True)/\K (.aH [.ah 70 (rws (dp e0.ds e0.rs e0.r e0.all)),a 0]) [b 51 ALL]))))))):=by kernel_rfl
structure AFy where
 ds:List AV
 rs:List AV
 k:Nat
 aZ:Nat
 R:List RL
def ao5(x:AFy):List AV×List Dn.Obj:=([eg x.ds x.rs, .int x.k, .ak 0 0 (aI x.R).length],[.row 51 (aI x.R)])
def QE(x:AFy):=SZ x.ds x.rs x.aZ x.R/\x.aZ<=50/\x.k<x.rs.length
def ah8(x:AFy):Out (AV×List Dn.Obj):= .one (.aH [.ah 70 (rws (dp x.ds x.rs (cK (nth x.rs x.k)) x.R)), .int 0],[.row 51 (aI x.R)])
theorem cFy κ:bd (BFy κ).E 12 24 (aM ao5 QE ah8):=by
 refine aQ ?_;rintro⟨ds,rs,k,aZ,R⟩ K ⟨a,g,e⟩ f;simp only at a g e;have b:List.take (aI R).length (List.drop 0 (aI R))=aI R:=by grind
 have d:nth rs k∈rs:=by rw[aV _ _ e];exact List.getElem_mem _
 have h:=wE a.o.p a.o.A a.t;have i:=a.n;refine Eq.mpr (yFy κ ds rs (aI R) k K) ⟨(ds,rs),rfl,a.o.p.s,ae.2 ⟨fun c=>?_,fun _=>ae.2 ⟨fun c=>?_,fun _=>ae.2 ⟨fun c=>?_,fun _=>ai.2 ⟨?_,ae.2 ⟨fun c=>?_,fun _=>ai.2 ⟨?_,_,?_,Vv a.o.p d (a.o.t _ d) a.o.A (by omega),⟨rfl,trivial⟩,f⟩⟩⟩⟩⟩⟩⟩
 ·rw[a.o.p.c] at c;cases c
 ·have:=of_decide_eq_true c;omega
 ·have:=of_decide_eq_true c;omega
 ·rw[b,qm a.o.p.s,m9 a.o];rfl
 ·rw[b,h] at c;cases c
 ·simp;omega
 ·rw[Int.toNat_natCast];rfl
noncomputable def Sg κ:=(BFy κ).call (cFy _)
abbrev evT ds rs xs a b aZ i n:=sp 67 [(2, .int aZ),(3, .ptr 1 0 [] 0),(8, .ak 2 0 (iM b).length),(11, .ak 3 0 n),(38, .ak 0 0 xs.length),(39, .int xs.length),(40, .int i)] [.row 51 xs, .box 25 (eg ds rs), .row 35 (iM b), .row 51 a]
theorem xOj κ ds rs xs ALL gs aZ(i:Nat) I N K:(vc (Sg κ).E 12 19 none 1 (ad (Pr κ).toProgram 19 10) (evT ds rs xs ALL gs aZ i ALL.length) (bg (Sg κ).E 19 10 1 I N K))=(
 letI a:=↑i<(↑(xs.length):Int)
 aq (decide a) (aW (true&&decide a) (∃e1,([.ah 70 (ag (nth xs (0+Int.toNat ↑i)))],[])=RB e1/\vO e1/\aW (decide ((ALL.length+1+
 1)*25<=70368744177664)) (∃e0,e0<N/\I e0 (evT ds rs xs (List.take ALL.length ALL++[.ah 70 (rws (dk e1))]) gs aZ (IntKind.wrap .i64
 (↑i+1)) (ALL.length+1))))) (K (.exit 1) (sp 67 [(2,AV.int aZ),(3,.ptr 1 0 [] 0),(8,.ak 2 0 (List.length (iM gs))),(11,.ak 3
 0 ALL.length)] [.row 51 xs,.box 25 (eg ds rs),.row 35 (iM gs),.row 51 ALL]))):=by kernel_rfl
structure ZU where
 ds:List AV
 rs:List AV
 xs:List AV
 gs:List (List Int)
 aZ:Int
 all:List RL
 i:Nat
abbrev UR(x:ZU):=evT x.ds x.rs x.xs (aI ((x.all.take x.i).map dk)) x.gs x.aZ x.i (aI ((x.all.take x.i).map dk)).length
def Ip(x:ZU):=x.i<=x.xs.length/\InX x.xs x.all
def aj7(x:ZU):Out (Exit×S):= .one (.exit 1,sp 67 [(2, .int x.aZ),(3, .ptr 1 0 [] 0),(8, .ak 2 0 (iM x.gs).length),(11, .ak 3 0 (aI (x.all.map dk)).length)] [.row 51 x.xs, .box 25 (eg x.ds x.rs), .row 35 (iM x.gs),nG (x.all.map dk)])
theorem lOj κ:aU (Sg κ).E 12 19 10 (aG 1 UR Ip aj7):=by
 refine aC (fun x=>x.xs.length - x.i) ?_;rintro⟨ds,rs,xs,c,aZ,all,i⟩ K ⟨l,b⟩ d;simp only at l b;rw[show(Sg κ).E.P=Pr κ from rfl];refine Eq.mpr (xOj κ ds rs xs (aI ((all.take i).map dk)) c aZ i _ _ K) ?_;simp only[Int.toNat_natCast,List.take_length];have o:=b.n;have m:=b.len;rw[ae,at3,aC7];refine⟨fun h=>?_,fun h=>?_⟩
 ·have g:i<all.length:=by omega
  have hs:(all.take (i+1)).map dk=(all.take i).map dk++[dk (all.getD i [])]:=by
   rw[List.take_add_one,List.map_append];simp[g,List.getD_eq_getElem?_getD]
  have k:(aI ((all.take i).map dk)).length<=100000:=by rw[dm,List.length_map,List.length_take];omega
  refine ai.2 ⟨by simp;omega,all.getD i [],by rw[Nat.zero_add,b.a];rfl,b.f _ (km g),ai.2 ⟨by rw[at3];omega,_,?_,⟨ds,rs,xs,c,aZ,all,i+1⟩,?_,⟨by simp only;omega,b⟩,rfl,d⟩⟩
  ·simp only;omega
  ·have e:aI ((all.take (i+1)).map dk)=aI ((all.take i).map dk)++[.ah 70 (rws (dk (all.getD i [])))]:=by rw[hs,aI,List.map_append];rfl
   simp only[UR,e,aE1,List.length_singleton];rw[az (n:=(i:Int)+1) (by omega) (by omega)];rfl
 ·have j:all.take i=all:=List.take_of_length_le (by omega)
  simp only[j];exact d
noncomputable def Zv κ:=(Sg κ).loop (lOj _)
abbrev ewT xs ds rs a g b aZ i n:=sp 67 [(2, .int aZ),(3, .ptr 1 0 [] 0),(11, .ak 2 0 n),(15, .ah 3 g),(50, .ak 3 0 (iM b).length),(51, .int (iM b).length),(52, .int i)] [.row 51 xs, .box 25 (eg ds rs), .row 51 a, .row 35 (iM b)]
abbrev ZA xs ds rs a b aZ i n:=sp 67 [(2, .int aZ),(3, .ptr 1 0 [] 0),(11, .ak 2 0 n),(50, .ak 3 0 (iM b).length),(51, .int (iM b).length),(52, .int i)] [.row 51 xs, .box 25 (eg ds rs), .row 51 a, .row 35 (iM b)]
structure AOm where
 xs:List AV
 ds:List AV
 rs:List AV
 gs:List (List Int)
 aZ:Nat
 all:List RL
 g:List Int
 i:Nat
 n:Nat
abbrev US(x:AOm):=ewT x.xs x.ds x.rs (aI x.all) (iA x.g) x.gs x.aZ x.i (aI x.all).length
theorem xOm κ x I N K:(vc (Zv κ).E 12 19 none 1 (ad (Pr κ).toProgram 19 17) (US x) (bg (Zv κ).E 19 17 1 I N K))=(
 letI a:=List.length (aI x.all)
 ∃e1,letI b:=ct e1.ds e1.rs e1.g e1.aZ e1.rs e1.all false;([eg x.ds x.rs,.ah 3 (iA x.g),.ak 0 0 a,AV.int ↑(x.aZ)],[nG x.all])=RF e1/\o0 e1/\aq (Prod.snd b) (∃e0,e0<N/\I e0 (ewT x.xs x.ds x.rs (aI (Prod.fst b)) (iA x.g) x.gs ↑(x.aZ) ↑(x.i) a)) (K (.exit 5) (ZA x.xs x.ds x.rs (aI (Prod.fst b)) x.gs ↑(x.aZ) ↑(x.i) a))):=by kernel_rfl
structure N3(x:AOm):Prop where
 o:jS x.ds x.rs x.aZ x.all
 g:x.g.length<=100000
 f:x.aZ+2<=x.n+cM x.all/\1<=x.n
def aj8(x:AOm):Out (Exit×S):= .one (.exit 5,ZA x.xs x.ds x.rs (aI (eH x.ds x.rs x.g x.aZ x.n x.all)) x.gs x.aZ x.i (aI x.all).length)
theorem lOm κ:aU (Zv κ).E 12 19 17 (aG 1 US N3 aj8):=by
 refine aC (fun x=>x.n) ?_;rintro⟨xs,ds,rs,q,aZ,all,g,i,n⟩ K ⟨h,d,r,j⟩ b;simp only at h d r j;obtain⟨n,rfl⟩: ∃m,n=m+1:=⟨n - 1,by omega⟩
 have b:K (.exit 5) _:=b;rw[eH] at b;obtain⟨f,v,k,_⟩:=kZ h.p g aZ rs all false (fun _ o=>o) h.A;refine Eq.mpr (xOm κ _ _ _ K) ⟨⟨ds,rs,g,aZ,all,false,0⟩,rfl,⟨h.p,h.A,h.t,h.l,h.n,d,Nat.zero_le _⟩,?_⟩;have a:(aI (ct ds rs g aZ rs all false).1).length=(aI all).length:=by rw[dm,dm,f.len,h.A.len]
 rw[ae];refine⟨fun e=>?_,fun e=>?_⟩
 ·rw[e,aD2,←a] at b
  have u:=(k e).resolve_left (by simp);have s: ¬ aZ<cM all:=fun c=>by rw[Ap c] at e;cases e
  refine⟨n,Nat.lt_succ_self n,⟨xs,ds,rs,q,aZ,(ct ds rs g aZ rs all false).1,g,i,n⟩,by simp only[US,a],⟨h.grow g,d,by simp only;omega,by simp only;omega⟩,rfl,b⟩
 grind
noncomputable def Si κ:=(Zv κ).loop (lOm _)
structure ZW where
 xs:List AV
 ds:List AV
 rs:List AV
 gs:List (List Int)
 aZ:Nat
 all:List RL
 i:Nat
abbrev Rx(x:ZW):=ZA x.xs x.ds x.rs (aI x.all) x.gs x.aZ x.i (aI x.all).length
theorem xOz κ x I N K:(vc (Si κ).E 12 19 none 1 (ad (Pr κ).toProgram 19 15) (Rx x) (bg (Si κ).E 19 15 1 I N K))=(
 letI a:=↑(x.i)<(↑(List.length (iM x.gs)):Int)
 letI b:=Pg.toProgram (Env.P (EB.E (Zv κ)))
 aq (decide a) (aW (true&&decide a) (ad b 19 17=ad b 19 17/\∃e1,ewT x.xs x.ds x.rs (aI x.all) (ag (nth (iM x.gs) (0+Int.toNat ↑(x.i)))) x.gs ↑(x.aZ) ↑(x.i) (List.length (aI x.all))=US e1/\N3 e1/\∃e0,e0<N/\I e0 (ZA e1.xs e1.ds e1.rs (aI (eH e1.ds e1.rs
 e1.g e1.aZ e1.n e1.all)) e1.gs ↑(e1.aZ) (IntKind.wrap .i64 (↑(e1.i)+1)) (List.length (aI e1.all))))) (K (.exit 3) (sp 67
 [(2,AV.int ↑(x.aZ)),(11,.ak 1 0 (List.length (aI x.all)))] [.row 51 x.xs,nG x.all]))):=by kernel_rfl
structure GJ(x:ZW):Prop where
 o:jS x.ds x.rs x.aZ x.all
 g: ∀g,g∈x.gs->g.length<=100000
 i:x.i<=x.gs.length
 n:x.gs.length<=100000
def ak0(x:ZW):Out (Exit×S):= .one (.exit 3,sp 67 [(2, .int x.aZ),(11, .ak 1 0 (aI x.all).length)] [.row 51 x.xs,nG (dR x.ds x.rs x.aZ (x.gs.drop x.i) x.all)])
theorem lOz κ:aU (Si κ).E 12 19 15 (aG 1 Rx GJ ak0):=by
 refine aC (fun x=>x.gs.length - x.i) ?_;rintro⟨xs,ds,rs,a,aZ,all,i⟩ K ⟨h,g,k,j⟩ d;simp only at h g k j;rw[show(Si κ).E.P=Pr κ from rfl];refine Eq.mpr (xOz κ ⟨xs,ds,rs,a,aZ,all,i⟩ _ _ K) ?_;simp only[Int.toNat_natCast,Nat.zero_add,BZ];have d:K (.exit 3) (sp 67 _ [.row 51 xs,nG (dR ds rs aZ (a.drop i) all)]):=d;rw[ae,at3,aC7];refine⟨fun c=>?_,fun c=>?_⟩
 ·have f:i<a.length:=by omega
  have e:=jS.loop a[i] 99 h;have b:(aI (eH ds rs a[i] aZ 99 all)).length=(aI all).length:=by rw[dm,dm,e.A.len,h.A.len]
  rw[aD6 f] at d;rw[←b] at d;have m:=h.l;refine ai.2 ⟨by simp;omega,trivial,⟨xs,ds,rs,a,aZ,all,a[i],i,99⟩,by rw[OA a i f],⟨h,g _ (List.getElem_mem _),by simp only;omega,by simp only;omega⟩,_,?_,⟨xs,ds,rs,a,aZ,eH ds rs a[i] aZ 99 all,i+1⟩,?_,⟨e,g,f,j⟩,rfl,d⟩
  ·simp only;omega
  ·simp only[Rx,b]
   grind [az]
 ·rw[aD3 (by omega)] at d
  exact d
noncomputable def Sj κ:=(Si κ).loop (lOz _)
theorem yOy κ ds rs XS(aZ:Nat) K:(a8 (Sj κ).E 12 19 [eg ds rs, .ak 0 0 XS.length, .int aZ] [.row 51 XS] K)=(
 letI a:=AV.int
 letI b:=Obj.row
 letI c:=AV.aH
 letI d:=AV.nil
 letI n:=K (c [d,a 2]) [b 51 XS]
 letI q:=List.take XS.length (List.drop 0 XS)
 letI o:=Pg.toProgram (Env.P (EB.E (Sg κ)))
 letI p:=Pg.toProgram (Env.P (EB.E (Si κ)))
 letI r:=K (c [d,a 90]) [b 51 XS]
 letI s:=decide (↑aZ>(2147483647:Int))
 letI t:=decide (↑aZ<(1:Int))
 letI u:=c [d,a 91]
 letI v:=List.all rs ei&&fS q
 ∃e2,letI e:=ub e2.1 e2.2;([eg ds rs],[])=UG e2/\Di e2/\aq (decide (Prod.snd e=0)) (aq t n (aq s n (aW v (aq (!fT ds rs q) r (ad o 19 10=ad o 19 10/\∃e1,letI h:=aI (List.map dk e1.all);evT ds rs XS [] (v7 e2.1 e2.2) ↑aZ 0 0=UR e1/\Ip e1/\ad p 19 15=ad p 19 15/\∃e0,letI i:=dR e0.ds e0.rs e0.aZ (List.drop e0.i e0.gs) e0.all;letI j:=List.length (aI e0.all);letI f:=List.take j (List.drop 0 (aI i));ZA e1.xs e1.ds e1.rs h e1.gs e1.aZ 0 (List.length h)=Rx e0/\GJ e0/\aW (decide (List.length f<=100000)&&decide (jd f<=1000000000)) (aq (decide ((↑(jd f))>(↑(e0.aZ):Int))) (K u [b 51 e0.xs]) (K (c [.ak 1 0 j,a 0]) [b 51 e0.xs,nG i]))))))) (aq (Prod.snd e != 0) (K (c [d,a (Prod.snd e)]) [b 51 XS]) (aq t n (aq s n (aW v (aq (!fT ds rs q) r (ad o 19 10=ad o 19 10/\∃e1,letI k:=aI (List.map dk e1.all);sp 67 [(2,a ↑aZ),(3,.ptr 1 0 [] 0),(8,d),(11,.ak 2 0 0),(38,.ak 0 0 XS.length),(39,a ↑(XS.length)),(40,a 0)] [b 51 XS,.box 25 (eg ds rs),b 51 []]=UR e1/\Ip e1/\ad p 19 15=ad p 19 15/\∃e0,letI l:=dR e0.ds e0.rs e0.aZ (List.drop e0.i e0.gs) e0.all;letI m:=List.length (aI e0.all);letI g:=List.take m (List.drop 0 (aI l));ZA e1.xs e1.ds e1.rs k e1.gs e1.aZ 0 (List.length k)=Rx e0/\GJ e0/\aW (decide (List.length g<=100000)&&decide (jd g<=1000000000)) (aq (decide ((↑(jd g))>(↑(e0.aZ):Int))) (K u [b 51 e0.xs]) (K (c [.ak 1 0 m,a 0]) [b 51 e0.xs,nG l]))))))))):=by kernel_rfl
structure ZV where
 ds:List AV
 rs:List AV
 aZ:Nat
 R:List RL
def UT(x:ZV):List AV×List Dn.Obj:=([eg x.ds x.rs, .ak 0 0 (aI x.R).length, .int x.aZ],[.row 51 (aI x.R)])
def Dp(x:ZV):=SZ x.ds x.rs x.aZ x.R/\1<=x.aZ
def V4(x:ZV):Out (AV×List Dn.Obj):= .one (.aH [.ak 1 0 (aI x.R).length, .int 0],[.row 51 (aI x.R),nG x.R])
theorem cOy κ:bd (Sj κ).E 12 19 (aM UT Dp V4):=by
 refine aQ ?_;rintro⟨ds,rs,aZ,R⟩ K ⟨a,k⟩ u;simp only at a k;have b:List.take (aI R).length (List.drop 0 (aI R))=aI R:=by rw[aD5,List.take_length]
 have f:=wE a.o.p a.o.A a.t;have v:=a.o.l;have w:=a.n;have hd:=tV a.o.p;have j:=a.o.A.len;obtain⟨s1,_,_⟩:=ag5 a k;have h:=xQ (n:=ds.length) (m:=qQ ds rs) (L:=B0 ds rs);refine Eq.mpr (yOy κ ds rs (aI R) aZ K) ⟨(ds,rs),rfl,a.o.p.s,ae.2 ⟨fun _=>?_,fun c=>absurd a.g (of_decide_eq_false c)⟩⟩;refine ae.2 ⟨fun c=>?_,fun _=>ae.2 ⟨fun c=>?_,fun _=>ai.2 ⟨?_,ae.2 ⟨fun c=>?_,fun _=>⟨rfl,⟨ds,rs,aI R,v7 ds rs,aZ,R,0⟩,rfl,⟨Nat.zero_le _,s1.i f⟩,rfl,⟨aI R,ds,rs,v7 ds rs,aZ,R.map dk,0⟩,rfl,⟨?_,fun g d=>Nat.le_trans ((h _ _).2 g d) (by omega),Nat.zero_le _,Nat.le_trans (h _ _).1 ?_⟩,?_⟩⟩⟩⟩⟩
 ·have:=of_decide_eq_true c;omega
 ·have:=of_decide_eq_true c;omega
 ·rw[b,qm a.o.p.s,m9 a.o];rfl
 ·rw[b,f] at c;cases c
 ·simp only;rw[tq a.o.A];exact a.o
 ·have:=DJ ds.length []
  omega
 ·have r:=tq a.o.A
  have e:dR ds rs aZ (List.drop 0 (v7 ds rs)) R=R:=tW a.o.p a.o.A a.c a.n _;simp only[r,e,b,tB];have q:(aI R).length<=60:=by rw[dm];omega
  refine ai.2 ⟨by grind,ae.2 ⟨fun c=>?_,fun _=>u⟩⟩;have:=of_decide_eq_true c;omega
def X9:List AV->Bool
 |[_, .ah _ _,_]=>true
 |_=>false
def Uq:dN:=fun a st K=>match X9 a with
 |true=>aM MU nM VN a st K
 |false=>aM UT Dp V4 a st K
theorem MI:Uq.gl:=fun b st K c a h=>by
 unfold Uq at h⊢;cases e:X9 _ with
 |true=>rw[e] at h;exact aJ _ _ _ _ a h
 |false=>rw[e] at h;exact aJ _ _ _ _ a h
theorem XJ κ a st K(h:Uq a st K):cf (Sj κ).E.P 19 a st K:=by
 unfold Uq at h;cases e:X9 _ with
 |true=>rw[e] at h;exact(Sj _).ok.call _ _ _ _ h
 |false=>rw[e] at h;exact gO (Sj _).ok (Sj _).mono (cOy _ _ _ K h)
noncomputable def BEo κ:=EB.owns ⟨(Sj _).E.ax 19 _,(Sj _).ok.fQ (XJ κ),(Sj _).mono.ax MI⟩ [50,24,19]
theorem yZs κ A K:(a8 (BEo κ).E 12 20 [.ah 51 A, .ah 51 A] [] K)=(
 letI a:=Pg.toProgram (Env.P (EB.E (Vh κ)))
 aq (↑(A.length) != (↑(A.length):Int)) (K (AV.bool false) []) (ad a 20 4=ad a 20 4/\∃e0,sp 29 [(0,.ah 51 A),(1,.ah 51 A),(5,
 AV.int 0)] []=RA e0/\Is e0/\K (AV.bool true) [])):=by kernel_rfl
noncomputable def ZC(A B:List AV):= @decide (A=B) (Classical.propDecidable _)
theorem Ot A:ZC A A=true:=by grind [ZC]
noncomputable def gZs:List AV->Option (Bool×AV)
 |[.ah 51 A, .ah 51 B]=>some (ZC A B&&fS A, .bool true)
 |_=>none
theorem pZs κ:cm (BEo κ).E 12 20 gZs:=by
 intro b x a;unfold gZs at a;split at a
 ·rename_i A B
  simp   at a;obtain⟨⟨d,c⟩,rfl⟩:=a;have e:A=B:=by
   grind [ZC]
  subst e;refine⟨_,rfl,rfl,Eq.mpr (yZs _ A _) ?_⟩;simp only[bne_self_eq_false];exact⟨trivial,⟨A,0,0⟩,rfl,⟨Nat.zero_le _,c⟩,trivial⟩
 grind
noncomputable def Vi κ:=EB.Hf ((BEo κ).pure (pZs _)) [20]
structure ZZ where
 ds:List AV
 rs:List AV
 xs:List AV
 R:List RL
 i:Nat
abbrev U3(x:ZZ):=sp 140 [(1, .ah 51 x.xs),(2, .ptr 0 0 [] 0),(5, .bool true),(6, .ak 1 0 (aI x.R).length),(10, .int x.i)] [.box 25 (eg x.ds x.rs),nG x.R]
theorem xWc κ x I n K:(vc (Vi κ).E 12 8 none 0 (ad (Pr κ).toProgram 8 11) (U3 x) (bg (Vi κ).E 8 11 0 I n K))=(
 letI b:=↑(x.i)<(↑(x.xs.length):Int)
 letI a:=List.length (aI x.R)
 aq (decide b) (aW (true&&decide b) (aW (true&&decide (↑(x.i)<(↑a:Int))) (∃e1,([.ah 70 (ag (nth x.xs (Int.toNat ↑(x.i)))),
 .ah 70 (ag (nth (aI x.R) (0+Int.toNat ↑(x.i))))],[])=Y6 e1/\wZ e1/\∃e0,e0<n/\I e0 (sp 140 [(1,.ah 51 x.xs),(2,.ptr 0 0 []
 0),(5,AV.bool true),(6,.ak 1 0 a),(10,AV.int (IntKind.wrap .i64 (↑(x.i)+1)))] [.box 25 (eg x.ds x.rs),nG x.R])))) (K
 (.exit 0) (sp 140 [(2,.ptr 0 0 [] 0),(5,AV.bool true),(6,.ak 1 0 a)] [.box 25 (eg x.ds x.rs),nG x.R]))):=by kernel_rfl
structure GK(x:ZZ):Prop where
 i:x.i<=x.xs.length
 s:S1 x.xs
 n:x.xs.length<=60
 m: ∃aZ,SZ x.ds x.rs aZ x.R
 f:fT x.ds x.rs x.xs=true
 l:Le ((gD x.xs).map dk) x.R
 e:x.xs.length=x.R.length
def al3(x:ZZ):Out (Exit×S):= .one (.exit 0,sp 140 [(2, .ptr 0 0 [] 0),(5, .bool true),(6, .ak 1 0 (aI x.R).length)] [.box 25 (eg x.ds x.rs),nG x.R])
theorem lWc κ:aU (Vi κ).E 12 8 11 (aG 0 U3 GK al3):=by
 refine aC (fun x=>x.xs.length - x.i) ?_;rintro⟨ds,rs,xs,R,i⟩ K ⟨g,hs,c,⟨aZ,a⟩,b,d,f⟩ e;simp only at g hs c a b d f;refine Eq.mpr (xWc κ _ _ _ K) ?_;simp only[Nat.zero_add];rw[ae,at3];refine⟨fun h=>ai.2 ⟨by simp;omega,ai.2 ⟨by grind,_,by rw[kR];rfl,Uj hs c a b d i (by omega),_,?_,⟨ds,rs,xs,R,i+1⟩,?_,⟨by simp only;omega,hs,c,⟨aZ,a⟩,b,d,f⟩,rfl,e⟩⟩,fun _=>e⟩
 ·simp only;omega
 ·grind [az]
noncomputable def Sk κ:=(Vi κ).loop (lWc _)
structure Z0 where
 ds:List AV
 rs:List AV
 R:List RL
 k:Nat
abbrev RD(x:Z0):=sp 140 [(2, .ptr 0 0 [] 0),(5, .bool true),(6, .ak 1 0 (aI x.R).length),(13, .int x.k)] [.box 25 (eg x.ds x.rs),nG x.R]
theorem xWd κ x I n K:(vc (Sk κ).E 12 8 none 0 (ad (Pr κ).toProgram 8 17) (RD x) (bg (Sk κ).E 8 17 0 I n K))=(
 letI b:=↑(x.k)<(↑(x.rs.length):Int)
 letI a:=List.length (aI x.R)
 aq (decide b) (∃e3,([eg x.ds x.rs,AV.int ↑(x.k),.ak 0 0 a],[nG x.R])=ao5 e3/\QE e3/\aW (true&&decide b) (∃e2,([.ah 43 x.ds,AV.str (toStr (af (af (nth x.rs (Int.toNat ↑(x.k))) 0) 0))],[])=Bh e2/\gZ e2/\aW (decide (0<=bu e2.2 e2.1)&&
 decide (bu e2.2 e2.1<↑a)) (∃e1,([.ah 70 (rws (dp e3.ds e3.rs (cK (nth e3.rs e3.k)) e3.R)),.ah 70 (ag (nth (aI e3.R) (0+Int.toNat (bu
 e2.2 e2.1))))],[])=Y6 e1/\wZ e1/\∃e0,e0<n/\I e0 (sp 140 [(2,.ptr 0 0 [] 0),(5,AV.bool true),(6,.ak 1 0 a),(13,AV.int (IntKind.wrap
 .i64 (↑(x.k)+1)))] [.box 25 (eg x.ds x.rs),nG e3.R])))) (K (.exit 2) (sp 140 [(5,AV.bool true)] []))):=by kernel_rfl
structure GL(x:Z0):Prop where
 k:x.k<=x.rs.length
 m: ∃aZ,SZ x.ds x.rs aZ x.R
 n:x.rs.length<=100000
def al4(_:Z0):Out (Exit×S):= .one (.exit 2,sp 140 [(5, .bool true)] [])
theorem lWd κ:aU (Sk κ).E 12 8 17 (aG 0 RD GL al4):=by
 refine aC (fun x=>x.rs.length - x.k) ?_;rintro⟨ds,rs,R,k⟩ K ⟨f,⟨aZ,a⟩,e⟩ c;simp only at f a e;rw[show(Sk κ).E.P=Pr κ from rfl];refine Eq.mpr (xWd κ ⟨ds,rs,R,k⟩ _ _ K) ?_;simp only[Int.toNat_natCast,Nat.zero_add];have hd:=tV a.o.p;have g:=a.o.A.len;rw[ae,at3,aC7];refine⟨fun h=>?_,fun _=>c⟩;have b:k<rs.length:=by omega
 have d:nth rs k∈rs:=by rw[aV _ _ b];exact List.getElem_mem _
 have i:=(a.o.p.at d).1;refine⟨⟨ds,rs,k,aZ,R⟩,rfl,⟨a,a.o.l,b⟩,ai.2 ⟨by simp;omega,(ds,(cK (nth rs k)).rel),rfl,by show ds.length<=aX;simp only[aX];omega,ai.2 ⟨?_,_,by rw[kR];rfl,ME a a.o.l d,_,?_,⟨ds,rs,R,k+1⟩,?_,⟨b,⟨aZ,a⟩,e⟩,rfl,c⟩⟩⟩
 ·grind
 ·simp only;omega
 ·simp only[RD]
  grind [az]
noncomputable def BWd κ:=(Sk κ).loop (lWd _)
theorem yCl κ ds rs xs K:(a8 (BWd κ).E 12 8 [eg ds rs, .ah 51 xs] [] K)=(
 letI a:=AV.ptr 0 0 []
 letI b:=AV.int
 letI c:=AV.bool
 letI d:=Obj.box
 letI e:=Pg.toProgram (Env.P (EB.E (Vi κ)))
 letI f:=Pg.toProgram (Env.P (EB.E (Sk κ)))
 ∃(e4:Unit),([],[])=aq5 e4/\True/\aW ((decide (ds.length<=9223372036854775807)&&List.all ds fun(e0:AV)=>decide (List.length (ag (af e0 1))<=9223372036854775807))&&fS xs) (aq ((bif lI ds rs xs then(1:Int) else(0:Int))==(0:Int)) (K (c true) []) (∃(e3:WE),letI i:=ke e3.ds e3.rs e3.all e3.aZ;letI g:=List.length (aI i);([eg ds rs,AV.ah 51 xs,b 20],[])=MU e3/\nM e3/\aq (decide (tJ e3.ds e3.rs e3.xs e3.all e3.aZ=(0:Int))) (∃(e2:ZV),letI h:=List.take g (List.drop 0 (aI e2.R));([eg ds rs,AV.ak 0 0 g,b 20],[nG i])=UT e2/\Dp e2/\aW (List.all rs ei&&fS h) (aq (!fT ds rs h) (K (c false) []) (aq ((↑g:Int) != (↑(xs.length):Int)) (K (c false) []) (aW (ZC h (List.take (List.length (aI e2.R)) (List.drop 0 (aI e2.R)))&&fS h) (ad e 8 11=ad e 8 11/\∃(e1:ZZ),sp 140 [(1,AV.ah 51 xs),(2,a 0),(5,c true),(6,AV.ak 1 0 g),(10,b 0)] [d 25 (eg ds rs),nG e2.R]=U3 e1/\GK e1/\ad f 8 17=ad f 8 17/\∃(e0:Z0),sp 140 [(2,a 0),(5,c true),(6,AV.ak 1 0 (List.length (aI e1.R))),(13,b 0)] [d 25 (eg e1.ds e1.rs),nG e1.R]=RD e0/\GL e0/\K (c true) []))))) (aq (tJ e3.ds e3.rs e3.xs e3.all e3.aZ != (0:Int)) (K (c true) []) (∃(e2:ZV),([eg ds rs,AV.nil,b 20],[])=UT e2/\Dp e2/\aW (List.all rs ei&&true) (aq (!fT ds rs []) (K (c false) []) (aq ((0:Int) != (↑(xs.length):Int)) (K (c false) []) (aW (ZC [] (List.take (List.length (aI e2.R)) (List.drop 0 (aI e2.R)))&&true) (ad e 8 11=ad e 8 11/\∃(e1:ZZ),sp 140 [(1,AV.ah 51 xs),(2,a 0),(5,c true),(6,AV.nil),(10,b 0)] [d 25 (eg ds rs)]=U3 e1/\GK e1/\ad f 8 17=ad f 8 17/\∃(e0:Z0),sp 140 [(2,a 0),(5,c true),(6,AV.ak 1 0 (List.length (aI e1.R))),(13,b 0)] [d 25 (eg e1.ds e1.rs),nG e1.R]=RD e0/\GL e0/\K (c true) []))))))))):=by kernel_rfl
theorem am3 κ{ds rs xs}(q:(decide (ds.length<=aX)&&ds.all fun d=>decide ((ag (af d 1)).length<=aX))=true)(_: ∀r,r∈rs->aw (cK r)=r)(hs:S1 xs){K}(l:K (.bool true) []):a8 (BWd κ).E 12 8 [eg ds rs, .ah 51 xs] [] K:=by
 refine Eq.mpr (yCl κ ds rs xs K) ⟨(),rfl,trivial,ai.2 ⟨by rw[hs.f,Bool.and_true];exact q,?_⟩⟩;cases j:lI ds rs xs with
 |false=>exact l
 | true=>
  have m:=j;simp only[lI,aC6,at3] at m;obtain⟨w,v,u,_⟩:=m;have s1:=KA hs j (aZ:=20) (by omega) (by omega);refine ae.2 ⟨fun e=>absurd e (by decide),fun _=>⟨⟨ds,rs,xs,gD xs,20⟩,rfl,s1,ae.2 ⟨fun e=>?_,fun e=>?_⟩⟩⟩
  ·have e:tJ ds rs xs (gD xs) 20=0:=of_decide_eq_true e
   obtain⟨a,n,g⟩:=ac5 hs j (by omega) (by omega) e;have i:List.take (aI (ke ds rs (gD xs) 20)).length (List.drop 0 (aI (ke ds rs (gD xs) 20)))=aI (ke ds rs (gD xs) 20):=by rw[aD5,List.take_length]
   have h:=wE a.o.p a.o.A a.t;have b:xs.length=(ke ds rs (gD xs) 20).length:=by
    have k:=n;simp only[fT,aC6,at3] at k;rw[k.2.1,a.o.A.len]
   refine⟨⟨ds,rs,20,ke ds rs (gD xs) 20⟩,rfl,⟨a,by simp only;omega⟩,ai.2 ⟨?_,ae.2 ⟨fun c=>?_,fun _=>ae.2 ⟨fun c=>?_,fun _=>ai.2 ⟨?_,rfl,⟨ds,rs,xs,ke ds rs (gD xs) 20,0⟩,rfl,⟨Nat.zero_le _,hs,u,⟨20,a⟩,n,g,b⟩,rfl,⟨ds,rs,ke ds rs (gD xs) 20,0⟩,rfl,⟨Nat.zero_le _,⟨20,a⟩,by simp only;omega⟩,l⟩⟩⟩⟩⟩
   ·simp only[i];rw[qm a.o.p.s,m9 a.o];rfl
   ·simp only[i] at c;rw[h] at c;cases c
   ·simp only[dm] at c;rw[b] at c;simp at c
   ·simp only[i];rw[Ot,m9 a.o];rfl
  grind [tJ,gD,of_decide_eq_false,ae]
end Go.Proofs.YtioeffnadipbaaaGreatDoor
