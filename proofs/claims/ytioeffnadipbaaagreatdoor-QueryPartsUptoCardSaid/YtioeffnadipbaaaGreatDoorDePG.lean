import Derived.Test.YtioeffnadipbaaaGreatDoorDePE
import Derived.Test.YtioeffnadipbaaaGreatDoorDeP5
import Derived.Test.YtioeffnadipbaaaGreatDoorDePD
namespace Go.Proofs.YtioeffnadipbaaaGreatDoor
open Go Go.Dn Go.Rl Go.Proofs
attribute [local irreducible] a8 vc
set_option maxRecDepth 20000
structure Rv where
 A:List AV
 B:List AV
 xs:List AV
abbrev oq(A B:List AV):List Dn.Obj:=[.box 51 (.ad 70 A), .box 51 (.ad 70 B)]
abbrev Q3(x:Rv):=sp 52 [(0, .bJ 0),(1, .ptr 1 0 [] 0),(2, .ptr 2 0 [] 0)] (.ext (some x.xs)::oq x.A x.B)
theorem xBo(κ:Kp)(x:Rv)(I:Nat->S->Prop)(N:Nat)(K:Exit->S->Prop):(vc (Ta κ).E 12 82 none 3 (ah (Pr κ).toProgram 82 0) (Q3 x) (bh (Ta κ).E 82 0 3 I N K))=(
 letI a:=AV.ptr
 letI b:=AV.agg
 letI c:=AV.bool
 letI d:=Obj.ext
 letI e:=Exit.ret
 letI f:=AV.aK
 letI g:=AV.bJ
 letI j:=aa (nth x.A 0)
 letI h:=x.A.length
 letI m:=List.drop 1 (List.take (Int.toNat (↑h:Int)) x.A)
 letI s:=true&&decide ((1:Int)<=(↑h:Int))&&decide ((↑h:Int)<=(↑h:Int))
 letI r:=true&&decide ((0:Int)<(↑h:Int))
 letI i:=x.B.length
 letI n:=List.drop 1 (List.take (Int.toNat (↑i:Int)) x.B)
 letI u:=true&&decide ((1:Int)<=(↑i:Int))&&decide ((↑i:Int)<=(↑i:Int))
 letI t:=true&&decide ((0:Int)<(↑i:Int))
 letI k:=aa (nth x.B 0)
 letI l:=decide (bC j k<=(0:Int))
 letI o:=decide (bC j k>=(0:Int))
 letI p:=sp 52 [] (d none::oq m x.B)
 letI q:=sp 52 [] (d none::oq x.A n)
 letI v:=an ((↑i:Int)==(0:Int)) (aG r (aG s (∃(e1:List AV),x.xs=f [AV.ad 72 j,b [c true,c false]]::e1/\(∃(e0:
  Nat),e0<N/\I e0 (sp 52 [(0,g 0),(1,a 1 0 [] 0),(2,a 2 0 [] 0)] (d (some e1)::oq m x.B)))/\K e p))) (an ((↑h:Int)
  ==(0:Int)) (aG t (aG u (∃(e1:List AV),x.xs=f [AV.ad 72 k,b [c false,c true]]::e1/\(∃(e0:Nat),e0<N/\I e0 (sp 52
  [(0,g 0),(1,a 1 0 [] 0),(2,a 2 0 [] 0)] (d (some e1)::oq x.A n)))/\K e q))) (aG r (aG t (aG (decide (List.length j<=
  9223372036854775807)) (an o (aG t (aG u (an l (aG r (aG s (∃(e1:List AV),x.xs=f [AV.ad 72 j,b [c l,c o]]::e1/\(∃(e0:
  Nat),e0<N/\I e0 (sp 52 [(0,g 0),(1,a 1 0 [] 0),(2,a 2 0 [] 0)] (d (some e1)::oq m n)))/\K e (sp 52 [] (d none::
  oq m n))))) (∃(e1:List AV),x.xs=f [AV.ad 72 k,b [c l,c o]]::e1/\(∃(e0:Nat),e0<N/\I e0 (sp 52 [(0,g 0),(1,
  a 1 0 [] 0),(2,a 2 0 [] 0)] (d (some e1)::oq x.A n)))/\K e q)))) (an l (aG r (aG s (∃(e1:List AV),x.xs=f [AV.ad 72
  j,b [c l,c o]]::e1/\(∃(e0:Nat),e0<N/\I e0 (sp 52 [(0,g 0),(1,a 1 0 [] 0),(2,a 2 0 [] 0)] (d (some e1)
  ::oq m x.B)))/\K e p))) (∃(e1:List AV),x.xs=f [AV.nil,b [c l,c o]]::e1/\(∃(e0:Nat),e0<N/\I e0 (sp 52 [(0,
  g 0),(1,a 1 0 [] 0),(2,a 2 0 [] 0)] (d (some e1)::oq x.A x.B)))/\K e (sp 52 [] (d none::oq x.A x.B)))))))))
 an (decide ((↑h:Int)>(0:Int))) v (an (decide ((↑i:Int)>(0:Int))) v (K (Exit.exit 0) (sp 52 [] (d (some x.xs)::oq x.A x.B))))):=by kernel_rfl
def Qe(l:List BI):List AV:=l.map fun x=> .aK [.ad 72 x.1, .agg [.bool x.2.1, .bool x.2.2]]
def xX(x:Rv):=x.xs=Qe (jT (dS x.A) (dS x.B))/\eE x.A=true/\eE x.B=true
def R0(_:Rv):Out (Exit×S):= .all (fun _:Bool×List _×List _=>True) fun y=> .an y.1
 (.one (.exit 0,sp 52 [] (.ext (some [])::oq y.2.1 y.2.2)))
 (.one (.ret,sp 52 [] (.ext none::oq y.2.1 y.2.2)))
theorem Ly p q:an true p q=p:=rfl
theorem GD p q:an false p q=q:=rfl
theorem LF(p:Prop):aG true p=p:=rfl
theorem pP{a A}(h:eE (a::A)=true):eE A=true:=by
 grind [eE]
theorem Mg(a:AV) A:decide (((a::A).length:Int)>0)=true/\(((a::A).length:Int)==0)=false/\(true&&decide ((0:Int)<(a::A).length))=true/\(true&&decide (1<=((a::A).length:Int))&&decide ((a::A).length<=((a::A).length:Int)))=true:=by grind
theorem lBo(κ:Kp):aP (Ta κ).E 12 82 0 (aI 3 Q3 xX R0):=by
 refine aD (fun x=>x.A.length+x.B.length) ?_;rintro⟨A,B,xs⟩ K ⟨h1,h2,h3⟩ ho;simp only at h1 h2 h3;rw[show(Ta κ).E.P=Pr κ from rfl];refine Eq.mpr (xBo κ ⟨A,B,xs⟩ _ _ K) ?_;have next: ∀(A' B':List AV) (v:AV),eE A'=true->eE B'=true->A'.length+B'.length<A.length+B.length->xs=v::Qe (jT (dS A') (dS B'))->∃rest,xs=v::rest/\(∃m,m<A.length+B.length/\gq Q3 xX R0 (fun x=>x.A.length+x.B.length) K m (sp 52 [(0, .bJ 0),(1, .ptr 1 0 [] 0),(2, .ptr 2 0 [] 0)] (.ext (some rest)::oq A' B')))/\K Exit.ret (sp 52 [] (.ext none::oq A' B')):=
  fun A' B' v f1 f2 hl hx=>⟨_,hx,⟨_,hl,⟨A',B',_⟩,rfl,⟨rfl,f1,f2⟩,rfl,ho⟩,ho (false,A',B') trivial⟩
 simp only[Int.toNat_natCast,List.take_length];have e0:decide (((([]:List AV).length:Nat):Int)>0)=false:=rfl;have e1:((((([]:List AV).length:Nat)):Int)==0)=true:=rfl;cases A with
 | nil=>
  cases B with
  |nil=>
   rw[show xs=[] from h1];simp only[e0,e1,GD];exact ho (true,[],[]) trivial
  |cons b B=>
   obtain⟨b1,b2,b3,b4⟩:=Mg b B;simp only[e0,e1,b1,b2,b3,b4,Ly,GD,LF];exact next [] B _ h2 (pP h3) (by simp) (by rw[h1];cases B<;>rfl)
 | cons a A=>
  obtain⟨a1,a2,a3,a4⟩:=Mg a A;cases B with
  |nil=>
   simp only[e1,a1,a2,a3,a4,Ly,GD,LF];exact next A [] _ (pP h2) h3 (by simp) (by rw[h1];rfl)
  | cons b B=>
   obtain⟨b1,b2,b3,b4⟩:=Mg b B;simp only[a1,a2,a3,a4,b1,b2,b3,b4,Bool.and_self,Ly,GD,LF];have ha:=nu h2 0;refine ai.2 ⟨by rw[an2];omega,?_⟩;have hb:jT (dS (a::A)) (dS (b::B))=bif decide (bC (aa a) (aa b)<0) then(aa a,true,false)::jT (dS A) (dS (b::B)) else bif decide (bC (aa a) (aa b)=0) then(aa a,true,true)::jT (dS A) (dS B) else(aa b,false,true)::jT (dS (a::A)) (dS B):=rfl
   rw[hb] at h1;rw[show nth (a::A) 0=a from rfl,show nth (b::B) 0=b from rfl];rcases Int.lt_trichotomy (bC (aa a) (aa b)) 0 with c|c|c
   ·rw[an8 c] at h1
    rw[an6 (show ¬ bC (aa a) (aa b)>=0 by omega),an8 (show bC (aa a) (aa b)<=0 by omega)];exact next A (b::B) _ (pP h2) h3 (by simp) h1
   ·rw[an6 (show ¬ bC (aa a) (aa b)<0 by omega),an8 c] at h1
    rw[an8 (show bC (aa a) (aa b)>=0 by omega),an8 (show bC (aa a) (aa b)<=0 by omega)];exact next A B _ (pP h2) (pP h3) (by simp;omega) h1
   ·rw[an6 (show ¬ bC (aa a) (aa b)<0 by omega),an6 (show ¬ bC (aa a) (aa b)=0 by omega)] at h1
    rw[an8 (show bC (aa a) (aa b)>=0 by omega),an6 (show ¬ bC (aa a) (aa b)<=0 by omega)];exact next (a::A) B _ h2 (pP h3) (by simp) h1
noncomputable def SI(κ:Kp):EB:=(Ta κ).loop (lBo κ)
theorem yBo(κ:Kp)(x:Rv)(K:AV->List Dn.Obj->Prop):(a8 (SI κ).E 12 82 [.bJ 0, .ptr 1 0 [] 0, .ptr 2 0 [] 0] (.ext (some x.xs)::oq x.A x.B) K)=(
 letI a:=Pg.toProgram (Env.P (EB.E (Ta κ)))
 ah a 82 0=ah a 82 0/\∃(e1:Rv),sp 52 [(0,AV.bJ 0),(1,AV.ptr 1 0 [] 0),(2,AV.ptr 2 0 [] 0)] (Obj.ext (some x.xs)::oq x.A x.B)=Q3 e1/\xX e1/\∀
 (e0:Bool×List AV×List AV),True->an e0.1 (K (AV.aK []) (Obj.ext (some [])::oq e0.2.1 e0.2.2)) (K (AV.aK []) (Obj.ext none::oq e0.2.1 e0.2.2))):=by kernel_rfl
def YP(x:Rv):List AV×List Dn.Obj:=([.bJ 0, .ptr 1 0 [] 0, .ptr 2 0 [] 0], .ext (some x.xs)::oq x.A x.B)
def R1(_:Rv):Out (AV×List Dn.Obj):= .all (fun st'=>uT st') fun st'=> .one (.aK [],st')
theorem cBp κ:bq (SI κ).E 12 82 (aX YP xX R1):=by
 refine a7 ?_;intro x K c a;refine Eq.mpr (yBo _ x K) ⟨rfl,x,rfl,c,fun y _=>?_⟩;obtain⟨b,e,d⟩:=y;cases b
 ·exact a _ trivial
 ·exact a _ trivial
noncomputable def Vk κ:=EB.inline ((SI κ).call (cBp _)) [38]
abbrev An:List AV:=[.ptr 1 0 [] 0, .ptr 2 0 [] 0]
noncomputable abbrev Qk(A B:List AV):Dn.Obj:= .loop (iE Tryz.prog 15 5 .ready none (ig (bL 27) [(0, .ad 70 A),(1, .ad 70 B),(4, .nil),(5, .int 0),(6, .ptr 0 0 [] 0),(8, .ad 70 A),(9, .bool (dr (dS A))),(10, .bool !dr (dS A)),(11, .bool false),(12, .ad 70 B),(13, .bool (dr (dS B))),(14, .bool !dr (dS B)),(15, .bool false),(16, .ad 70 A),(17, .ad 70 B),(18, .bp 82 An)]))
noncomputable abbrev ui A B:=[.box 51 .nil, .box 51 (.ad 70 A), .box 51 (.ad 70 B),Qk A B]
noncomputable abbrev Gh A B W:=[.box 51 (.ax 4 0 W.length), .dead, .dead,Qk A B, .row 70 (rws W)]
theorem sUn κ A B Q:(tidy (Pr κ).toProgram 4 (ei (ui A B) (dc (ui A B) An)) Q)=(
 Q [Obj.box 51 (AV.ax 4 0 0),Obj.dead,Obj.dead,Qk A B,Obj.row 70 []]):=by kernel_rfl
theorem rUn κ A B t W p q Q(K2:List Dn.Obj->Prop):(jo (vc (Vk κ).E 12) 3 [.ad 72 t, .agg [.bool p, .bool q]] (Gh A B W) (fun r st''=>match r with| .lit (.bool true)=>tidy (Pr κ).toProgram 4 st'' Q| .lit (.bool false)=>K2 st''|_=>False))=(
 ∃(a:List AV),([AV.ad 72 t],[])=Q5 a/\a.length<=100000000/\aG (decide ((W.length+1+1)*25<=70368744177664)) (Q [Obj.box 51 (AV.ax 4 0
 (W.length+1)),Obj.dead,Obj.dead,Qk A B,Obj.row 70 (List.take W.length (rws W)++[AV.ad 72 a])])):=by kernel_rfl
theorem oUn A B:qq (ui A B) An=true:=by kernel_rfl
theorem kUn A B xs:(AV.bJ 0::gG (kx (dc (ui A B) An)) An,Obj.ext (some xs)::iy (kx (dc (ui A B) An)) (iw (ui A B) (dc (ui A B) An)))=([.bJ 0, .ptr 1 0 [] 0, .ptr 2 0 [] 0], .ext (some xs)::oq A B):=by kernel_rfl
structure Tt(A B:List AV):Prop where
 a:eE A=true
 b:eE B=true
 n:(jT (dS A) (dS B)).length<=100000000
 s: ∀x,x∈jT (dS A) (dS B)->x.1.length<=100000000
noncomputable def YD:fJ:=fun a st K=>∃A B,(a,st)=(An,ui A B)/\Tt A B/\K (Gh A B (lE (dS A) (dS B)))
theorem Kg:YD.gA:=by
 rintro a st K f d ⟨A,B,c,e,b⟩;exact⟨A,B,c,e,d _ b⟩
theorem TG κ a st K(h:aX YP xX R1 a st K):(Vk κ).E.call 82 a st K:=h
theorem gUn κ:nc (Vk κ).E 12 82 YD:=by
 rintro k st K ⟨A,B,w,m,v⟩;obtain⟨rfl,rfl⟩:=Prod.mk.inj (show(k,st)=(An,ui A B) from w);refine⟨Qe (jT (dS A) (dS B)),fun g st'=>∃d c:List BI,g=Qe c/\st'=Gh A B (d.map (·.1))/\d++c=jT (dS A) (dS B),⟨oUn A B,?_,?_,?_,?_⟩⟩
 ·refine TG κ _ _ _ ⟨⟨A,B,Qe (jT (dS A) (dS B))⟩,?_,⟨rfl,m.a,m.b⟩,fun st' h=>h⟩
  rw[kUn];rfl
 ·rw[show(Vk κ).E.P=Pr κ from rfl,show(ui A B).length=4 from rfl,sUn]
  exact⟨[],_,rfl,rfl,List.nil_append _⟩
 ·rintro C u st' ⟨d,c,o,rfl,i⟩
  cases c with
  |nil=>cases o
  | cons x c=>
   obtain⟨t,p,q⟩:=x;obtain⟨z,rfl⟩:=List.cons.inj o;obtain rfl:=AV.aK.inj z;rw[show(Vk κ).E.P=Pr κ from rfl,show(ui A B).length=4 from rfl,show(4:Nat) - 1=3 from rfl];have r:=m.n;rw[←i] at r;simp only[ao6,List.length_cons] at r;have y:t.length<=100000000:=m.s (t,p,q) (by rw[←i];simp);have f: ∃l j:List BI,Qe c=Qe j/\Gh A B (d.map (·.1)++[t])=Gh A B (l.map (·.1))/\l++j=jT (dS A) (dS B):=
    ⟨d++[(t,p,q)],c,rfl,by rw[List.map_append];rfl,by rw[←i];simp⟩
   refine Eq.mpr (rUn κ A B t (d.map (·.1)) p q (fun st'=>∃l j:List BI,Qe c=Qe j/\st'=Gh A B (l.map (·.1))/\l++j=jT (dS A) (dS B)) K) ⟨t,rfl,y,ai.2 ⟨?_,?_⟩⟩
   ·rw[an2,List.length_map];omega
   ·have e:List.take (d.map (·.1)).length (rws (d.map (·.1)))++[AV.ad 72 t]=rws (d.map (·.1)++[t]):=by
     rw[←vB,←fq (d.map (·.1)),List.take_length]
    rw[e];simp only[Gh,ao6,List.length_singleton] at f;exact f
 ·rintro st' ⟨d,c,o,rfl,i⟩
  obtain rfl:c=[]:=by cases c with|nil=>rfl|cons _ _=>cases o
  rw[List.append_nil] at i;rw[i];exact v
noncomputable def Tl κ:=(Vk _).range 15 5 Kg (gUn κ) fun f=>ic f (82::WS)
theorem yUn κ A B K:(a8 (Tl κ).E 12 15 [.ad 70 A, .ad 70 B] [] K)=(
 letI a:=K (AV.aK [AV.nil,AV.int 80]) []
 aG (eE A) (an (!dr (dS A)) a (aG (eE B) (an (!dr (dS B)) a (∃(e1:List AV),∃(e0:List AV),([AV.ptr 1 0 [] 0,AV.ptr 2 0 [] 0],ui A B)=([AV.ptr 1 0 []
 0,AV.ptr 2 0 [] 0],ui e1 e0)/\Tt e1 e0/\K (AV.aK [AV.ax 0 0 (List.length (lE (dS e1) (dS e0))),AV.int 0]) [Obj.row 70 (rws (lE (dS e1) (dS e0)))]))))):=by kernel_rfl
abbrev SH:=List AV×List AV
def Ot(x:SH):List AV×List Dn.Obj:=([.ad 70 x.1, .ad 70 x.2],[])
structure s9(x:SH):Prop where
 f:Tt x.1 x.2
 a:dr (dS x.1)=true
 b:dr (dS x.2)=true
def Yf(x:SH):Out (AV×List Dn.Obj):= .one (.aK [.ax 0 0 (lE (dS x.1) (dS x.2)).length, .int 0],[.row 70 (rws (lE (dS x.1) (dS x.2)))])
theorem cUn κ:bq (Tl κ).E 12 15 (aX Ot s9 Yf):=by
 refine a7 ?_;rintro⟨A,B⟩ K ⟨c,e,f⟩ d;refine Eq.mpr (yUn _ A B K) (ai.2 ⟨c.a,?_⟩);rw[e];refine ai.2 ⟨c.b,?_⟩;rw[f];exact⟨A,B,rfl,c,d⟩
noncomputable def Tk κ:=((Tl κ).call (cUn _)).calm [15,50]
def AS v:=decide (((toStr (af v 2)).size:Int)>1000)
abbrev Q7(x:List _×Nat):=sp 17 [(0, .ad 72 x.1),(3, .int x.2)] []
theorem xLg(κ:Kp)(x:List AV×Nat)(I:Nat->S->Prop)(n:Nat)(K:Exit->S->Prop):(vc (Tk κ).E 12 30 none 0 (ah (Pr κ).toProgram 30 2) (Q7 x) (bh (Tk κ).E 30 2 0 I n K))=(
 letI a:=(↑(x.2):Int)<(↑(x.1.length):Int)
 an (decide a) (aG (true&&decide a) (an (decide ((↑(ByteArray.size (toStr (af (nth x.1 (Int.toNat (↑(x.2):Int))) 2))):Int)>(1000:Int))) (K Exit.ret
 (sp 17 [(2,AV.int 1)] [])) (∃(e0:Nat),e0<n/\I e0 (sp 17 [(0,AV.ad 72 x.1),(3,AV.int (IntKind.wrap IntKind.i64 ((↑(x.2):Int)+(1:Int))))] []))))
 (K (Exit.exit 0) (sp 17 [] []))):=by kernel_rfl
def XT(x:List AV×Nat):Out (Exit×S):= .an ((x.1.drop x.2).any AS) (.one (.ret,sp 17 [(2, .int 1)] [])) (.one (.exit 0,sp 17 [] []))
theorem lLg(κ:Kp):aP (Tk κ).E 12 30 2 (aI 0 Q7 (fun x=>x.2<=x.1.length/\x.1.length<=100000000) XT):=by
 refine aD (fun x=>x.1.length - x.2) ?_;rintro⟨r,i⟩ K ⟨h1,h2⟩ ho;simp only at h1 h2;rw[show(Tk κ).E.P=Pr κ from rfl];refine Eq.mpr (xLg κ (r,i) _ _ K) ?_;simp only[Int.toNat_natCast];have ho:an ((r.drop i).any AS) (K .ret (sp 17 [(2, .int 1)] [])) (K (.exit 0) (sp 17 [] [])):=ho;rw[ag,an2,an4];refine⟨fun h=>?_,fun h=>?_⟩
 ·have hi:i<r.length:=by omega
  have ho2:=ho;rw[ao3 hi,List.any_cons,←aJ r i hi] at ho2;refine ai.2 ⟨by simp;omega,ag.2 ⟨fun e=>?_,fun e=>⟨_,?_,(r,i+1),?_,⟨hi,h2⟩,rfl,?_⟩⟩⟩
  ·rw[show AS (nth r i)=true from e] at ho2;exact ho2
  ·simp only;omega
  ·simp only[Q7]
   rw[ay (n:=(i:Int)+1) (by omega) (by omega)];rfl
  ·rw[show AS (nth r i)=false from e,Bool.false_or] at ho2;exact ho2
 ·rw[ao0 (by omega)] at ho
  exact ho
noncomputable def SV(κ:Kp):EB:=(Tk κ).loop (lLg κ)
theorem yLg(κ:Kp)(r:List AV)(K:AV->List Dn.Obj->Prop):(a8 (SV κ).E 12 30 [.ad 72 r] [] K)=(
 letI a:=Pg.toProgram (Env.P (EB.E (Tk κ)))
 ah a 30 2=ah a 30 2/\∃(e0:List AV×Nat),sp 17 [(0,AV.ad 72 r),(3,AV.int 0)] []=Q7 e0/\(e0.2<=e0.1.length/\e0.1.length<=100000000)/\an
 (List.any (List.drop e0.2 e0.1) AS) (K (AV.int 1) []) (K (AV.int 0) [])):=by kernel_rfl
def gLg:List AV->Option (Bool×AV)
 |[.ad 72 r]=>some (decide (r.length<=100000000), .int (bif r.any AS then 1 else 0))
 |_=>none
theorem pLg κ:cg (SV κ).E 12 30 gLg:=by
 intro b x a;unfold gLg at a;split at a
 ·rename_i r
  simp   at a;obtain⟨c,rfl⟩:=a;refine⟨_,rfl,rfl,Eq.mpr (yLg κ r _) ⟨rfl,(r,0),rfl,by grind,?_⟩⟩;rw[ao2];cases r.any _<;>exact rfl
 grind
noncomputable def SX κ:=EB.L2 ((SV κ).pure (pLg _)) [30]
theorem uR{ds a}(h:pr ds a=true):j2 ds a:=by
 simp only[pr,an3,an2] at h;obtain⟨_,c,d,f⟩:=h;refine⟨by simp only[aU];omega,by simp only[aU];omega,fun x g=>?_⟩;have b:=zN (a.map yD) 2000 (by omega) c (yD x) (by grind);have e:yD x=aH (cG x):=rfl;rw[e,fK] at b;refine⟨?_,by omega⟩
 grind [nO,cG,sI,aH]
structure Zz where
 xs:List AV
 ds:List AV
 rs:List AV
 i:Nat
 n:Nat
 k:Nat
abbrev US(x:Zz):=sp 91 [(1, .ad 51 x.xs),(2, .ptr 0 0 [] 0),(5, .int x.i),(6, .int x.n),(7, .int x.k)] [.box 25 (lj x.ds x.rs)]
theorem xLk κ x I n K:(vc (SX κ).E 12 12 none 0 (ah (Pr κ).toProgram 12 8) (US x) (bh (SX κ).E 12 8 0 I n K))=(
 letI a:=IntKind.wrap IntKind.i64
 letI b:=AV.ptr 0 0 []
 letI c:=AV.int
 letI e:=aa (af (nth x.rs (Int.toNat (↑(x.i):Int))) 1)
 letI f:=true&&decide ((↑(x.i):Int)<(↑(x.rs.length):Int))
 letI g:=a ((↑(x.k):Int)+(1:Int))
 letI h:=(↑(x.k):Int)<(↑(List.length e):Int)
 letI d:=lj x.ds x.rs
 aG f (an (decide h) (aG f (aG (true&&decide h) (an (toInt (af (nth e (Int.toNat (↑(x.k):Int))) 0)==(1:Int)) (∃(e0:Nat),e0<n/\I e0 (sp 91
 [(1,AV.ad 51 x.xs),(2,b 0),(5,c (↑(x.i):Int)),(6,c (a ((↑(x.n):Int)+(1:Int)))),(7,c g)]
 [Obj.box 25 d])) (∃(e0:Nat),e0<n/\I e0 (sp 91 [(1,AV.ad 51 x.xs),(2,b 0),(5,c (↑(x.i):Int)),(6,c (↑(x.n):Int)),(7,
 c g)] [Obj.box 25 d]))))) (K (Exit.exit 2) (sp 91 [(1,AV.ad 51 x.xs),(2,b 0),(5,c (↑(x.i):Int)),(6,c (↑(x.n):Int))]
 [Obj.box 25 d])))):=by kernel_rfl
def NO(x:Zz):=x.i<x.rs.length/\x.k<=(aa (af (nth x.rs x.i) 1)).length/\(aa (af (nth x.rs x.i) 1)).length<=100000/\x.n<=x.k
def M6(x:Zz):Out (Exit×S):= .one (.exit 2,sp 91 [(1, .ad 51 x.xs),(2, .ptr 0 0 [] 0),(5, .int x.i),(6, .int (x.n+yS ((aa (af (nth x.rs x.i) 1)).drop x.k):Nat))] [.box 25 (lj x.ds x.rs)])
theorem lLk κ:aP (SX κ).E 12 12 8 (aI 0 US NO M6):=by
 refine aD (fun x=>(aa (af (nth x.rs x.i) 1)).length - x.k) ?_;rintro⟨xs,ds,b,i,n,k⟩ K ⟨d,j,f,g⟩ a;simp only at d j f g;rw[show(SX κ).E.P=Pr κ from rfl];refine Eq.mpr (xLk κ ⟨xs,ds,b,i,n,k⟩ _ _ K) ?_;simp only[Int.toNat_natCast];refine ai.2 ⟨by simp;omega,?_⟩;rw[ag,an2,an4];simp only[M6,Out.run] at a;refine⟨fun h=>ai.2 ⟨by simp;omega,ai.2 ⟨by simp;omega,?_⟩⟩,fun h=>?_⟩
 ·have c:k<(aa (af (nth b i) 1)).length:=by omega
  rw[ay (n:=(k:Int)+1) (by omega) (by omega),ay (n:=(n:Int)+1) (by omega) (by omega)];have hd:yS ((aa (af (nth b i) 1)).drop k)=(bif toInt (af (nth (aa (af (nth b i) 1)) k) 0)==1 then 1 else 0)+yS ((aa (af (nth b i) 1)).drop (k+1)):=by
   rw[ao3 c,←aJ _ k c];unfold yS
   grind
  rw[hd] at a;rw[ag];refine⟨fun e=>?_,fun e=>?_⟩
  ·rw[e,an9] at a
   refine⟨_,?_,⟨xs,ds,b,i,n+1,k+1⟩,rfl,⟨d,c,f,by simp only;omega⟩,rfl,?_⟩
   ·simp only;omega
   ·simp only[M6,Out.run]
    rw[Nat.add_assoc];exact a
  ·rw[e,an7,Nat.zero_add] at a
   refine⟨_,?_,⟨xs,ds,b,i,n,k+1⟩,rfl,⟨d,c,f,by simp only;omega⟩,rfl,a⟩;simp only;omega
 ·rw[ao0 (by omega)] at a
  exact a
noncomputable def SW κ:=(SX κ).loop (lLk _)
abbrev Y1 xs ds a(i:Nat):=sp 91 [(1, .ad 51 xs),(2, .ptr 0 0 [] 0),(5, .int i)] [.box 25 (lj ds a)]
theorem xLr κ xs ds rs i I n K:(vc (SW κ).E 12 12 none 0 (ah (Pr κ).toProgram 12 4) (Y1 xs ds rs i) (bh (SW κ).E 12 4 0 I n K))=(
 letI a:=AV.int
 letI b:=Pg.toProgram (Env.P (EB.E (SX κ)))
 an (decide ((↑i:Int)<(↑(rs.length):Int))) (ah b 12 8=ah b 12 8/\∃(e1:Zz),sp 91 [(1,AV.ad 51 xs),(2,AV.ptr 0 0 [] 0),(5,a (↑i:Int)),
 (6,a 0),(7,a 0)] [Obj.box 25 (lj ds rs)]=US e1/\NO e1/\an (decide ((↑(e1.n+yS (List.drop e1.k (aa (af (nth e1.rs e1.i) 1)))):Int)>(3:
 Int))) (K Exit.ret (sp 91 [(4,a 0)] [])) (∃(e0:Nat),e0<n/\I e0 (sp 91 [(1,AV.ad 51 e1.xs),(2,AV.ptr 0 0 [] 0),(5,a (IntKind.wrap
 IntKind.i64 ((↑(e1.i):Int)+(1:Int))))] [Obj.box 25 (lj e1.ds e1.rs)]))) (K (Exit.exit 0) (sp 91 [(1,AV.ad 51 xs)] []))):=by kernel_rfl
structure ZA where
 xs:List AV
 ds:List AV
 rs:List AV
 i:Nat
abbrev Sp(x:ZA):=Y1 x.xs x.ds x.rs x.i
def NP(x:ZA):=x.i<=x.rs.length/\x.rs.length<=100000/\∀r,r∈x.rs->(aa (af r 1)).length<=100000
def M7(x:ZA):Out (Exit×S):= .an ((x.rs.drop x.i).all RM) (.one (.exit 0,sp 91 [(1, .ad 51 x.xs)] [])) (.one (.ret,sp 91 [(4, .int 0)] []))
theorem lLr κ:aP (SW κ).E 12 12 4 (aI 0 Sp NP M7):=by
 refine aD (fun x=>x.rs.length - x.i) ?_;rintro⟨xs,ds,a,i⟩ K ⟨j,f,d⟩ b;simp only at j f d;rw[show(SW κ).E.P=Pr κ from rfl];refine Eq.mpr (xLr κ xs ds a i _ _ K) ?_;simp only[M7,Out.run,ag] at b;rw[ag,an2,an4];refine⟨fun h=>?_,fun h=>?_⟩
 ·have c:i<a.length:=by omega
  have g:nth a i∈a:=by rw[aJ _ _ c];exact List.getElem_mem _
  rw[ao3 c,←aJ _ i c,ao8] at b;refine⟨rfl,⟨xs,ds,a,i,0,0⟩,rfl,⟨c,Nat.zero_le _,d _ g,Nat.le_refl _⟩,?_⟩;simp only[ao2,Nat.zero_add];rw[ay (n:=(i:Int)+1) (by omega) (by omega),ag,an2,an4];refine⟨fun e=>b.2 ?_,fun e=>⟨_,?_,⟨xs,ds,a,i+1⟩,rfl,⟨c,f,d⟩,rfl,?_⟩⟩
  ·rw[show RM (nth a i)=false from an6 (by omega),Bool.false_and]
  ·simp only;omega
  ·simp only[M7,Out.run,ag]
   rw[show RM (nth a i)=true from an8 (by omega),ao7] at b;exact b
 ·rw[ao0 (by omega)] at b
  exact b.1 rfl
noncomputable def SZ κ:=(SW κ).loop (lLr _)
structure Rx where
 xs:List AV
 n:Nat
 i:Nat
 k:Nat
abbrev Q8(x:Rx):=sp 91 [(1, .ad 51 x.xs),(8, .int x.n),(9, .int x.i),(10, .int x.k)] []
theorem xLv κ x I n K:(vc (SZ κ).E 12 12 none 0 (ah (Pr κ).toProgram 12 22) (Q8 x) (bh (SZ κ).E 12 22 0 I n K))=(
 letI a:=AV.int
 letI b:=aa (nth x.xs (Int.toNat (↑(x.i):Int)))
 letI c:=true&&decide ((↑(x.i):Int)<(↑(x.xs.length):Int))
 letI d:=(↑(x.k):Int)<(↑(List.length b):Int)
 letI e:=aa (nth b (Int.toNat (↑(x.k):Int)))
 aG c (an (decide d) (aG c (aG (true&&decide d) (aG (decide (List.length e<=100000000)) (an ((bif List.any e AS then(1:Int) else(0:Int))==(1:
 Int)) (K Exit.ret (sp 91 [(4,a 0)] [])) (∃(e0:Nat),e0<n/\I e0 (sp 91 [(1,AV.ad 51 x.xs),(8,a (↑(x.n):Int)),(9,a (↑(x.i):Int)),
 (10,a (IntKind.wrap IntKind.i64 ((↑(x.k):Int)+(1:Int))))] [])))))) (K (Exit.exit 6) (sp 91 [(1,AV.ad 51 x.xs),(8,a (↑(x.n):Int)),(9,
 a (↑(x.i):Int))] [])))):=by kernel_rfl
def Jt r:=(aa r).any AS
def NQ(x:Rx):=x.i<x.xs.length/\x.k<=(aa (nth x.xs x.i)).length/\iP x.xs=true
def XU(x:Rx):Out (Exit×S):= .an (((aa (nth x.xs x.i)).drop x.k).any Jt) (.one (.ret,sp 91 [(4, .int 0)] [])) (.one (.exit 6,sp 91 [(1, .ad 51 x.xs),(8, .int x.n),(9, .int x.i)] []))
theorem lLv κ:aP (SZ κ).E 12 12 22 (aI 0 Q8 NQ XU):=by
 refine aD (fun x=>(aa (nth x.xs x.i)).length - x.k) ?_;rintro⟨xs,n,i,k⟩ K ⟨f,j,d⟩ b;simp only at f j d;rw[show(SZ κ).E.P=Pr κ from rfl];refine Eq.mpr (xLv κ ⟨xs,n,i,k⟩ _ _ K) ?_;simp only[Int.toNat_natCast];have g:=oK d i;have l:=jW g;have b:an (((aa (nth xs i)).drop k).any Jt) (K .ret (sp 91 [(4, .int 0)] [])) (K (.exit 6) (sp 91 [(1, .ad 51 xs),(8, .int n),(9, .int i)] [])):=b;refine ai.2 ⟨by simp;omega,?_⟩;rw[ag,an2,an4];refine⟨fun h=>?_,fun h=>?_⟩
 ·have c:k<(aa (nth xs i)).length:=by omega
  have a:=b;rw[ao3 c,List.any_cons,←aJ _ k c] at a;refine ai.2 ⟨by simp;omega,ai.2 ⟨by simp;omega,ai.2 ⟨an8 (nu g k),?_⟩⟩⟩;cases e:(aa (nth (aa (nth xs i)) k)).any AS with
  |true=>
   rw[show Jt (nth (aa (nth xs i)) k)=true from e] at a;exact a
  | false=>
   rw[show Jt (nth (aa (nth xs i)) k)=false from e,Bool.false_or] at a;refine⟨_,?_,⟨xs,n,i,k+1⟩,?_,⟨f,c,d⟩,rfl,a⟩
   ·simp only;omega
   ·simp only[Q8]
    rw[ay (n:=(k:Int)+1) (by omega) (by omega)];rfl
 ·rw[ao0 (by omega)] at b
  exact b
noncomputable def S0 κ:=(SZ κ).loop (lLv _)
abbrev Q9(x:Rx):=sp 91 [(1, .ad 51 x.xs),(8, .int x.n),(9, .int x.i)] []
theorem xLw κ x I n K:(vc (S0 κ).E 12 12 none 0 (ah (Pr κ).toProgram 12 16) (Q9 x) (bh (S0 κ).E 12 16 0 I n K))=(
 letI a:=IntKind.wrap IntKind.i64
 letI b:=AV.int
 letI c:=(↑(x.n):Int)+(↑(List.length (aa (nth x.xs (Int.toNat (↑(x.i):Int))))):Int)
 letI d:=(↑(x.i):Int)<(↑(x.xs.length):Int)
 letI e:=K Exit.ret (sp 91 [(4,b 0)] [])
 letI f:=Pg.toProgram (Env.P (EB.E (SZ κ)))
 an (decide d) (aG (true&&decide d) (an (decide (a c>(20:Int))) e (ah f 12 22=ah f 12 22/\∃(e1:Rx),sp 91 [(1,AV.ad 51
 x.xs),(8,b (a c)),(9,b (↑(x.i):Int)),(10,b 0)] []=Q8 e1/\NQ e1/\an (List.any (List.drop e1.k (aa (nth e1.xs
 e1.i))) Jt) e (∃(e0:Nat),e0<n/\I e0 (sp 91 [(1,AV.ad 51 e1.xs),(8,b (↑(e1.n):Int)),(9,b (a ((↑(e1.i):Int)+(1
 :Int))))] []))))) (K (Exit.exit 4) (sp 91 [] []))):=by kernel_rfl
def yo:List AV->Nat->Bool
 |[],_=>true
 |x::xs,n=>decide (n+(aa x).length<=20)&&(!(aa x).any Jt&&yo xs (n+(aa x).length))
def NR(x:Rx):=x.i<=x.xs.length/\x.n<=20/\iP x.xs=true
def XV(x:Rx):Out (Exit×S):= .an (yo (x.xs.drop x.i) x.n) (.one (.exit 4,sp 91 [] [])) (.one (.ret,sp 91 [(4, .int 0)] []))
theorem lLw κ:aP (S0 κ).E 12 12 16 (aI 0 Q9 NR XV):=by
 refine aD (fun x=>x.xs.length - x.i) ?_;rintro⟨xs,n,i,k⟩ K ⟨m,o,b⟩ d;simp only at m o b;rw[show(S0 κ).E.P=Pr κ from rfl];refine Eq.mpr (xLw κ ⟨xs,n,i,k⟩ _ _ K) ?_;simp only[Int.toNat_natCast];have p:=oK b i;have q:=jW p;have l:xs.length<=100000000:=by simp only[iP,an3,an2] at b;exact b.1
 have d:an (yo (xs.drop i) n) (K (.exit 4) (sp 91 [] [])) (K .ret (sp 91 [(4, .int 0)] [])):=d;rw[ag,an2,an4];refine⟨fun h=>?_,fun h=>?_⟩
 ·have f:i<xs.length:=by omega
  have a:=d;rw[ao3 f,←aJ xs i f,yo] at a;have g:=ay (n:=(n:Int)+(aa (nth xs i)).length) (by omega) (by omega);refine ai.2 ⟨by simp;omega,ag.2 ⟨fun c=>?_,fun c=>⟨trivial,⟨xs,n+(aa (nth xs i)).length,i,0⟩,by rw[g];rfl,⟨f,Nat.zero_le _,b⟩,?_⟩⟩⟩
  all_goals
   have j:=c
   first
   |have c:=of_decide_eq_true j
    rw[g] at c
   |have c:=of_decide_eq_false j
    rw[g] at c
  ·rw[an6 (show ¬ n+(aa (nth xs i)).length<=20 by omega),Bool.false_and] at a
   exact a
  ·rw[an8 (show n+(aa (nth xs i)).length<=20 by omega),ao7] at a
   simp only[ao2];rw[ag];refine⟨fun e=>?_,fun e=>?_⟩
   ·rw[e] at a;exact a
   ·rw[e,Bool.not_false,ao7] at a
    refine⟨_,?_,⟨xs,n+(aa (nth xs i)).length,i+1,k⟩,?_,⟨f,by simp only;omega,b⟩,rfl,a⟩
    ·simp only;omega
    ·simp only[Q9]
     rw[ay (n:=(i:Int)+1) (by omega) (by omega)];rfl
 ·rw[ao0 (by omega)] at d
  exact d
noncomputable def BLw κ:=(S0 κ).loop (lLw _)
theorem yLw κ ds rs xs K:(a8 (BLw κ).E 12 12 [lj ds rs, .ad 51 xs] [] K)=(
 letI a:=AV.int
 letI b:=Pg.toProgram (Env.P (EB.E (SW κ)))
 letI c:=Pg.toProgram (Env.P (EB.E (S0 κ)))
 aG (decide (ds.length<=9223372036854775807)&&List.all ds fun(e0:AV)=>decide (List.length (aa (af e0 1))<=9223372036854775807)) (an ((bif pr ds rs then
 (1:Int) else(0:Int))==(0:Int)) (K (a 0) []) (an (decide ((↑(rs.length):Int)>(8:Int))) (K (a 0) []) (an (decide ((↑(xs.length):Int)>
 (60:Int))) (K (a 0) []) (ah b 12 4=ah b 12 4/\∃(e1:ZA),sp 91 [(1,AV.ad 51 xs),(2,AV.ptr 0 0 [] 0),(5,a 0)] [Obj.box 25 (lj ds rs)]=
 Sp e1/\NP e1/\an (List.all (List.drop e1.i e1.rs) RM) (ah c 12 16=ah c 12 16/\∃(e0:Rx),sp 91 [(1,AV.ad 51 e1.xs),(8,a 0),(9,a 0)] []=
 Q9 e0/\NR e0/\an (yo (List.drop e0.i e0.xs) e0.n) (K (a 1) []) (K (a 0) [])) (K (a 0) [])))))):=by kernel_rfl
def wV ds a xs:=pr ds a&&(decide (a.length<=8)&&(decide (xs.length<=60)&&(a.all RM&&yo xs 0)))
def gLw:List AV->Option (Bool×AV)
 |[.agg [.ad 43 ds, .ad 48 a], .ad 51 xs]=>some (decide (ds.length<=aU)&&ds.all (fun d=>decide ((aa (af d 1)).length<=aU))&&iP xs, .int (bif wV ds a xs then 1 else 0))
 |_=>none
theorem pLw κ:cg (BLw κ).E 12 12 gLw:=by
 intro f x b;unfold gLw at b;split at b
 ·rename_i ds a xs
  simp only[an5,ao1] at b;obtain⟨c,rfl⟩:=b;rw[an3] at c;obtain⟨c,g⟩:=c;refine⟨_,rfl,rfl,?_⟩;refine Eq.mpr (yLw κ ds a xs _) ?_;refine ai.2 ⟨c,?_⟩;unfold wV;cases h:pr ds a with
  |false=>exact rfl
  | true=>
   rw[ao7];refine ag.2 ⟨fun e=>absurd e (by decide),fun _=>?_⟩;rw[ag,an2,an4];refine⟨fun e=>?_,fun e=>?_⟩
   ·rw[an6 (show ¬ a.length<=8 by omega)];rfl
   ·rw[an8 (show a.length<=8 by omega),ao7]
    rw[ag,an2,an4];refine⟨fun e=>?_,fun e=>⟨rfl,⟨xs,ds,a,0⟩,rfl,⟨Nat.zero_le _,by show a.length<=100000;omega,fun r i=>(uR h).2.2 r i|>.2⟩,?_⟩⟩
    ·rw[an6 (show ¬ xs.length<=60 by omega)];rfl
    ·rw[an8 (show xs.length<=60 by omega),ao7,ao2]
     rw[ag];refine⟨fun d=>⟨rfl,⟨xs,0,0,0⟩,rfl,⟨Nat.zero_le _,Nat.zero_le _,g⟩,?_⟩,fun d=>?_⟩
     ·rw[d,ao7,ao2]
      cases yo xs 0<;>exact rfl
     ·rw[d];rfl
 ·cases b
noncomputable def Vn κ:=(BLw κ).pure (pLw _)
structure Ry where
 A:List AV
 i:Nat
 k:Nat
abbrev Rc(x:Ry):=sp 53 [(0, .ad 70 x.A),(1, .ad 70 x.A),(5, .int x.i),(6, .int x.k)] []
theorem xSe κ x I n K:(vc (Vn κ).E 12 16 none 0 (ah (Pr κ).toProgram 16 9) (Rc x) (bh (Vn κ).E 16 9 0 I n K))=(
 letI b:=true&&decide ((↑(x.i):Int)<(↑(x.A.length):Int))
 letI d:=aa (nth x.A (Int.toNat (↑(x.i):Int)))
 letI a:=nth d (Int.toNat (↑(x.k):Int))
 letI c:=(↑(x.k):Int)<(↑(List.length d):Int)
 aG b (an (decide c) (aG b (aG (true&&decide c) (aG b (aG (true&&decide c) (an (!(Dn.toBool (af a 0)==Dn.toBool (af a 0)&&(toInt (af a 1)==
 toInt (af a 1)&&(ByteArray.toList (toStr (af a 2))==ByteArray.toList (toStr (af a 2))&&true)))) (K Exit.ret (sp 53 [(4,AV.bool false)] [])) (∃(e0:
 Nat),e0<n/\I e0 (sp 53 [(0,AV.ad 70 x.A),(1,AV.ad 70 x.A),(5,AV.int (↑(x.i):Int)),(6,AV.int (IntKind.wrap IntKind.i64 ((↑(x.k):Int)+(1:
 Int))))] []))))))) (K (Exit.exit 2) (sp 53 [(0,AV.ad 70 x.A),(1,AV.ad 70 x.A),(5,AV.int (↑(x.i):Int))] [])))):=by kernel_rfl
def NV(x:Ry):=x.i<x.A.length/\x.k<=(aa (nth x.A x.i)).length/\(aa (nth x.A x.i)).length<=100000000
def X8(x:Ry):Out (Exit×S):= .one (.exit 2,sp 53 [(0, .ad 70 x.A),(1, .ad 70 x.A),(5, .int x.i)] [])
theorem lSe κ:aP (Vn κ).E 12 16 9 (aI 0 Rc NV X8):=by
 refine aD (fun x=>(aa (nth x.A x.i)).length - x.k) ?_;rintro⟨A,i,k⟩ K ⟨e,f,d⟩ c;simp only at e f d;refine Eq.mpr (xSe κ ⟨A,i,k⟩ _ _ K) ?_;simp only[Int.toNat_natCast,beq_self_eq_true,Bool.and_self,Bool.not_true];have a:(true&&decide ((i:Int)<(A.length:Int)))=true:=by simp;omega
 refine ai.2 ⟨a,?_⟩;rw[ag,an2,an4];refine⟨fun h=>?_,fun h=>c⟩;have b:(true&&decide ((k:Int)<((aa (nth A i)).length:Int)))=true:=by simp;omega
 refine ai.2 ⟨a,ai.2 ⟨b,ai.2 ⟨a,ai.2 ⟨b,_,?_,⟨A,i,k+1⟩,?_,⟨e,by simp only;omega,d⟩,rfl,c⟩⟩⟩⟩
 ·simp only;omega
 ·simp only[Rc]
  grind [ay]
noncomputable def Vr κ:=(Vn κ).loop (lSe _)
abbrev Oq(x:Ry):=sp 53 [(0, .ad 70 x.A),(1, .ad 70 x.A),(5, .int x.i)] []
theorem xSf κ x I n K:(vc (Vr κ).E 12 16 none 0 (ah (Pr κ).toProgram 16 4) (Oq x) (bh (Vr κ).E 16 4 0 I n K))=(
 letI a:=(↑(x.i):Int)<(↑(x.A.length):Int)
 letI b:=List.length (aa (nth x.A (Int.toNat (↑(x.i):Int))))
 letI c:=Pg.toProgram (Env.P (EB.E (Vn κ)))
 an (decide a) (aG (true&&decide a) (aG (true&&decide a) (an ((↑b:Int) != (↑b:Int)) (K Exit.ret (sp 53 [(4,AV.bool false)] [])) (ah c 16 9=ah c
 16 9/\∃(e1:Ry),sp 53 [(0,AV.ad 70 x.A),(1,AV.ad 70 x.A),(5,AV.int (↑(x.i):Int)),(6,AV.int 0)] []=Rc e1/\NV e1/\∃(e0:Nat),e0<n/\I e0 (sp
 53 [(0,AV.ad 70 e1.A),(1,AV.ad 70 e1.A),(5,AV.int (IntKind.wrap IntKind.i64 ((↑(e1.i):Int)+(1:Int))))] []))))) (K (Exit.exit 0) (sp 53 [] []))):=by kernel_rfl
def F6(x:Ry):=x.i<=x.A.length/\eE x.A=true
def R9(_:Ry):Out (Exit×S):= .one (.exit 0,sp 53 [] [])
theorem lSf κ:aP (Vr κ).E 12 16 4 (aI 0 Oq F6 R9):=by
 refine aD (fun x=>x.A.length - x.i) ?_;rintro⟨A,i,k⟩ K ⟨e,a⟩ c;simp only at e a;refine Eq.mpr (xSf κ ⟨A,i,k⟩ _ _ K) ?_;simp only[Int.toNat_natCast,bne_self_eq_false];have f:=jW a;rw[ag,an2,an4];refine⟨fun h=>?_,fun h=>c⟩;have d:(true&&decide ((i:Int)<(A.length:Int)))=true:=by simp;omega
 have b: ∃m,m<A.length - i/\gq Oq F6 R9 (fun x=>x.A.length - x.i) K m (sp 53 [(0, .ad 70 A),(1, .ad 70 A),(5, .int (IntKind.wrap .i64 ((i:Int)+1)))] []):=by
  refine⟨_,?_,⟨A,i+1,k⟩,?_,⟨by simp only;omega,a⟩,rfl,c⟩
  ·simp only;omega
  ·simp only[Oq]
   grind [ay]
 exact ai.2 ⟨d,ai.2 ⟨d,trivial,⟨A,i,0⟩,rfl,⟨by simp only;omega,Nat.zero_le _,nu a i⟩,b⟩⟩
noncomputable def BSf κ:=(Vr κ).loop (lSf _)
theorem ySf κ A K:(a8 (BSf κ).E 12 16 [.ad 70 A, .ad 70 A] [] K)=(
 letI a:=Pg.toProgram (Env.P (EB.E (Vr κ)))
 an ((↑(A.length):Int) != (↑(A.length):Int)) (K (AV.bool false) []) (ah a 16 4=ah a 16 4/\∃(e0:Ry),sp 53 [(0,AV.ad 70 A),(1,AV.ad 70 A),(5,
 AV.int 0)] []=Oq e0/\F6 e0/\K (AV.bool true) [])):=by kernel_rfl
def Zb(A:List AV):List AV×List Dn.Obj:=([.ad 70 A, .ad 70 A],[])
def X7(_:List AV):Out (AV×List Dn.Obj):= .one (.bool true,[])
theorem cS8 κ:bq (BSf κ).E 12 16 (aX Zb (fun A=>eE A=true) X7):=by
 refine a7 ?_;intro A K h a;refine Eq.mpr (ySf _ A K) ?_;simp only[bne_self_eq_false];exact⟨trivial,⟨A,0,0⟩,rfl,⟨Nat.zero_le _,h⟩,a⟩
noncomputable def BS8 κ:=(BSf κ).call (cS8 _)
end Go.Proofs.YtioeffnadipbaaaGreatDoor
namespace Go.Proofs.YtioeffnadipbaaaGreatDoor
open Go Go.Dn Go.Rl Go.Proofs
attribute [local irreducible] a8 vc
set_option maxRecDepth 20000
def JD{α:Type}:List α->Prop
 |[]=>True
 |_::_=>False
theorem so{α:Type}{l:List α}(h:JD l):l=[]:=by cases l with|nil=>rfl|cons=>exact h.elim
def YB:cO:=fun args st K=>(args=[lj [dE,dP] [r1],q1,WT, .ad 70 []]/\JD st)/\K (.aK [.ad 70 [.ad 72 [nv 2]], .int 0]) []
theorem Kd:YB.gA:=fun _ _ _ _ hK h=>⟨h.1,hK _ _ h.2⟩
theorem Ys(κ:Kp): ∀args st K,YB args st K->bt (Pr κ) 14 args st K:=fun args st K h=>by
 obtain⟨⟨h1,h2⟩,h⟩:=h;obtain rfl:=so h2;obtain rfl:=h1;exact cZ (BV κ).ok (BV κ).mono (Yk κ h)
def Yy:cO:=fun args st K=>(args=[lj [dE,dP] [r1], .int 0]/\JD st)/\K (.aK [q1, .int 0]) []
theorem Ka:Yy.gA:=fun _ _ _ _ hK h=>⟨h.1,hK _ _ h.2⟩
theorem Xs:qA (bB [dE,dP] (cG r1))=q1:=by kernel_rfl
theorem UE:j2 [dE,dP] [r1]:=⟨by decide,by decide,fun x hx=>by obtain rfl:=List.mem_singleton.1 hx;exact XC.s⟩
theorem Yp(κ:Kp): ∀args st K,Yy args st K->bt (Pr κ) 13 args st K:=fun args st K h=>by
 obtain⟨⟨h1,h2⟩,h⟩:=h;obtain rfl:=so h2;obtain rfl:=h1;refine cZ (VT κ).ok (VT κ).mono (cQo κ _ _ K ?_);refine⟨⟨[dE,dP],[r1],0⟩,rfl,UE,?_⟩;rw[Na,show decide (Ec [dE,dP] [r1] 0 0 ([r1]:List AV).length=0)=true by kernel_rfl];simp only[Out.run,an];rw[show(nth ([r1]:List AV) (0:Int).toNat)=r1 from rfl,Xs];exact h
noncomputable def BOn(κ:Kp):EB:=EB.inline (Vo κ) [58]
theorem yOn(κ:Kp)(K:AV->List Dn.Obj->Prop):(a8 (BOn κ).E 12 28 [] [] K)=(
 letI a:=AV.int
 letI b:=AV.agg
 letI c:=AV.bool
 letI d:=AV.str
 letI e:=AV.ad
 letI f:=AV.nil
 letI g:=b [e 43 [b [d {data:= #[OfNat.ofNat 101]},e 9 [d {data:= #[OfNat.ofNat 97]},d {data:= #[OfNat.ofNat 98]},d {data:= #[OfNat.ofNat 99]}],e 3 [a 1,a 1,a 1],c false,c false,a 0],b [d {data:= #[OfNat.ofNat 112]},e 9 [d {data:= #[OfNat.ofNat 97]}],e 3 [a 1],c false,c false,a 0]],e 48 [b [b [d {data:= #[OfNat.ofNat 112]},e 38 [b [a 1,d {data:= #[OfNat.ofNat 120]},a 0,f]]],e 80 [b [a 1,b [d {data:= #[OfNat.ofNat 101]},e 38 [b [a 1,d {data:= #[OfNat.ofNat 120]},a 0,f],b [a 2,d {data:= #[]},a 1,f],b [a 1,d {data:= #[OfNat.ofNat 120]},a 0,f]]],b [a 0,d {data:= #[]},a 0,f],b [a 0,d {data:= #[]},a 0,f]]],a 0]]]
 (K (b [e 43 [b [d {data:= #[OfNat.ofNat 101]},e 9 [d {data:= #[OfNat.ofNat 97]},d {data:= #[OfNat.ofNat 98]},d {data:= #[OfNat.ofNat 99]}],e 3 [a 1,a 1,a 1],c false,c false,a 0],b [d {data:= #[OfNat.ofNat 112]},e 9 [d {data:= #[OfNat.ofNat 97]}],e 3 [a 1],c false,c false,a 0]],e 48 [b [b [d {data:= #[OfNat.ofNat 112]},e 38 [b [a 1,d {data:= #[OfNat.ofNat 120]},a 0,f]]],e 80 [b [a 1,b [d {data:= #[OfNat.ofNat 101]},e 38 [b [a 1,d {data:= #[OfNat.ofNat 120]},a 0,f],b [a 2,d {data:= #[]},a 1,f],b [a 1,d {data:= #[OfNat.ofNat 120]},a 0,f]]],b [a 0,d {data:= #[]},a 0,f],b [a 0,d {data:= #[]},a 0,f]]],a 0]]]) []/\K g [])/\(K g []/\K g [])/\K g []):=by kernel_rfl
noncomputable def BSa(κ:Kp):EB:=((Vo κ).nT (fun f=>ic f [16]) 12 9).nT (fun f=>ic f [16]) 12 9
theorem ySa(κ:Kp)(K:AV->List Dn.Obj->Prop):(a8 (BSa κ).E 12 16 [.ad 70 [.ad 72 [nv 2]], .ad 70 [.ad 72 [nv 2]]] [] K)=(
 K (AV.bool true) []):=by kernel_rfl
def Yz:cO:=fun args st K=>(JD args/\JD st)/\K (.agg [.ad 43 [dE,dP], .ad 48 [r1]]) []
theorem Kb:Yz.gA:=fun _ _ _ _ hK h=>⟨h.1,hK _ _ h.2⟩
theorem Yq(κ:Kp): ∀args st K,Yz args st K->bt (Pr κ) 28 args st K:=fun args st K h=>by
 obtain⟨⟨h1,h2⟩,h⟩:=h;obtain rfl:=so h2;obtain rfl:=so h1;refine cZ (BOn κ).ok (BOn κ).mono (Eq.mpr (yOn κ K) ?_)
 repeat' (first|exact h|exact trivial|exact rfl|refine And.intro ?_ ?_)
def YC:cO:=fun args st K=>(args=[.ad 70 [.ad 72 [nv 2]], .ad 70 [.ad 72 [nv 2]]]/\JD st)/\K (.bool true) []
theorem Ke:YC.gA:=fun _ _ _ _ hK h=>⟨h.1,hK _ _ h.2⟩
theorem Yt(κ:Kp): ∀args st K,YC args st K->bt (Pr κ) 16 args st K:=fun args st K h=>by
 obtain⟨⟨h1,h2⟩,h⟩:=h;obtain rfl:=so h2;obtain rfl:=h1;exact cZ (BSa κ).ok (BSa κ).mono (Eq.mpr (ySa κ K) h)
def EB.disown(b:EB)(l:List Nat):EB:=⟨{b.E with own:=fun f=>!ic f l&&b.E.own f},⟨b.ok.prog,b.ok.fN,b.ok.call,b.ok.lB,b.ok.loop⟩,⟨b.mono.call,b.mono.loop,b.mono.lB⟩⟩
noncomputable def VV(κ:Kp):EB:=EB.disown (((((Vo κ).Ee Kd (Ys κ)).Ee Ka (Yp κ)).Ee Kb (Yq κ)).Ee Ke (Yt κ)) [13]
theorem ySh(κ:Kp)(K:AV->List Dn.Obj->Prop):(a8 (VV κ).E 12 11 [] [] K)=(
 letI a:=AV.int
 letI b:=AV.agg
 letI c:=AV.bool
 letI d:=AV.str
 letI e:=AV.ad
 letI f:=AV.nil
 letI g:=True/\True
 g/\([b [e 43 [b [d {data:= #[OfNat.ofNat 101]},e 9 [d {data:= #[OfNat.ofNat 97]},d {data:= #[OfNat.ofNat 98]},d {data:= #[OfNat.ofNat 99]}],e 3 [a 1,a 1,a 1],c false,c false,a 0],b [d {data:= #[OfNat.ofNat 112]},e 9 [d {data:= #[OfNat.ofNat 97]}],e 3 [a 1],c false,c false,a 0]],e 48 [b [b [d {data:= #[OfNat.ofNat 112]},e 38 [b [a 1,d bx,a 0,f]]],e 80 [b [a 1,b [d {data:= #[OfNat.ofNat 101]},e 38 [b [a 1,d bx,a 0,f],b [a 2,d b0,a 1,f],b [a 1,d bx,a 0,f]]],b [a 0,d b0,a 0,f],b [a 0,d b0,a 0,f]]],a 0]]],a 0]=[b [e 43 [b [d {data:= #[OfNat.ofNat 101]},e 9 [d {data:= #[OfNat.ofNat 97]},d {data:= #[OfNat.ofNat 98]},d {data:= #[OfNat.ofNat 99]}],e 3 [a 1,a 1,a 1],c false,c false,a 0],b [d {data:= #[OfNat.ofNat 112]},e 9 [d {data:= #[OfNat.ofNat 97]}],e 3 [a 1],c false,c false,a 0]],e 48 [b [b [d {data:= #[OfNat.ofNat 112]},e 38 [b [a 1,d bx,a 0,f]]],e 80 [b [a 1,b [d {data:= #[OfNat.ofNat 101]},e 38 [b [a 1,d bx,a 0,f],b [a 2,d b0,a 1,f],b [a 1,d bx,a 0,f]]],b [a 0,d b0,a 0,f],b [a 0,d b0,a 0,f]]],a 0]]],a 0]/\True)/\(g/\([b [e 43 [b [d {data:= #[OfNat.ofNat 101]},e 9 [d {data:= #[OfNat.ofNat 97]},d {data:= #[OfNat.ofNat 98]},d {data:= #[OfNat.ofNat 99]}],e 3 [a 1,a 1,a 1],c false,c false,a 0],b [d {data:= #[OfNat.ofNat 112]},e 9 [d {data:= #[OfNat.ofNat 97]}],e 3 [a 1],c false,c false,a 0]],e 48 [b [b [d {data:= #[OfNat.ofNat 112]},e 38 [b [a 1,d bx,a 0,f]]],e 80 [b [a 1,b [d {data:= #[OfNat.ofNat 101]},e 38 [b [a 1,d bx,a 0,f],b [a 2,d b0,a 1,f],b [a 1,d bx,a 0,f]]],b [a 0,d b0,a 0,f],b [a 0,d b0,a 0,f]]],a 0]]],b [a 1,e 40 [b [a 1,a 0,a 0,e 3 [a 1],e 38 [b [a 2,d b0,a 1,e 38 []]],e 3 [a 0],e 9 [d bx],e 3 [a 2],e 9 [d bx],d b0,b [a 0,d b0,a 0,e 38 []],b [a 0,d b0,a 0,e 38 []]]],e 38 [b [a 1,d bx,a 0,e 38 []]],a (-1)],e 51 [e 70 [e 72 [b [c false,a 2,d {data:= #[]}],b [c false,a 1,d {data:= #[]}],b [c false,a 2,d {data:= #[]}]],e 72 [b [c false,a 2,d {data:= #[]}],b [c false,a 1,d {data:= #[]}],b [c false,a 3,d {data:= #[]}]]],f],e 70 []]=[b [e 43 [b [d {data:= #[OfNat.ofNat 101]},e 9 [d {data:= #[OfNat.ofNat 97]},d {data:= #[OfNat.ofNat 98]},d {data:= #[OfNat.ofNat 99]}],e 3 [a 1,a 1,a 1],c false,c false,a 0],b [d {data:= #[OfNat.ofNat 112]},e 9 [d {data:= #[OfNat.ofNat 97]}],e 3 [a 1],c false,c false,a 0]],e 48 [b [b [d {data:= #[OfNat.ofNat 112]},e 38 [b [a 1,d bx,a 0,f]]],e 80 [b [a 1,b [d {data:= #[OfNat.ofNat 101]},e 38 [b [a 1,d bx,a 0,f],b [a 2,d b0,a 1,f],b [a 1,d bx,a 0,f]]],b [a 0,d b0,a 0,f],b [a 0,d b0,a 0,f]]],a 0]]],b [a 1,e 40 [b [a 1,a 0,a 0,e 3 [a 1],e 38 [b [a 2,d b0,a 1,e 38 []]],e 3 [a 0],e 9 [d bx],e 3 [a 2],e 9 [d bx],d b0,b [a 0,d b0,a 0,e 38 []],b [a 0,d b0,a 0,e 38 []]]],e 38 [b [a 1,d bx,a 0,e 38 []]],a (-1)],e 51 [e 70 [e 72 [b [c false,a 2,d b0],b [c false,a 1,d b0],b [c false,a 2,d b0]],e 72 [b [c false,a 2,d b0],b [c false,a 1,d b0],b [c false,a 3,d b0]]],f],e 70 []]/\True)/\([e 70 [e 72 [b [c false,a 2,d b0]]],e 70 [e 72 [b [c false,a 2,d {data:= #[]}]]]]=[e 70 [e 72 [b [c false,a 2,d b0]]],e 70 [e 72 [b [c false,a 2,d b0]]]]/\True)/\K (c true) [])/\g/\([b [e 43 [b [d {data:= #[OfNat.ofNat 101]},e 9 [d {data:= #[OfNat.ofNat 97]},d {data:= #[OfNat.ofNat 98]},d {data:= #[OfNat.ofNat 99]}],e 3 [a 1,a 1,a 1],c false,c false,a 0],b [d {data:= #[OfNat.ofNat 112]},e 9 [d {data:= #[OfNat.ofNat 97]}],e 3 [a 1],c false,c false,a 0]],e 48 [b [b [d {data:= #[OfNat.ofNat 112]},e 38 [b [a 1,d bx,a 0,f]]],e 80 [b [a 1,b [d {data:= #[OfNat.ofNat 101]},e 38 [b [a 1,d bx,a 0,f],b [a 2,d b0,a 1,f],b [a 1,d bx,a 0,f]]],b [a 0,d b0,a 0,f],b [a 0,d b0,a 0,f]]],a 0]]],b [a 1,e 40 [b [a 1,a 0,a 0,e 3 [a 1],e 38 [b [a 2,d b0,a 1,e 38 []]],e 3 [a 0],e 9 [d bx],e 3 [a 2],e 9 [d bx],d b0,b [a 0,d b0,a 0,e 38 []],b [a 0,d b0,a 0,e 38 []]]],e 38 [b [a 1,d bx,a 0,e 38 []]],a (-1)],e 51 [e 70 [e 72 [b [c false,a 2,d {data:= #[]}],b [c false,a 1,d {data:= #[]}],b [c false,a 2,d {data:= #[]}]],e 72 [b [c false,a 2,d {data:= #[]}],b [c false,a 1,d {data:= #[]}],b [c false,a 3,d {data:= #[]}]]],f],e 70 []]=[b [e 43 [b [d {data:= #[OfNat.ofNat 101]},e 9 [d {data:= #[OfNat.ofNat 97]},d {data:= #[OfNat.ofNat 98]},d {data:= #[OfNat.ofNat 99]}],e 3 [a 1,a 1,a 1],c false,c false,a 0],b [d {data:= #[OfNat.ofNat 112]},e 9 [d {data:= #[OfNat.ofNat 97]}],e 3 [a 1],c false,c false,a 0]],e 48 [b [b [d {data:= #[OfNat.ofNat 112]},e 38 [b [a 1,d bx,a 0,f]]],e 80 [b [a 1,b [d {data:= #[OfNat.ofNat 101]},e 38 [b [a 1,d bx,a 0,f],b [a 2,d b0,a 1,f],b [a 1,d bx,a 0,f]]],b [a 0,d b0,a 0,f],b [a 0,d b0,a 0,f]]],a 0]]],b [a 1,e 40 [b [a 1,a 0,a 0,e 3 [a 1],e 38 [b [a 2,d b0,a 1,e 38 []]],e 3 [a 0],e 9 [d bx],e 3 [a 2],e 9 [d bx],d b0,b [a 0,d b0,a 0,e 38 []],b [a 0,d b0,a 0,e 38 []]]],e 38 [b [a 1,d bx,a 0,e 38 []]],a (-1)],e 51 [e 70 [e 72 [b [c false,a 2,d b0],b [c false,a 1,d b0],b [c false,a 2,d b0]],e 72 [b [c false,a 2,d b0],b [c false,a 1,d b0],b [c false,a 3,d b0]]],f],e 70 []]/\True)/\([e 70 [e 72 [b [c false,a 2,d b0]]],e 70 [e 72 [b [c false,a 2,d {data:= #[]}]]]]=[e 70 [e 72 [b [c false,a 2,d b0]]],e 70 [e 72 [b [c false,a 2,d b0]]]]/\True)/\K (c true) []):=by kernel_rfl
theorem aj0(κ:Kp){K:AV->List Dn.Obj->Prop}(h:K (.bool true) []):a8 (VV κ).E 12 11 [] [] K:=by
 refine Eq.mpr (ySh κ K) ?_
 repeat' (first|exact h|exact trivial|exact rfl|refine And.intro ?_ ?_)
def gSh:List AV->Option (Bool×AV)
 |[]=>some (true, .bool true)
 |_=>none
theorem pSh(κ:Kp):cg (VV κ).E 12 11 gSh:=by
 intro args x hh;unfold gSh at hh;split at hh
 ·simp only[an5,ao1] at hh
  obtain⟨_,rfl⟩:=hh;exact⟨_,rfl,rfl,aj0 κ rfl⟩
 ·cases hh
abbrev U4(a:Vg)(j:Int):AV:=nth (bB a.ds (cG (nth a.rs a.k.toNat))).steps j.toNat
abbrev toQ(a:Vg)(j:Int):Int:=toInt (af (U4 a j) 2)
abbrev eK(a:Vg)(ins:List AV)(j:Int):List AV:=aa (nth ins (Int.toNat (toQ a j)))
abbrev LH(n p:Int):Int:=if(if n<p then n else p)>0 then(if n<p then n else p) else 0
noncomputable def ZL(κ:Kp):EB:=(BS8 κ).Bt (lq (VV κ).ok (VV κ).mono (pSh κ))
theorem yQp(κ:Kp)(ds rs ins:List AV)(k j p:Int)(K:AV->List Dn.Obj->Prop):(a8 (ZL κ).E 12 4 [lj ds rs, .ad 51 ins, .int k, .int j, .int p] [] K)=(
 letI b:=AV.int
 letI c:=AV.bool
 letI e:=AV.ad
 aG ((decide (ds.length<=9223372036854775807)&&List.all ds fun(d:AV)=>decide (List.length (aa (af d 1))<=9223372036854775807))&&iP ins) (an
 ((bif wV ds rs ins then(1:Int) else(0:Int))==(0:Int)) (K (c true) []) (∃(a:Vg),([lj ds rs,b k],[])=Y7 a/\(a.ds.length<=
 9223372036854775807/\a.rs.length<=9223372036854775807/\∀(x:AV),List.Mem x a.rs->aM (ae (bk 38 (dt.hl (cG x)) (dt.bl (cG x))))<=100000/\
 List.length (dt.bl (cG x))<=100000)/\an (decide (Ec a.ds a.rs a.k a.k (↑(a.rs.length):Int)=(0:Int))) (an (decide (j<(0:Int))) (K (c
 true) []) (an (decide (j>=(↑(List.length (QD.steps (bB a.ds (cG (nth a.rs a.k.toNat))))):Int))) (K (c true) []) (aG (decide ((0:Int)<=j)&&
 decide (j<(↑(List.length (QD.steps (bB a.ds (cG (nth a.rs a.k.toNat))))):Int))) (an (toInt (af (U4 a j) 0) != (1:Int)) (K (c true) []) (an
 ((↑(ins.length):Int) != (↑(ds.length):Int)) (K (c true) []) (aG (decide ((0:Int)<=j)&&decide (j<(↑(List.length (QD.steps (bB a.ds (cG
 (nth a.rs a.k.toNat))))):Int))) (an (decide (toQ a j<(0:Int))) (K (c false) []) (an (decide (toQ a j>=(↑(ins.length):Int))) (K (c false)
 []) (∃(a_1:jB),([lj ds rs,AV.agg [b (QD.rel (bB a.ds (cG (nth a.rs a.k.toNat)))),e 40 (QD.steps (bB a.ds (cG (nth a.rs a.k.toNat)))),
 e 38 (QD.out (bB a.ds (cG (nth a.rs a.k.toNat)))),b (QD.delta (bB a.ds (cG (nth a.rs a.k.toNat))))],e 51 ins,e 70 []],[])=
 Oo a_1/\s8 a_1/\an (jB.fit a_1) (aG (decide ((0:Int)<=toQ a j)&&decide (toQ a j<(↑(ins.length):Int))) (aG (decide ((0:Int)<=toQ a j)&&
 decide (toQ a j<(↑(ins.length):Int))) (aG (true&&decide ((0:Int)<=if(if(↑(List.length (eK a ins j)):Int)<p then(↑(List.length (eK a ins
 j)):Int) else p)>(0:Int) then if(↑(List.length (eK a ins j)):Int)<p then(↑(List.length (eK a ins j)):Int) else p else(0:Int))&&decide
 ((if(if(↑(List.length (eK a ins j)):Int)<p then(↑(List.length (eK a ins j)):Int) else p)>(0:Int) then if(↑(List.length (eK a ins j)):Int)
 <p then(↑(List.length (eK a ins j)):Int) else p else(0:Int))<=(↑(List.length (eK a ins j)):Int))) (∃(a_2:jB),([lj ds rs,AV.agg [b
 (QD.rel (bB a.ds (cG (nth a.rs a.k.toNat)))),e 40 (QD.steps (bB a.ds (cG (nth a.rs a.k.toNat)))),e 38 (QD.out (bB a.ds (cG (nth a.rs
 a.k.toNat)))),b j],e 51 ins,e 70 (List.drop 0 (List.take (Int.toNat (if(if(↑(List.length (eK a ins j)):Int)<p then(↑(List.length
 (eK a ins j)):Int) else p)>(0:Int) then if(↑(List.length (eK a ins j)):Int)<p then(↑(List.length (eK a ins j)):Int) else p else(0:Int)))
 (eK a ins j)))],[])=Oo a_2/\s8 a_2/\an (jB.fit a_2) (aG (decide ((0:Int)<=toQ a j)&&decide (toQ a j<(↑(ins.length):Int))) (aG (decide
 ((0:Int)<=if(if(↑(List.length (eK a ins j)):Int)<p then(↑(List.length (eK a ins j)):Int) else p)>(0:Int) then if(↑(List.length (eK a ins
 j)):Int)<p then(↑(List.length (eK a ins j)):Int) else p else(0:Int))&&decide ((if(if(↑(List.length (eK a ins j)):Int)<p then
 (↑(List.length (eK a ins j)):Int) else p)>(0:Int) then if(↑(List.length (eK a ins j)):Int)<p then(↑(List.length (eK a ins j)):Int) else p
 else(0:Int))<=(↑(List.length (eK a ins j)):Int))&&decide ((↑(List.length (eK a ins j)):Int)<=(↑(List.length (eK a ins j)):Int))) (∃(a_3:
 jB),([lj ds rs,AV.agg [b (QD.rel (bB a.ds (cG (nth a.rs a.k.toNat)))),e 40 (QD.steps (bB a.ds (cG (nth a.rs a.k.toNat)))),e 38
 (QD.out (bB a.ds (cG (nth a.rs a.k.toNat)))),b j],e 51 ins,e 70 (List.drop (Int.toNat (if(if(↑(List.length (eK a ins j)):Int)<p
 then(↑(List.length (eK a ins j)):Int) else p)>(0:Int) then if(↑(List.length (eK a ins j)):Int)<p then(↑(List.length (eK a ins j)):Int)
 else p else(0:Int))) (List.take (Int.toNat (↑(List.length (eK a ins j)):Int)) (eK a ins j)))],[])=Oo a_3/\s8 a_3/\an (jB.fit a_3) (∃(a:
 SH),([e 70 (rws (ie (jB.res a_2))),e 70 (rws (ie (jB.res a_3)))],[])=Ot a/\s9 a/\∃(a_4:List AV),([e 70 (List.take
 (List.length (lE (dS a.1) (dS a.2))) (List.drop 0 (rws (lE (dS a.1) (dS a.2))))),e 70 (rws (ie (jB.res a_1)))],[])=Zb a_4/\eE a_4=
 true/\K (c true) []) (∃(a:SH),([e 70 (rws (ie (jB.res a_2))),e 70 []],[])=Ot a/\s9 a/\K (c false) [])))) (aG
 (decide ((0:Int)<=toQ a j)&&decide (toQ a j<(↑(ins.length):Int))) (aG (decide ((0:Int)<=if(if(↑(List.length (eK a ins j)):Int)<p then
 (↑(List.length (eK a ins j)):Int) else p)>(0:Int) then if(↑(List.length (eK a ins j)):Int)<p then(↑(List.length (eK a ins j)):Int) else p
 else(0:Int))&&decide ((if(if(↑(List.length (eK a ins j)):Int)<p then(↑(List.length (eK a ins j)):Int) else p)>(0:Int) then if
 (↑(List.length (eK a ins j)):Int)<p then(↑(List.length (eK a ins j)):Int) else p else(0:Int))<=(↑(List.length (eK a ins j)):Int))&&decide
 ((↑(List.length (eK a ins j)):Int)<=(↑(List.length (eK a ins j)):Int))) (∃(a_3:jB),([lj ds rs,AV.agg [b (QD.rel (bB a.ds (cG (nth a.rs
 a.k.toNat)))),e 40 (QD.steps (bB a.ds (cG (nth a.rs a.k.toNat)))),e 38 (QD.out (bB a.ds (cG (nth a.rs a.k.toNat)))),b j],e 51
 ins,e 70 (List.drop (Int.toNat (if(if(↑(List.length (eK a ins j)):Int)<p then(↑(List.length (eK a ins j)):Int) else p)>(0:Int) then if
 (↑(List.length (eK a ins j)):Int)<p then(↑(List.length (eK a ins j)):Int) else p else(0:Int))) (List.take (Int.toNat (↑(List.length (eK a ins
 j)):Int)) (eK a ins j)))],[])=Oo a_3/\s8 a_3/\an (jB.fit a_3) (∃(a:SH),([e 70 [],e 70 (rws (ie (jB.res a_3)))],[])=Ot
 a/\s9 a/\K (c false) []) (∃(a:SH),([e 70 [],e 70 []],[])=Ot a/\s9 a/\K (c false) [])))))))) (K (c true)
 [])))))))))) (an (Ec a.ds a.rs a.k a.k (↑(a.rs.length):Int) != (0:Int)) (K (c true) []) (an (decide (j<(0:Int))) (K (c true) []) (aG
 (decide (j>=(0:Int))) (K (c true) []))))))):=by kernel_rfl
theorem TK(n p:Int)(h:0<=n):0<=LH n p/\LH n p<=n:=by
 unfold LH;split<;>split<;>omega
theorem Rp{A B:RL}(hA:iL A)(hB:iL B)(rA:dr A=true)(rB:dr B=true):(lE A B).length<=A.length+B.length:=by
 rw[Rq hA hB rA rB,←ao6];exact sO _
theorem QH{A B:RL}(fA:kq A)(fB:kq B)(rA:dr A=true)(rB:dr B=true)(hl:A.length+B.length<=100000000):s9 (rws A,rws B):=by
 refine⟨⟨rX fA.n fA.s,rX fB.n fB.s,?_,fun x hx=>?_⟩,?_,?_⟩
 ·simp only[lY]
  have:=Rp fA.v fB.v rA rB
  rw[lE,List.length_map] at this;omega
 ·simp only[lY] at hx
  rcases(jv fA.v fB.v).1 (List.mem_map_of_mem (f:=(·.1)) hx) with h|h
  ·exact fA.s _ h
  ·exact fB.s _ h
 ·simp only[lY];exact rA
 ·simp only[lY];exact rB
theorem ER: ∀{xs:List AV} {n:Nat},yo xs n=true->∀i,(aa (nth xs i)).length<=20
 |[],_,_,i=>by rw[iF _ i (Nat.zero_le _)];exact Nat.zero_le _
 |x::xs,n,h,i=>by
  simp only[yo,an3,an2] at h;cases i with
  |zero=>show(aa x).length<=20;omega
  |succ i=>exact ER h.2.2 i
section
variable {ds rs ins:List AV} {r:AV}
theorem QG{d:Int}{del:List AV}(sp:j2 ds rs)(hc:(jy ds rs).2=0)(hr:r∈rs)(l2:rs.length<=8)(h3:RM r=true)(hs:ZV ins)(hf:yo ins 0=true)(d0: -1<=d)(d1:d<(bB ds (cG r)).steps.length)
  (d2:0<=d->toInt (af (nth (bB ds (cG r)).steps d.toNat) 0)=1/\0<=toInt (af (nth (bB ds (cG r)).steps d.toNat) 2)/\toInt (af (nth (bB ds (cG r)).steps d.toNat) 2)<ds.length)
  (hd: ∃i,del.Sublist (aa (nth ins i))/\(0<=d->i=(toInt (af (nth (bB ds (cG r)).steps d.toNat) 2)).toNat)):s8 ⟨ds,rs,r,d,ins,del⟩/\(iv ds rs ins=true->Le ⟨ds,rs,r,d,ins,del⟩/\(jB.mk ds rs r d ins del).res.length<=8000/\kq (jB.mk ds rs r d ins del).res):=by
 obtain⟨m,hd1,hd2⟩:=hd;have fx:=LP hd1 (oK hs.f m);have key:iv ds rs ins=true->Le ⟨ds,rs,r,d,ins,del⟩/\(jB.mk ds rs r d ins del).res.length<=8000/\kq (jB.mk ds rs r d ins del).res:=fun e=>by
  have hq:Le ⟨ds,rs,r,d,ins,del⟩:=⟨sp,hc,hr,WO hs e,fun v hv h0=>by
   have e2:=hd2 h0;show v∈aa (nth ins (toInt (af (nth (bB ds (cG r)).steps d.toNat) 2)).toNat)
   rw[←e2];exact hd1.subset hv,fx⟩
  refine⟨hq,QC hq h3 fun i=>?_⟩;unfold eS;cases(i:Int)==(jB.mk ds rs r d ins del).q.delta with
  |true=>exact Nat.le_trans hd1.length_le (ER hf m)
  |false=>exact ER hf _
 refine⟨⟨sp,hc,hr,by show rs.length<=100000;omega,d0,d1,d2,by rw[GL sp,hs.f];rfl,?_,fun e=>?_⟩,key⟩
 ·simp only[iP,ao8,List.all_nil,Bool.and_true,an3,an2]
  exact⟨by simp,fx⟩
 ·have e:iv ds rs ins=true:=by
   unfold jB.fit at e;rw[an3] at e;exact e.1
  obtain⟨k1,k2,k3⟩:=key e;exact⟨WN k1,by omega,k3⟩
end
theorem Yr(κ:Kp){ds rs ins:List AV}{k j p:Int}(h1:(decide (ds.length<=aU)&&ds.all fun d=>decide ((aa (af d 1)).length<=aU))=true)(_: ∀r,r∈rs->aw (cG r)=r)(hs:ZV ins){K:AV->List Dn.Obj->Prop}(ho:K (.bool true) []):a8 (ZL κ).E 12 4 [lj ds rs, .ad 51 ins, .int k, .int j, .int p] [] K:=by
 refine Eq.mpr (yQp κ ds rs ins k j p K) (ai.2 ⟨by rw[hs.f,Bool.and_true];exact h1,?_⟩);cases hL:wV ds rs ins with
 |false=>exact ho
 | true=>
  have hl:=hL;simp only[wV,an3,an2,List.all_eq_true] at hl;obtain⟨l1,l2,l3,l4,l5⟩:=hl;have sp:=uR l1;refine ag.2 ⟨fun e=>absurd e (by decide),fun _=>⟨⟨ds,rs,k⟩,rfl,sp,ag.2 ⟨fun e=>?_,fun e=>ag.2 ⟨fun _=>ho,fun c=>?_⟩⟩⟩⟩
  ·obtain⟨hc,⟨k0,k1⟩,_⟩:=PN (show Ec ds rs k k rs.length=0 from of_decide_eq_true e)
   have hr:nth rs k.toNat∈rs:=by rw[aJ _ _ (by omega)];exact List.getElem_mem _
   refine ag.2 ⟨fun _=>ho,fun c1=>ag.2 ⟨fun _=>ho,fun c2=>?_⟩⟩;have c1:=of_decide_eq_false c1;have c2:=of_decide_eq_false c2;have hj:j<(bB ds (cG (nth rs k.toNat))).steps.length:=by
    have: ¬ j>=((bB ds (cG (nth rs k.toNat))).steps.length:Int):=c2
    omega
   have jj:(decide (0<=j)&&decide (j<((bB ds (cG (nth rs k.toNat))).steps.length:Int)))=true:=by rw[an3,an2,an2];omega
   refine ai.2 ⟨jj,ag.2 ⟨fun _=>ho,fun c3=>ag.2 ⟨fun _=>ho,fun c4=>ai.2 ⟨jj,?_⟩⟩⟩⟩;have o1:toInt (af (nth (bB ds (cG (nth rs k.toNat))).steps j.toNat) 0)=1:=bne_eq_false_iff_eq.1 c3;have hlen:ins.length=ds.length:=by
    have:=bne_eq_false_iff_eq.1 c4
    omega
   have h3:=l4 _ hr;generalize hR:nth rs k.toNat=r at*
   obtain⟨_,_,ma⟩:=A0 sp hc hr;obtain⟨bd,m1,m2⟩:=ma j.toNat (by omega);have hF:=Oy sp hc hr (show nth (cG r).bl ((bI (aH (cG r))).getD j.toNat 0)∈aa (af r 1) by rw[aJ _ _ m1];exact List.getElem_mem _) bd;have o1':=o1;rw[m2] at o1';have hask:=(hF.a (by
    have:(jt ds bd (nth (cG r).bl ((bI (aH (cG r))).getD j.toNat 0))).op=1:=o1'
    unfold qi;rw[this];rfl)).1
   have to:0<=toInt (af (nth (bB ds (cG r)).steps j.toNat) 2)/\toInt (af (nth (bB ds (cG r)).steps j.toNat) 2)<ds.length:=by
    rw[m2];exact⟨hask.r0,hask.r1⟩
   have tt:(decide (0<=toInt (af (nth (bB ds (cG r)).steps j.toNat) 2))&&decide (toInt (af (nth (bB ds (cG r)).steps j.toNat) 2)<(ins.length:Int)))=true:=by rw[an3,an2,an2];omega
   have sQ:=fun(d:Int) (del:List AV)=>QG (ds:=ds) (rs:=rs) (ins:=ins) (r:=r) (d:=d) (del:=del) sp hc hr l2 h3 hs l5
   obtain⟨s0,q0⟩:=sQ (-1) [] (by omega) (by omega) (fun h=>absurd h (by omega)) ⟨0,List.nil_sublist _,fun h=>absurd h (by omega)⟩;have hcut:=TK (aa (nth ins (toInt (af (nth (bB ds (cG r)).steps j.toNat) 2)).toNat)).length p (by omega);have hq:toQ ⟨ds,rs,k⟩ j=toInt (af (nth (bB ds (cG r)).steps j.toNat) 2):=by rw[←hR]
   refine ag.2 ⟨fun c=>absurd (of_decide_eq_true c) (by rw[hq];omega),fun _=>ag.2 ⟨fun c=>absurd (of_decide_eq_true c) (by rw[hq];omega),fun _=>⟨⟨ds,rs,r, -1,ins,[]⟩,by simp only[hR];rfl,s0,ag.2 ⟨fun f0=>?_,fun _=>ho⟩⟩⟩⟩;simp only[eK,toQ,U4,hR];have f0:iv ds rs ins=true:=by
    unfold jB.fit at f0;rw[an3] at f0;exact f0.1
   have hjn:((j.toNat:Nat):Int)=j:=by omega
   generalize hT:toInt (af (nth (bB ds (cG r)).steps j.toNat) 2)=t at*
   obtain⟨A,hA⟩: ∃A,A=List.drop 0 (List.take (LH (aa (nth ins t.toNat)).length p).toNat (aa (nth ins t.toNat))):=⟨_,rfl⟩
   obtain⟨B,hB⟩: ∃B,B=List.drop (LH (aa (nth ins t.toNat)).length p).toNat (List.take (Int.toNat ((aa (nth ins t.toNat)).length:Int)) (aa (nth ins t.toNat))):=⟨_,rfl⟩
   have p1:A.Sublist (aa (nth ins t.toNat)):=by rw[hA];exact(List.drop_sublist _ _).trans (List.take_sublist _ _)
   have p2:B.Sublist (aa (nth ins t.toNat)):=by rw[hB];exact(List.drop_sublist _ _).trans (List.take_sublist _ _)
   have hab:aa (nth ins t.toNat)=A++B:=by
    rw[hA,hB,Int.toNat_natCast,List.take_length,ao2,List.take_append_drop]
   obtain⟨sA,qA⟩:=sQ j _ (by omega) hj (fun _=>⟨o1,by rw[hT];exact to⟩) ⟨t.toNat,p1,fun _=>by rw[hT]⟩;obtain⟨sB,qB⟩:=sQ j _ (by omega) hj (fun _=>⟨o1,by rw[hT];exact to⟩) ⟨t.toNat,p2,fun _=>by rw[hT]⟩;have ft: ∀ys:List AV,ys.Sublist (aa (nth ins t.toNat))->(jB.mk ds rs r j ins ys).fit=true:=fun ys hy=>by
    unfold jB.fit jB.to;have e:toInt (af (nth (jB.mk ds rs r j ins ys).q.steps j.toNat) 2)=t:=hT;simp only[f0,e,ao7];rw[an8 (by omega),an9];exact I9 f0 (by omega) hy
   obtain⟨i0,n0,e0⟩:=q0 f0;obtain⟨iA,nA,eA⟩:=qA f0;obtain⟨iB,nB,eB⟩:=qB f0;have hsum:=Kj (j:=j.toNat) i0 (by rw[hjn];exact iA) (by rw[hjn];exact iB) (by omega) o1 (by rw[hT];exact hab);rw[hjn] at hsum;have ka:=nQ eA.v;have kb:=nQ eB.v;have la:=sO (jB.mk ds rs r j ins A).res;have lb:=sO (jB.mk ds rs r j ins B).res;have k0:=vF e0;refine ai.2 ⟨tt,ai.2 ⟨tt,ai.2 ⟨?_,⟨ds,rs,r,j,ins,A⟩,by rw[hA];rfl,sA,ag.2 ⟨fun _=>ai.2 ⟨tt,ai.2 ⟨?_,⟨ds,rs,r,j,ins,B⟩,by rw[hB];rfl,sB,ag.2 ⟨fun _=>⟨(_,_),rfl,QH (vF eA) (vF eB) ka.1 kb.1 (by omega),⟨_,?_,rX k0.n k0.s,ho⟩⟩,fun c=>absurd ((ft _ p2).symm.trans c) (by simp)⟩⟩⟩,fun c=>absurd ((ft _ p1).symm.trans c) (by simp)⟩⟩⟩⟩
   ·rw[ao7,an3,an2,an2];exact hcut
   ·rw[an3,an3,an2,an2,an2];exact⟨hcut,Int.le_refl _⟩
   ·simp only[lY]
    rw[hsum,ao2,←fq,List.take_length];rfl
  ·exact absurd (bne_eq_false_iff_eq.1 c) (of_decide_eq_false e)
end Go.Proofs.YtioeffnadipbaaaGreatDoor
