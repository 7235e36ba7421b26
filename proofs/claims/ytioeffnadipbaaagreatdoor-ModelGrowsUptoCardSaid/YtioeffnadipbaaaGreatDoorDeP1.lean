import Derived.Test.YtioeffnadipbaaaGreatDoorDoI
import Derived.Test.YtioeffnadipbaaaGreatDoorProg
import Derived.Test.YtioeffnadipbaaaGreatDoorChecked
import Derived.WalkKit
import Derived.LaidEql
import Derived.Stop.Asserts
import Derived.RowKitTokens
namespace Go.Rl
open Go Go.Dn
inductive Tm where
 |mk (op:Int) (s:ByteArray) (n:Int) (l:List Tm)
def Tm.op:Tm->Int| .mk o _ _ _=>o
def Tm.s:Tm->ByteArray| .mk _ s _ _=>s
def Tm.n:Tm->Int| .mk _ _ n _=>n
def Tm.l:Tm->List Tm| .mk _ _ _ l=>l
theorem NC a k:SizeOf.sizeOf (ag a k)<SizeOf.sizeOf a\/ag a k= .cB:=by
 cases a with
 | agg l=>
  simp only[ag];have: ∀l k,SizeOf.sizeOf (nth l k)<SizeOf.sizeOf l\/nth l k= .cB:=by
   intro l;induction l with
   |nil=>intro k;exact .inr rfl
   |cons a l b=>
    intro k;cases k<;>grind [nth]
  grind
 |_=>exact .inr rfl
theorem Nk{a x}(h:x∈af a):SizeOf.sizeOf x<SizeOf.sizeOf a:=by
 cases a with
 |ah T l=>
  have:=List.sizeOf_lt_of_mem (show x∈l from h)
  grind
 |_=>grind [af]
theorem rT{a x k}(h:x∈af (ag a k)):SizeOf.sizeOf x<SizeOf.sizeOf a:=by
 rcases NC a k with b|b
 ·have:=Nk h;omega
 grind [af]
def cI(a:AV):Tm:= .mk (toInt (ag a 0)) (toStr (ag a 1)) (toInt (ag a 2)) ((af (ag a 3)).attach.map fun x=>cI x.1)
termination_by SizeOf.sizeOf a
decreasing_by exact rT x.2
def aa(l:List AV):List Tm:=l.map cI
theorem de a:cI a= .mk (toInt (ag a 0)) (toStr (ag a 1)) (toInt (ag a 2)) (aa (af (ag a 3))):=by
 rw[cI]
 simp_all[aa]
theorem qV a s n T l:cI (.agg [.lit (.int .i64 a), .lit (.string s), .lit (.int .i64 n), .ah T l])= .mk a s n (aa l):=by
 rw[de];rfl
structure At where
 rel:ByteArray
 l:List Tm
def MA(a:AV):At:=⟨toStr (ag a 0),aa (af (ag a 1))⟩
structure Lt where
 op:Int
 a:At
 x:Tm
 y:Tm
def da(a:AV):Lt:=⟨toInt (ag a 0),MA (ag a 1),cI (ag a 2),cI (ag a 3)⟩
structure Rl where
 head:At
 body:List Lt
def dx(l:List AV):List Lt:=l.map da
def wh(a:AV):Rl:=⟨MA (ag a 0),dx (af (ag a 1))⟩
def letter(c:Int):=decide (97<=c)&&decide (c<=122)||decide (65<=c)&&decide (c<=90)||decide (c=95)
theorem zo s p:1<=(Utf8.decode s p).2:=by
 grind [Utf8.decode]
def nameAt(s:ByteArray)(p:Nat):Bool:=
 if h:p<s.size then
  (letter (Utf8.decode s p).1||(!(decide ((p:Int)=0)||decide (((Utf8.decode s p).1:Int)<48)||decide ((57:Int)<(Utf8.decode s p).1))))&&nameAt s (p+(Utf8.decode s p).2)
 else true
termination_by s.size - p
decreasing_by have:=zo s p;omega
def oQ(a b:ByteArray):=a.toList==b.toList
def isName s:=!(oQ s (ByteArray.mk #[])||oQ s (ByteArray.mk #[95])||decide ((40:Int)<s.size))&&nameAt s 0
def mn(a:Int):=decide (a=5)||decide (a=6)||decide (a=7)
def bare(a:Int) s(n:Int):=
 bif decide (a=1) then isName s&&decide (n=0)
 else bif decide (a=2) then oQ s (ByteArray.mk #[])
 else bif decide (a=3) then decide (n=0)
 else bif decide (a=4)||decide (a=0) then oQ s (ByteArray.mk #[])&&decide (n=0)
 else false
def ar:Nat->Tm->Bool
 |0,_=>false
 |h+1,t=>
  bif decide (t.op=0) then false
  else bif mn t.op then oQ t.s (ByteArray.mk #[])&&decide (t.n=0)&&decide (t.l.length=2)&&t.l.all fun x=>!(decide (x.op=3)||decide (x.op=4))&&ar h x
  else bare t.op t.s t.n&&decide (t.l.length=0)
def lH h(l:List _):=l.all fun x=>!(decide (x.op=3)||decide (x.op=4))&&ar h x
theorem eD l:(aa l).length=l.length:=by simp[aa]
theorem su h a s n l:ar (h+1) (.mk a s n l)=bif decide (a=0) then false
  else bif mn a then oQ s (ByteArray.mk #[])&&decide (n=0)&&decide (l.length=2)&&lH h l
  else bare a s n&&decide (l.length=0):=rfl
theorem aM: ∀l i h,nth l i=l[i]
 |[],_,h=>by grind
 |_::_,0,_=>rfl
 |_::l,i+1,h=>by simpa[nth] using aM l i _
theorem eK l i(h:i<l.length):aa (l.drop i)=cI (nth l i)::aa (l.drop (i+1)):=by
 rw[aq7 h,aM l i h];rfl
def aW:Nat:=9223372036854775807
theorem az{n}(a: -9223372036854775808<=n)(b:n<=9223372036854775807):IntKind.wrap .i64 n=n:=by
 grind [IntKind.wrap,IntKind.bits,IntKind.signed]
def bn(a:At):=isName a.rel&& !decide (a.l.length=0)&&decide (a.l.length<=8)&&a.l.all (ar 20)
def Ld(t:Tm):=decide (t.op=0)&&bare t.op t.s t.n&&decide (t.l.length=0)
def Vg(a:At):=oQ a.rel (ByteArray.mk #[])&&decide (a.l.length=0)
def Vv(t:Tm):=decide (t.op=1)||decide (t.op=2)
theorem Ui(o:Int) s n l:Ld (.mk o s n (aa l))=(decide (o=0)&&bare o s n&&decide ((l.length:Int)=0)):=by
 grind [Ld,Tm.op,Tm.s,Tm.n,Tm.l,eD]
theorem U7 s l:Vg ⟨s,aa l⟩=(oQ s (ByteArray.mk #[])&&decide ((l.length:Int)=0)):=by
 grind [Vg,eD]
def jl(l:Lt):=
 bif decide (l.op=1)||decide (l.op=2) then bn l.a&&(Ld l.x&&Ld l.y)
 else bif decide (l.op=3)||decide (l.op=4)||decide (l.op=5)||decide (l.op=6) then Vg l.a&& !decide (l.x.op=4)&& !decide (l.y.op=4)&&ar 20 l.x&&ar 20 l.y
 else bif decide (l.op=7) then bn l.a&&(Vv l.x&&Ld l.y)&&ar 20 l.x
 else bif decide (l.op=8)||decide (l.op=9)||decide (l.op=10) then bn l.a&&(Vv l.x&&decide (l.y.op=1))&&ar 20 l.x&&ar 20 l.y
 else false
theorem K5 b a c s1 d e f s2 g h:jl ⟨b,a, .mk c s1 d e, .mk f s2 g h⟩=
 bif decide (b=1)||decide (b=2) then bn a&&(Ld (.mk c s1 d e)&&Ld (.mk f s2 g h))
 else bif decide (b=3)||decide (b=4)||decide (b=5)||decide (b=6) then Vg a&& !decide (c=4)&& !decide (f=4)&&ar 20 (.mk c s1 d e)&&ar 20 (.mk f s2 g h)
 else bif decide (b=7) then bn a&&(Vv (.mk c s1 d e)&&Ld (.mk f s2 g h))&&ar 20 (.mk c s1 d e)
 else bif decide (b=8)||decide (b=9)||decide (b=10) then bn a&&(Vv (.mk c s1 d e)&&decide (f=1))&&ar 20 (.mk c s1 d e)&&ar 20 (.mk f s2 g h)
 else false:=rfl
def tk n(t:Tm):=!decide (t.op=4)&& !mn t.op&&(!decide (t.op=1)||decide (0<n))
def a8(r:Rl):=bn r.head&&decide (r.body.length<=20)&&r.head.l.all (tk r.body.length)&&r.body.all jl
def tI(r:Rl):=bn r.head::decide (r.body.length<=20)::(r.head.l.map (tk r.body.length)++r.body.map jl)
theorem Gb r:a8 r=(tI r).all id:=by
 simp[a8,tI,Bool.and_assoc]
theorem lt_eq a:da a=⟨toInt (ag a 0),⟨toStr (ag (ag a 1) 0),aa (af (ag (ag a 1) 1))⟩, .mk (toInt (ag (ag a 2) 0)) (toStr (ag (ag a 2) 1)) (toInt (ag (ag a 2) 2)) (aa (af (ag (ag a 2) 3))),
  .mk (toInt (ag (ag a 3) 0)) (toStr (ag (ag a 3) 1)) (toInt (ag (ag a 3) 2)) (aa (af (ag (ag a 3) 3)))⟩:=by
 rw[←de,←de];rfl
theorem oq l i(h:i<l.length):dx (l.drop i)=da (nth l i)::dx (l.drop (i+1)):=by
 rw[aq7 h,aM l i h];rfl
theorem Ba l:(dx l).length=l.length:=by simp[dx]
mutual
def Tm.vars:Tm->List ByteArray
 | .mk op s _ l=>(bif decide (op=1) then[s] else[])++ax l
def ax:List Tm->List ByteArray
 |[]=>[]
 |t::l=>t.vars++ax l
end
mutual
def Tm.mL:Tm->Nat
 | .mk _ _ _ l=>1+bk l
def bk:List Tm->Nat
 |[]=>0
 |t::l=>t.mL+bk l
end
mutual
theorem Tm.Ry: ∀t:Tm,t.vars.length<=t.mL
 | .mk op s n l=>by
  have:=cF l
  simp only[Tm.vars,Tm.mL,ar1];cases decide (op=1)<;>simp<;>omega
theorem cF: ∀l:List Tm,(ax l).length<=bk l
 |[]=>by simp[ax,bk]
 |t::l=>by
  have h1:=Tm.Ry t;have h2:=cF l;simp only[ax,bk,ar1];omega
end
theorem gH: ∀l,l.length<=bk l
 |[]=>by simp
 | .mk _ _ _ m::l=>by
  have:=gH l
  grind [bk,Tm.mL]
def strs(l:List ByteArray):List AV:=l.map fun s=> .lit (.string s)
theorem ba l:(strs l).length=l.length:=by simp[strs]
theorem cO l:List.take l.length (strs l)=strs l:=List.take_of_length_le (by grind [ba])
theorem jk l m:strs (l++m)=strs l++strs m:=by simp[strs]
def dN:List Tm->List ByteArray
 |[]=>[]
 |t::l=>(bif decide (5<=t.op) then ax [t] else[])++dN l
theorem Cs: ∀l,(dN l).length<=bk l
 |[]=>by simp[dN]
 |t::l=>by
  have a:=Cs l
  grind [cF,dN,bk]
theorem LU l i(h:i<l.length):dN (aa (l.drop i))=(bif decide (5<=toInt (ag (nth l i) 0)) then ax [cI (nth l i)] else[])++dN (aa (l.drop (i+1))):=by
 rw[eK l i h];rw[de];rfl
instance lawS:LawfulBEq ByteArray where
 eq_of_beq h:=(MapKept.bytes_beq _ _).1 h
 rfl:=(MapKept.bytes_beq _ _).2 rfl
theorem QD{a b}:oQ a b=true↔a=b:=by
 unfold oQ;obtain⟨⟨a⟩⟩:=a;obtain⟨⟨b⟩⟩:=b;simp
theorem VI a b:oQ a b=(a==b):=by
 rw[Bool.eq_iff_iff,QD,beq_iff_eq]
def fF(b:List (Value×AV)):List AV->List (Value×AV)
 |[]=>b
 |a::l=>fF (eC b (.string (toStr a)) (.lit (.bool true))) l
def yt a s:=Dn.toBool (c6 a (.string s) (.lit (.bool false)))
def gi b(l:List _):=l.all fun a=>yt b (toStr a)
def bU l:=fF [] (strs l)
theorem CG: ∀a b c,fF c (a++b)=fF (fF c a) b
 |[],_,_=>rfl
 |x::a,b,c=>by exact CG a b _
theorem mx a b:fF (bU a) (strs b)=bU (a++b):=by
 grind [bU,jk,CG]
theorem zy{s}: ∀{k},eg (.string s) k=true->k= .string s:=by
 intro k h;cases k<;>try cases h
 rw[eq_of_beq h]
theorem Ii s t: ∀a,yt (eC a (.string s) (.lit (.bool true))) t=(t==s||yt a t)
 |[]=>by
  simp only[yt,eC,c6,eg];cases t==s<;>rfl
 | (b,e)::a=>by
  have d:=Ii s t a;simp only[yt,eC,c6] at d⊢;cases h:eg _ b with
  |true=>
   have c:=zy h;subst c;simp only[aq3,c6,eg];cases f:t==s<;>rfl
  |false=>
   simp only[aq1,c6]
   grind
theorem G6 t: ∀l a,yt (fF a (strs l)) t=(yt a t||l.contains t)
 |[],a=>by simp[strs,fF]
 |s::l,a=>by
  have:=G6 t l (eC a (.string s) (.lit (.bool true)))
  rw[show fF a _=fF (eC _ (.string s) _) (strs l) from rfl,this,Ii]
  grind
theorem pE l t:yt (bU l) t=l.contains t:=by
 unfold bU;rw[G6];rfl
theorem RP b s:eC (bU b) (.string s) (.lit (.bool true))=bU (b++[s]):=by
 rw[←mx];rfl
def hasB(b l:List ByteArray):=l.all fun s=>b.contains s
theorem fk b l:gi (bU b) (strs l)=hasB b l:=by
 simp[gi,strs];congr 1;funext s
 exact pE b s
def ep(l:Lt):=ax [l.x,l.y]++ax l.a.l
def jR(l:Lt):=bk [l.x,l.y]+bk l.a.l
def mb a(x y:Tm):=decide (x.op=1)&&(!yt a x.s&&gi a (strs (ax [y])))
def lY b(x y:Tm):=decide (x.op=1)&&(!b.contains x.s&&hasB b (ax [y]))
theorem pB b x y:mb (bU b) x y=lY b x y:=by
 grind [mb,lY,pE,fk]
def nC(a:List ByteArray):List ByteArray->List ByteArray
 |[]=>[]
 |s::l=>bif a.contains s then nC a l else s::nC (a++[s]) l
theorem vF{t}: ∀{l a},t∈nC a l↔t∈l/\t∉a
 |[],a=>by simp[nC]
 | s::l,a=>by
  simp only[nC];cases h:a.contains s with
  |true=>
   rw[aq3,vF]
   grind
  |false=>
   rw[aq1,ar4,vF]
   grind
theorem k8: ∀l a,(nC a l).length<=l.length
 |[],_=>by simp[nC]
 |s::l,a=>by
  simp only[nC];cases a.contains s with
  |true=>have:=k8 l a;grind
  |false=>have:=k8 l (a++[s]);grind
def fx(r:Rl):=ax r.head.l++r.body.flatMap ep
def dg r:=bif a8 r then nC [] (fx r) else[]
theorem zR{r}(h:a8 r=true){s}:s∈dg r↔s∈fx r:=by
 grind [dg,vF]
def ak9:Lt:=⟨0,⟨ByteArray.empty,[]⟩, .mk 0 ByteArray.empty 0 [], .mk 0 ByteArray.empty 0 []⟩
def dW(l:List _) k:=l.getD k ak9
def DV(k:Nat):List Lt->Nat->List ByteArray
 |[],_=>[]
 |l::b,i=>(bif Nat.beq i k then ax [l.x] else ep l)++DV k b (i+1)
def T8(r:Rl) k:=ax r.head.l++DV k r.body 0
def ei r k:=(dg r).filter fun v=>(ax (dW r.body k).a.l).contains v&&(T8 r k).contains v
def cM r k:=bif decide (7<=(dW r.body k).op) then ax [(dW r.body k).x]++ei r k else ep (dW r.body k)
def n9 b r k:=
 bif decide ((dW r.body k).op=1) then hasB b (dN (dW r.body k).a.l)
 else bif decide ((dW r.body k).op=3) then lY b (dW r.body k).x (dW r.body k).y||(lY b (dW r.body k).y (dW r.body k).x||hasB b (ep (dW r.body k)))
 else bif decide ((dW r.body k).op=2)||(decide ((dW r.body k).op=4)||(decide ((dW r.body k).op=5)||decide ((dW r.body k).op=6))) then hasB b (ep (dW r.body k))
 else(decide ((dW r.body k).op=7)||(ax (dW r.body k).a.l).contains (dW r.body k).y.s)&&(hasB b (ei r k)&&hasB b (dN (dW r.body k).a.l))
def fv(l:List _) k:=l.getD k false
def mj(r:Rl)(done:List Bool)(b:List ByteArray):Nat->Nat->Int->Int
 |0,_,a=>a
 |n+1,k,a=>
  bif fv done k|| !n9 b r k then mj r done b n (k+1) a
  else bif !decide ((dW r.body k).op=1) then k
  else mj r done b n (k+1) (bif decide (a<0) then(k:Int) else a)
def aF r done b:=mj r done b r.body.length 0 (-1)
def om(r:Rl):Nat->List Bool->List ByteArray->List Nat
 |0,_,_=>[]
 |n+1,done,b=>bif decide (aF r done b<0) then[] else(aF r done b).toNat::om r n (done.set (aF r done b).toNat true) (b++cM r (aF r done b).toNat)
def K0(r:Rl) b k:=
 decide ((dW r.body k).op=3)&&(lY b (dW r.body k).x (dW r.body k).y&&decide ((dW r.body k).y.op>=5)||lY b (dW r.body k).y (dW r.body k).x&&decide ((dW r.body k).x.op>=5))||decide (7<=(dW r.body k).op)
def L5(r:Rl):Nat->List Bool->List ByteArray->Bool
 |0,_,_=>false
 |n+1,done,b=>bif decide (aF r done b<0) then false else K0 r b (aF r done b).toNat||L5 r n (done.set (aF r done b).toNat true) (b++cM r (aF r done b).toNat)
def LD r:=L5 r r.body.length (List.replicate r.body.length false) []
def cQ r:=om r r.body.length (List.replicate r.body.length false) []
def e9 r(l:List _):=l.flatMap (cM r)
def jX r:=decide (r.body.length<=(cQ r).length)&&hasB (e9 r (cQ r)) (ax r.head.l)
def GK(r:Rl):Int:=bif a8 r then bif jX r then 0 else 60 else 30
def okI r done b(x:Int):=0<=x/\x.toNat<r.body.length/\fv done x.toNat=false/\n9 b r x.toNat=true
theorem yd r done b: ∀n k a,k+n=r.body.length->a<0\/okI r done b a->
  mj r done b n k a=a/\a<0\/okI r done b (mj r done b n k a)
 |0,_,a,_,h=>by
  grind [mj]
 | n+1,k,a,g,h=>by
  have e:=fun f h=>yd r done b n (k+1) f (by omega) h
  simp only[mj];cases c:fv done k|| !n9 b r k with
  |true=>grind
  |false=>
   simp only[Bool.or_eq_false_iff,aq8] at c;have d:okI r done b (k:Int):=⟨by omega,by simp;omega,by simpa using c.1,by simpa using c.2⟩
   grind
theorem qR r done b:aF r done b= -1\/okI r done b (aF r done b):=by
 rcases yd r _ b r.body.length 0 (-1) (by simp) (by simp) with h|h
 ·exact .inl h.1
 ·exact .inr h
theorem mV r: ∀n done b,done.length=r.body.length->
  (∀k,k∈om r n done b->k<r.body.length/\fv done k=false)/\(om r n done b).Nodup/\(om r n done b).length<=n
 |0,_,_,_=>by simp[om]
 | n +1,done,b,hd=>by
  simp only[om];cases h:decide (aF r done b<0) with
  |true=>simp
  | false=>
   have i:0<=aF r done b:=by simpa using h
   rcases qR r done b with e|⟨_,e,g,_⟩
   ·omega
   have d:=mV r n (done.set (aF r done b).toNat true) (b++cM r (aF r done b).toNat) (by simpa using hd);rw[aq1];refine⟨fun k c=>?_,?_,by have:=d.2.2;simp only[List.length_cons];omega⟩
   ·rcases List.mem_cons.1 c with rfl|c
    ·exact⟨e,g⟩
    ·obtain⟨f,a⟩:=d.1 k c
     refine⟨f,?_⟩;simp only[fv,List.getD_eq_getElem?_getD,List.getElem?_set] at a⊢;split at a
     ·split at a
      ·simp at a
      ·simp at a;omega
     ·exact a
   ·refine List.nodup_cons.2 ⟨fun c=>?_,d.2.1⟩
    have:=(d.1 _ c).2
    simp[fv,List.getD_eq_getElem?_getD,hd,e] at this
theorem sl{r k}(h:k∈cQ r):k<r.body.length:=((mV r _ _ _ (by simp)).1 k h).1
theorem Cd r:(cQ r).Nodup:=(mV r _ _ _ (by simp)).2.1
theorem Kj r:(cQ r).length<=r.body.length:=(mV r _ _ _ (by simp)).2.2
def GP r k:=(dg r).filter fun v=>(e9 r ((cQ r).take k)).contains v
theorem tc{a b:Nat}(h:a≠b):Nat.beq a b=false:=by
 grind [Nat.eq_of_beq_eq_true]
theorem GL r n done b:om r (n+1) done b=
  bif decide (aF r done b<0) then[] else(aF r done b).toNat::om r n (done.set (aF r done b).toNat true) (b++cM r (aF r done b).toNat):=rfl
theorem FM r done b n k a:mj r done b (n+1) k a=
  bif fv done k|| !n9 b r k then mj r done b n (k+1) a
  else bif !decide ((dW r.body k).op=1) then k
  else mj r done b n (k+1) (bif decide (a<0) then k else a):=rfl
def Z4(r:Rl)(l:Lt):Rl:=⟨r.head,r.body++[l]⟩
structure ap4(r:Rl)(l:Lt):Prop where
 right:a8 r=true
 more:a8 (Z4 r l)=true
 op:l.op=1
 ap5:dN l.a.l=[]
 vars: ∀s,s∈ep l->s∈e9 r (cQ r)
def pT(T:TypeId)(a:AV):AV:= .agg [.lit (.int .i64 (toInt (ag a 0))), .lit (.string (toStr (ag a 1))), .lit (.int .i64 (toInt (ag a 2))), .ah T (af (ag a 3))]
def pN(T:TypeId)(a:AV):List AV:= .aH [pT T a]::((af (ag a 3)).attach.flatMap fun x=>pN T x.1)
termination_by SizeOf.sizeOf a
decreasing_by exact rT x.2
def fG T(l:List _):=l.flatMap (pN T)
theorem AL T a:pN T a= .aH [pT T a]::fG T (af (ag a 3)):=by
 rw[pN]
 simp_all[fG]
theorem vH T l i(h:i<l.length):fG T (l.drop i)=pN T (nth l i)++fG T (l.drop (i+1)):=by
 rw[aq7 h,aM l i h];rfl
def tG T(x:AV):=∃y,x= .aH [pT T y]
theorem na T: ∀n a,SizeOf.sizeOf a<n->∀x,x∈pN T a->tG T x
 |0,_,h=>by omega
 | n+1,a,h=>by
  intro x b;rw[AL,ar4] at b;rcases b with rfl|b
  ·exact⟨a,rfl⟩
  ·unfold fG at b
   rw[List.mem_flatMap] at b;obtain⟨y,d,c⟩:=b;exact na T n y (by have:=rT d;omega) x c
theorem CP T l: ∀x,x∈fG T l->tG T x:=by
 intro x a;unfold fG at a;rw[List.mem_flatMap] at a;obtain⟨y,_,b⟩:=a;exact na T _ y (Nat.lt_succ_self _) x b
def yV:AV->List ByteArray
 | .aH [t]=>bif decide (toInt (ag t 0)=1) then[toStr (ag t 1)] else[]
 |_=>[]
theorem xB T: ∀n a,SizeOf.sizeOf a<n->(pN T a).flatMap yV=(cI a).vars
 |0,_,h=>by omega
 | n+1,a,h=>by
  rw[AL,de,Tm.vars,List.flatMap_cons];congr 1
  have: ∀m:List AV,(∀x,x∈m->SizeOf.sizeOf x<SizeOf.sizeOf a)->(fG T m).flatMap yV=ax (aa m):=by
   intro m;induction m with
   |nil=>intro _;rfl
   |cons x m d=>
    intro c;have e:=xB T n x (by have:=c x (by simp);omega)
    grind [pN,fG,yV,cI,ax,aa]
  exact this _ fun x b=>rT b
theorem ua T: ∀l,(fG T l).flatMap yV=ax (aa l)
 |[]=>rfl
 |x::l=>by
  show(pN T x++fG T l).flatMap _=(cI x).vars++ax (aa l)
  rw[List.flatMap_append,xB T _ x (Nat.lt_succ_self _),ua T l]
def bo T(c b:List _):=c++b.flatMap fun a=>[pT T (ag a 2),pT T (ag a 3)]++af (ag (ag a 1) 1)
theorem qY T a:cI (pT T a)=cI a:=by rw[de,de];rfl
theorem sW: ∀l m,ax (l++m)=ax l++ax m
 |[],_=>rfl
 |t::l,m=>by simp[ax,sW l m]
theorem iJ T c d b:ax (aa (bo T d b))=fx ⟨⟨c,aa d⟩,dx b⟩:=by
 unfold bo fx aa;rw[List.map_append,sW];congr 1
 induction b with
 |nil=>rfl
 |cons a b e=>
  simp only[List.flatMap_cons,List.map_append,sW];congr 1
  simp[ep,da,MA,aa,List.map_nil,qY]
theorem gF: ∀l i x,(bH l i x).length=l.length
 |[],_,_=>rfl
 |_::_,0,_=>rfl
 |_::l,i+1,x=>by simp[bH,gF l i x]
theorem tE: ∀l i x,i<l.length->(bH l i x).take (i+1)=l.take i++[x]
 |[],_,_,h=>by grind
 |_::_,0,_,_=>rfl
 |a::l,i+1,x,h=>by
  have:=tE l i x (by grind)
  grind [bH]
theorem tF: ∀l i j x,i<j->(bH l i x).drop j=l.drop j
 |[],_,_,_,_=>rfl
 |_::_,0,j+1,_,_=>rfl
 |a::l,i+1,j+1,x,h=>by
  have:=tF l i j x (by omega)
  grind [bH]
theorem wu l i h:nth (strs l) i= .lit (.string l[i]):=by
 grind [aM,strs]
theorem jJ{R j a l}(h:R.drop j=a::l):j<R.length/\nth R j=a/\R.drop (j+1)=l:=by
 grind [List.drop_eq_nil_of_le,List.drop_eq_getElem_cons,aM]
def xu(a:ByteArray->Bool)(b:List _)(j:Int):=0<=j/\∃h,(∀s,s∈b.take j.toNat->a s=true)/\a b[j.toNat]=false
theorem sa{a b j}(h:xu a b j):b.filter a=b.take j.toNat++(b.drop (j.toNat+1)).filter a:=by
 obtain⟨_,c,e,d⟩:=h
 conv=>lhs;rw[←List.take_append_drop j.toNat b]
 rw[List.filter_append,aq7 c,List.filter_cons]
 simp_all
theorem oU: ∀R lo n z,(db R lo n z).take lo=R.take lo
 |[],_,_,_=>rfl
 |_::_,0,_,_=>by rfl
 |a::R,lo+1,n,z=>by simp[db,oU R _ n z]
def fP(s:ByteArray):List AV->Int->Int
 |[],_=> -1
 |a::l,i=>bif oQ s (toStr a) then i else fP s l (i+1)
theorem zu s: ∀l i,0<=i->decide (fP s (strs l) i>=0)=l.contains s
 |[],i,_=>rfl
 |a::l,i,h=>by
  have b:=zu s l (i+1) (by omega);show decide ((bif oQ s a then i else fP s (strs l) _)>=0)=_
  grind [VI]
mutual
def Tm.size:Tm->Int->Int
 | .mk _ s _ l,left=>bif decide ((1000:Int)<s.size) then -1 else jc l (left - 1)
def jc:List Tm->Int->Int
 |[],left=>left
 |t::l,left=>bif decide (0<=left) then jc l (t.size left) else left
end
def dw(a:At) b:=bif decide ((1000:Int)<a.rel.size) then -1 else jc a.l b
def sizeLt(l:Lt) b:=
 bif decide (0<=dw l.a (b - 1)) then bif decide (0<=l.x.size (dw l.a (b - 1))) then l.y.size (l.x.size (dw l.a (b - 1))) else l.x.size (dw l.a (b - 1)) else dw l.a (b - 1)
def lA:List Lt->Int->Int
 |[],a=>a
 |l::b,a=>bif decide (0<=a) then lA b (sizeLt l a) else a
def nE(r:Rl) a:=lA r.body (dw r.head (a - 1))
def nD:List Rl->Int->Int
 |[],a=>a
 |r::l,a=>bif decide (0<=a) then nD l (nE r a) else a
mutual
theorem Tm.size_le: ∀(t:Tm) (left:Int),0<=left-> -1<=t.size left/\t.size left<left\/t.size left= -1
 | .mk _ s _ l,left,h=>by
  unfold Tm.size;cases decide ((1000:Int)<s.size) with
  |true=>exact .inr rfl
  | false=>
   rw[aq1];by_cases h1:0<=left - 1
   ·have:=oh l (left - 1) (by omega)
    omega
   ·have:=oh l (left - 1) (by omega)
    omega
theorem oh: ∀(l:List Tm) (left:Int), -1<=left-> -1<=jc l left/\jc l left<=left
 |[],left,h=>by unfold jc;omega
 | t::l,left,h=>by
  unfold jc;by_cases h1:0<=left
  ·rw[aq2 h1,aq3]
   have h2:=Tm.size_le t left h1;have h3:=oh l (t.size left) (by omega);omega
  ·rw[aq0 h1,aq1];omega
end
theorem oX a b(h: -1<=b): -1<=dw a b/\(dw a b<=b\/dw a b= -1):=by
 unfold dw;cases decide ((1000:Int)<a.rel.size)<;>simp_all[oh]
theorem tK l b(h:0<=b): -1<=sizeLt l b/\sizeLt l b<b:=by
 unfold sizeLt;have e:=oX l.a (b - 1) (by omega);by_cases c:0<=dw l.a (b - 1)
 ·rw[aq2 c,aq3]
  have f:=Tm.size_le l.x _ c;by_cases d:0<=l.x.size (dw l.a (b - 1))
  ·rw[aq2 d,aq3]
   have g:=Tm.size_le l.y _ d;omega
  grind
 grind
theorem CQ: ∀b a, -1<=a-> -1<=lA b a/\lA b a<=a
 |[],a,h=>by grind [lA]
 | l::b,a,h=>by
  unfold lA;by_cases c:0<=a
  ·rw[aq2 c,aq3]
   have e:=tK l _ c;have d:=CQ b (sizeLt l a) (by omega);omega
  grind
theorem x2 r a(h:0<=a): -1<=nE r a/\nE r a<a:=by
 unfold nE;have c:=oX r.head (a - 1) (by omega);have b:=CQ r.body (dw r.head (a - 1)) (by omega);omega
theorem Cf: ∀l a, -1<=a-> -1<=nD l a/\nD l a<=a
 |[],a,h=>by grind [nD]
 | r::b,a,h=>by
  unfold nD;by_cases c:0<=a
  ·rw[aq2 c,aq3]
   have e:=x2 r _ c;have d:=Cf b (nE r a) (by omega);omega
  grind
mutual
theorem Tm.vr: ∀(t:Tm) (left:Int),0<=t.size left->t.mL+t.size left<=left
 | .mk _ s _ l,left,h=>by
  unfold Tm.size at h⊢;cases e:decide ((1000:Int)<s.size) with
  |true=>rw[e] at h;simp at h
  |false=>
   rw[e,aq1] at h;rw[aq1,Tm.mL];have:=sE l (left - 1) h
   omega
theorem sE: ∀(l:List Tm) (left:Int),0<=jc l left->bk l+jc l left<=left
 |[],left,h=>by unfold jc bk;omega
 | t::l,left,h=>by
  unfold jc at h⊢;by_cases h1:0<=left
  ·rw[aq2 h1,aq3] at h⊢
   have h3:=sE l (t.size left) h;have h4:0<=t.size left:=by
    have h2:=Tm.size_le t left h1;have:=oh l (t.size left) (by omega)
    omega
   have h2:=Tm.vr t left h4;unfold bk;omega
  ·rw[aq0 h1,aq1] at h;omega
end
theorem yZ a b(h:0<=dw a b):bk a.l+dw a b<=b:=by
 unfold dw at h⊢;cases e:decide ((1000:Int)<a.rel.size)<;>simp_all[sE]
theorem Ga l b(g:0<=b)(h:0<=sizeLt l b):1+jR l+sizeLt l b<=b:=by
 unfold sizeLt at h⊢;by_cases c:0<=dw l.a (b - 1)
 ·rw[aq2 c,aq3] at h⊢
  have f:=yZ l.a (b - 1) c;by_cases d:0<=l.x.size (dw l.a (b - 1))
  ·rw[aq2 d,aq3] at h⊢
   have i:=Tm.vr l.x _ d;have e:=Tm.vr l.y _ h
   grind [jR,bk]
  grind
 grind
theorem y1: ∀b a, -1<=a->0<=lA b a->b.length+(b.map jR).sum+lA b a<=a
 |[],a,_,h=>by unfold lA;simp
 | l::b,a,d,h=>by
  unfold lA at h⊢;by_cases c:0<=a
  ·rw[aq2 c,aq3] at h⊢
   have f:=tK l a c;have g:=y1 b _ (by omega) h;have e:=Ga l a c (by omega)
   grind
  grind
def yF(r:Rl):=bk r.head.l+(r.body.map jR).sum
theorem JI r a(c:0<=a)(h:0<=nE r a):yF r+r.body.length+1+nE r a<=a:=by
 unfold nE at h⊢;have d:=oX r.head (a - 1) (by omega);have e:=y1 _ _ (by omega) h;have b:=yZ r.head (a - 1) (by omega)
 grind [yF]
theorem zN: ∀l a, -1<=a->0<=nD l a->∀r,r∈l->(yF r+r.body.length:Nat)<=a
 |[],_,_,_,r,b=>by simp at b
 | d::l,a,f,h,r,b=>by
  unfold nD at h;by_cases c:0<=a
  ·rw[aq2 c,aq3] at h
   have g:=x2 d a c;have e:=Cf l (nE d a) (by omega);rcases List.mem_cons.1 b with rfl|b
   ·have:=JI r a c (by omega)
    omega
   ·have:=zN l _ (by omega) h r b
    omega
  grind
theorem FF T d f c:bk (aa (bo T f c))=yF ⟨⟨d,aa f⟩,dx c⟩:=by
 have b: ∀l m,bk (l++m)=bk l+bk m:=by
  intro l;induction l with
  |nil=>simp[bk]
  |cons t l e=>simp only[List.cons_append,bk,e];omega
 unfold bo yF aa;rw[List.map_append,b];congr 1
 induction c with
 |nil=>rfl
 |cons a c e=>
  simp only[List.flatMap_cons,List.map_append,b,dx,ar3];congr 1
  simp only[jR,da,MA,aa,List.map_nil,qY]
def zt(l:List _):=l.any fun a=>decide ((1000:Int)<(toStr a).size)
def Ka a:=decide ((1000:Int)<(toStr (ag a 0)).size)||zt (af (ag a 1))
def mZ(ds a:List _):=!ds.any Ka&&(decide (0<=nD (a.map wh) 2000)&&(decide (ds.length<=100)&&decide (a.length<=300)))
def sx:ByteArray:=ByteArray.mk #[120]
def sy:ByteArray:=ByteArray.mk #[121]
def s0:ByteArray:=ByteArray.mk #[]
def ti(n:Int):Tm:= .mk 2 s0 n []
end Go.Rl
namespace Go.Proofs.YtioeffnadipbaaaGreatDoor
open Go Go.Dn Go.Rl Go.Proofs
attribute [local irreducible] a0 vc
set_option maxRecDepth 20000
def XA:=[
 (3,[(17,[(1,none),(2,none),(5,none),(6,none),(8,none),(10,none),(11,none),(12,none)]),(18004,[(1,none),(2,none),(5,none),(6,none),(8,none)]),(18001,[(4,none)]),(8,[(1,none),(2,none),(5,none),(6,none),(8,none)]),(9002,[(1,none),(2,none),(5,none),(6,none)]),(9001,[(4,none)])]),
 (6,[(10,[(2,none),(7,none),(8,none),(10,none),(11,none),(12,none),(13,none)]),(11002,[(2,none),(7,none),(8,none),(10,none),(11,none),(12,none)])]),
 (7,[(13,[(7,none),(9,none),(11,none),(13,none)]),(14002,[(7,none)]),(14001,[(6,none)])]),
 (8,[(17,[(2,none),(5,none),(6,none),(13,none)]),(18004,[(5,none)]),(18001,[(4,none)]),(11,[(1,none),(2,none),(5,none),(6,none),(10,none)]),(12002,[(2,none),(5,none),(6,none)]),(12001,[(4,none)])]),
 (10,[(6,[(1,none),(2,none),(3,none),(7,none),(8,none),(9,none)]),(7002,[(1,none),(2,none),(3,none),(7,none),(8,none)])]),
 (12,[(22,[(1,none),(8,none),(9,none),(10,none)]),(23008,[(1,none),(8,none),(9,none)]),(23001,[(4,none)]),(16,[(1,none),(8,none),(9,none)]),(17006,[]),(17001,[(4,none)]),(8,[(1,none),(2,none),(5,none),(6,none),(7,none)]),(9004,[(1,none),(2,none),(5,none),(6,none)]),(4,[(1,none),(2,none),(5,none)]),(5002,[(1,none)]),(5001,[(4,none)])]),
 (16,[(9,[(0,none),(1,none),(5,none),(6,none)]),(10004,[(0,none),(1,none),(5,none)]),(10001,[(4,none)]),(4,[(0,none),(1,none),(5,none)]),(5002,[]),(5001,[(4,none)])]),
 (18,[(15,[(7,none),(10,none),(11,none),(13,none),(49,none),(50,none),(51,none)]),(16004,[(7,none),(10,none),(11,none),(13,none)]),(11,[(7,none),(10,some 35),(11,none),(12,none)]),(12002,[(10,none)])]),
 (19,[(17,[(2,none),(3,none),(11,none),(15,none),(50,none),(51,none),(52,none)]),(18007,[(2,none),(3,none),(11,none),(50,none),(51,none),(52,none)]),(15,[(2,none),(3,none),(11,none),(50,none),(51,none),(52,none)]),(16005,[(2,none),(11,none)]),(10,[(2,none),(3,none),(8,none),(11,some 51),(38,none),(39,none),(40,none)]),(11003,[(2,none),(3,none),(8,none),(11,none)])]),
 (20,[(4,[(0,none),(1,none),(5,none)]),(5002,[]),(5001,[(4,none)])]),
 (21,[(5,[(1,none),(3,none),(4,none)]),(6004,[(1,none),(3,none)]),(6001,[(2,none)]),(2,[(1,none),(3,none)]),(3002,[]),(3001,[(2,none)])]),
 (23,[(4,[(2,none),(18,none),(19,none),(20,none)]),(5002,[]),(5001,[(4,none)])]),
 (25,[(2,[(0,none),(1,none),(6,none)]),(3002,[]),(3001,[(4,none),(5,none)])]),
 (26,[(10,[(1,none),(2,none),(6,none),(7,none)]),(11004,[(1,none),(2,none),(6,none)]),(11001,[(4,none)]),(5,[(1,none),(2,none),(6,none)]),(6002,[]),(6001,[(4,none)])]),
 (29,[(8,[(1,none),(3,none),(5,none)]),(9004,[(1,none),(3,none)]),(3,[(1,none),(3,none),(4,none)]),(4002,[(1,none),(3,none)]),(4001,[(2,none)])]),
 (30,[(2,[(0,none),(3,none)]),(3002,[]),(3001,[(2,none)])]),
 (31,[(5,[(20,none),(21,none),(22,none)]),(6002,[]),(6001,[(2,none),(3,none)])]),
 (32,[(5,[(2,none),(3,none),(4,none),(7,none),(35,none),(36,none),(37,none)]),(6002,[(4,none),(7,none)])]),
 (35,[(4,[(2,none),(3,none),(6,some 72),(26,none),(27,none),(28,none)]),(5002,[(3,none),(6,none)])]),
 (37,[(2,[(0,none),(3,none)]),(3002,[]),(3001,[(2,none)])]),
 (42,[(8,[(3,none),(45,none),(46,none)]),(9004,[(3,none)])]),
 (43,[(2,[(0,none),(3,none),(11,none),(12,none),(13,none)]),(3002,[]),(3001,[(4,none),(5,none)])]),
 (44,[(6,[(0,none),(1,none),(5,none),(11,none),(12,none),(25,none)]),(7004,[(5,none)]),(7003,[(0,none),(1,none),(11,none),(12,none)]),(2,[(0,none),(1,none),(11,none),(12,none)]),(3002,[]),(3001,[(4,none)])]),
 (45,[(3,[(0,none),(1,none),(5,some 3),(11,none),(12,none)]),(4002,[(5,none)])]),
 (46,[(3,[(1,none),(2,none),(3,none),(4,none),(9,none),(16,none),(17,none),(18,none)]),(4002,[(9,none)]),(4001,[(8,none)])]),
 (47,[(3,[(3,none),(6,none),(7,none),(8,none)]),(4002,[(3,none)])]),
 (49,[(7,[(1,none),(2,none),(9,none),(10,none),(11,none),(21,none),(22,none),(23,none)]),(8004,[(1,none),(2,none),(9,none),(10,none),(11,none)]),(8001,[(4,none)]),(2,[(1,none),(2,none),(9,none),(10,none),(11,none)]),(3002,[(1,none)]),(3001,[(4,none)])]),
 (51,[(2,[(0,none),(3,none)]),(3002,[]),(3001,[(2,none)])]),
 (53,[(3,[(0,none),(1,none),(2,none),(8,none),(9,none),(10,none)]),(4002,[(0,none),(1,none),(2,none),(8,none),(9,none)])]),
 (55,[(3,[(3,some 70),(6,none),(7,none),(8,none)]),(4002,[(3,none)])]),
 (59,[(2,[(0,none),(3,none)]),(3002,[]),(3001,[(2,none)])]),
 (60,[(3,[(1,none),(2,none),(5,none)]),(4002,[(1,none)])]),
 (61,[(11,[(1,none),(38,none),(39,none),(40,none)]),(12004,[]),(12001,[(2,none),(3,none)]),(4,[(1,none),(16,none),(17,none),(18,none)]),(5002,[(1,none)]),(5001,[(2,none),(3,none)])]),
 (64,[(3,[(3,some 38),(6,none),(7,none),(8,none)]),(4002,[(3,none)])]),
 (65,[(8,[(2,none),(8,none),(32,none),(33,none),(34,none)]),(9003,[(2,none),(8,none)])]),
 (69,[(4,[(1,none),(2,none),(15,none),(16,none),(17,none)]),(5002,[]),(5001,[(6,none)])]),
 (71,[(4,[(1,none),(2,none),(15,none),(16,none),(17,none)]),(5002,[]),(5001,[(6,none)])]),
 (80,[(9,[(0,none),(1,none),(5,none),(6,none),(7,none)]),(10004,[(0,none),(5,none)]),(4,[(0,none),(1,none),(5,none)]),(5002,[(0,none)]),(5001,[(4,none)])]),
 (82,[(0,[(0,none),(1,none),(2,none)]),(1002,[]),(1001,[])]),
 (86,[(3,[(0,none),(5,none),(6,some 3)]),(4002,[(5,none)])]),
 (94,[(4,[(1,none),(31,none),(32,none),(33,none)]),(5002,[]),(5001,[(2,none)])]),
 (98,[(4,[(2,none),(3,none),(6,some 72),(26,none),(27,none),(28,none)]),(5002,[(3,none),(6,none)])]),
 (99,[(2,[(0,none),(1,none),(5,none)]),(3002,[(0,none),(1,none)]),(3001,[(4,none)])]),
 (100,[(2,[(0,none),(1,none),(2,none),(11,none),(12,none),(13,none)]),(3002,[(0,none),(1,none)]),(3001,[(6,none)])]),
 (104,[(4,[(1,none),(2,none),(5,none)]),(5002,[(1,none)])]),
 (105,[(5,[(1,none),(2,none),(5,none)]),(6002,[(1,none)])]),
 (106,[(11,[(6,none),(8,some 3),(36,none),(37,none),(38,none)]),(12004,[(8,none)]),(12001,[(4,none),(5,none)]),(4,[(3,none),(6,none)]),(5002,[(3,none),(6,none)]),(5001,[(4,none),(5,none)])]),
 (109,[(2,[(0,none),(1,none),(7,none),(8,none)]),(3002,[]),(3001,[(4,none)])]),
 (112,[(1,[(0,none),(6,none),(7,none),(8,none)]),(2002,[])]),
 (114,[(5,[(0,none),(1,none),(5,none),(6,none)]),(6002,[(0,none),(5,none)])]),
 (119,[(2,[(0,none),(1,none),(7,none),(8,none)]),(3002,[]),(3001,[(4,none)])]),
 (120,[(4,[(0,none),(1,none),(12,none),(13,none)]),(5002,[]),(5001,[(4,none)])]),
 (121,[(4,[(0,none),(1,none),(12,none),(13,none)]),(5002,[]),(5001,[(4,none)])]),
 (122,[(17,[(0,none),(3,none),(5,none),(10,none),(11,none),(44,none),(45,none),(46,none),(72,none),(73,none),(74,none)]),(18008,[(0,none),(3,none),(5,none),(11,none),(44,none),(45,none),(46,none)]),(18005,[(0,none),(3,none),(5,none),(44,none),(45,none),(46,none)]),(12,[(0,none),(3,none),(5,none),(10,none),(11,none),(44,none),(45,none),(46,none),(52,none),(53,none),(54,none)]),(13006,[(0,none),(3,none),(5,none),(10,none),(11,none),(44,none),(45,none),(46,none)]),(8,[(0,none),(3,none),(5,none),(44,none),(45,none),(46,none)]),(9004,[]),(9001,[]),(3,[(0,none),(1,none),(2,none),(3,none),(5,none),(6,some 72),(25,none),(26,none),(27,none)]),(4002,[(0,none),(1,none),(2,none),(3,none),(5,none),(6,none)])]),
 (123,[(7,[(1,none),(2,none),(7,none),(8,none),(10,none),(18,none),(19,none),(20,none),(26,none),(27,none),(28,none)]),(8004,[(1,none),(2,none),(7,none),(8,none),(10,none),(18,none),(19,none),(20,none)]),(8003,[(1,none),(2,none),(7,none),(8,none),(18,none),(19,none),(20,none)]),(4,[(1,none),(2,none),(7,none),(8,some 70),(18,none),(19,none),(20,none)]),(5002,[(8,none)])]),
 (126,[(5,[(0,none),(3,none),(4,none)]),(6002,[(3,none)])]),
 (127,[(5,[(0,none),(3,none),(4,none)]),(6002,[(3,none)])]),
 (128,[(9,[(0,none),(1,none),(2,none),(6,none),(7,none),(8,none)]),(10006,[(0,none),(1,none),(2,none),(6,none),(7,none)]),(7,[(0,none),(1,none),(2,none),(6,none)]),(8004,[]),(2,[(0,none),(1,none),(2,none),(6,none),(7,none),(8,none)]),(3002,[(0,none),(1,none),(2,none),(6,none),(7,none)])]),
 (129,[(5,[(0,none),(1,none),(5,none),(12,none),(13,none),(14,none),(28,none),(29,none),(30,none)]),(6004,[(0,none),(1,none),(12,none),(13,none),(14,none)]),(6001,[]),(1,[(0,none),(1,none),(12,none),(13,none),(14,none)]),(2002,[]),(2001,[])]),
 (131,[(2,[(0,none),(1,none),(7,none),(8,none)]),(3002,[]),(3001,[(4,none)])]),
 (138,[(4,[(18,none)]),(5002,[]),(5001,[(2,none)])]),
 (147,[(13,[(11,none),(45,none),(46,none),(47,none)]),(14005,[(11,none)])]),
 (152,[(3,[(0,none),(5,none),(14,none),(15,none),(16,none)]),(4002,[(5,none)]),(4001,[(4,none)])]),
 (155,[(3,[(3,some 9),(6,none),(7,none),(8,none)]),(4002,[(3,none)])]),
 (156,[(12,[(6,none),(26,none),(27,none),(28,none)]),(13004,[(6,none)]),(3,[(0,none),(3,none),(9,none),(10,none),(11,none)]),(4002,[(0,none),(3,none)])]),
 (158,[(17,[(1,none),(2,none),(43,none),(44,none),(45,none)]),(18005,[]),(18001,[(6,none)]),(1,[(0,none),(1,none),(2,none)]),(2001,[(6,none)])]),
 (159,[(4,[(1,none),(2,none),(5,none),(17,none),(18,none),(19,none)]),(5002,[(1,none),(2,none),(5,none)])]),
 (161,[(2,[(0,none),(1,none),(7,none),(8,none)]),(3002,[]),(3001,[(4,none)])]),
 (166,[(4,[(0,none),(1,none),(2,none),(3,none),(8,none),(9,none)]),(5004,[(0,none),(1,none),(2,none),(3,none),(8,none)]),(1,[(0,none),(1,none),(2,none),(3,none),(8,none)]),(2002,[])]),
 (167,[(33,[(0,none),(1,none),(2,none),(3,none),(4,none),(18,none),(19,none),(20,none),(21,none),(22,none)]),(34010,[(0,none),(1,none),(2,none),(3,none),(4,none),(18,none),(19,none),(20,none)]),(21,[(0,none),(14,none),(17,none)]),(22008,[]),(15,[(0,none),(2,none),(4,none),(14,none),(15,none)]),(16006,[(0,none),(2,none),(14,none)]),(9,[(0,none),(10,none),(13,none)]),(10004,[]),(3,[(0,none),(1,none),(4,none),(10,none),(11,none)]),(4002,[(0,none),(1,none),(10,none)])]),
 (168,[(2,[(0,none),(1,none),(7,none),(8,none)]),(3002,[]),(3001,[(4,none)])]),
 (169,[(3,[(0,none),(1,none),(3,none),(4,none),(13,none),(14,none)]),(4002,[]),(4001,[])]),
 (170,[(3,[(1,none),(2,none),(3,none),(7,none),(11,none),(12,none),(13,none)]),(4002,[(7,none)]),(4001,[(6,none)])]),
 (171,[(7,[(0,none),(57,none),(58,none),(59,none)]),(8004,[]),(8001,[]),(2,[(0,none),(1,none),(25,none),(26,none),(27,none)]),(3002,[(0,none),(1,none)]),(3001,[])]),
 (172,[(4,[(24,none),(25,none),(26,none)]),(5002,[]),(5001,[(2,none)])]),
 (176,[(5,[(0,none),(2,none),(3,none),(6,none),(7,none),(10,none),(11,none),(12,none),(18,none),(19,none),(20,none)]),(6004,[(0,none),(2,none),(3,none),(7,none),(10,none),(11,none),(12,none)]),(6003,[(0,none),(2,none),(3,none),(10,none),(11,none),(12,none)]),(1,[(0,none),(2,none),(3,none),(10,none),(11,none),(12,none)]),(2002,[]),(2001,[])]),
 (178,[(2,[(0,none),(1,none),(5,none)]),(3002,[(0,none),(1,none)]),(3001,[(4,none)])]),
 (179,[(1,[(0,none),(2,none),(3,none)]),(2002,[])]),
 (180,[(7,[(0,none),(5,none),(40,none),(41,none),(42,none)]),(8003,[]),(8001,[(4,none)])]),
 (185,[(8,[(2,none),(32,none),(33,none),(34,none)]),(9004,[]),(9001,[]),(3,[(2,none),(3,some 38),(14,none),(15,none),(16,none)]),(4002,[(2,none),(3,none)])]),
 (188,[(1,[(0,none),(6,none),(7,none),(8,none)]),(2002,[]),(2001,[])]),
 (189,[(2,[(0,none),(1,none),(7,none),(8,none)]),(3002,[]),(3001,[(4,none)])]),
 (190,[(2,[(0,none),(2,none),(4,none),(10,none),(11,none)]),(3002,[(0,none),(2,none),(4,none),(10,none)])]),
 (192,[(10,[(1,none),(49,none),(50,none),(51,none)]),(11003,[]),(11001,[(4,none)])]),
 (193,[(2,[(5,none),(6,none),(7,none)]),(3002,[]),(3001,[(2,none)])]),
 (196,[(2,[(0,none),(2,none),(4,none),(12,none),(13,none),(14,none)]),(3002,[(0,none),(2,none),(4,none)]),(3001,[(6,none)])]),
 (198,[(3,[(2,none),(11,none),(12,none),(13,none)]),(4002,[]),(4001,[])]),
 (199,[(1,[(0,none),(1,none),(2,none),(3,none),(10,none)]),(2002,[])]),
 (200,[(3,[(3,some 9),(7,none),(8,none),(9,none)]),(4002,[(3,none)])])
 ]
def lk2(k:Nat):List (Nat×List (Nat×Option Nat))->List (Nat×Option Nat)
 |[]=>[]
 |(j,l)::r=>bif Nat.beq j k then l else lk2 k r
def lk1(f k:Nat):List (Nat×List (Nat×List (Nat×Option Nat)))->List (Nat×Option Nat)
 |[]=>[]
 |(g,l)::r=>bif Nat.beq g f then lk2 k l else lk1 f k r
def live(f k:Nat):List (Nat×Option TypeId):=lk1 f k XA
structure Kp where
 tree:Addr
 stuck:Addr
 T1:TypeId
 T2:TypeId
 z1:Nat×Nat
 z2:Nat×Nat
 fI:Addr
 arity:Addr
 type:Addr
 T3:TypeId
 T4:TypeId
 T5:TypeId
 z3:Nat×Nat
 z4:Nat×Nat
 z5:Nat×Nat
 c3:Array Value
 c4:Array Value
 c5:Array Value
 t3:TypeId
 t4:TypeId
 t5:TypeId
 d1:fI≠arity
 d2:fI≠type
 d3:arity≠type
 n3: ∀g,g∈[1,0,3,4,2]->fI.block≠g
 n4: ∀g,g∈[1,0,3,4,2]->arity.block≠g
 n5: ∀g,g∈[1,0,3,4,2]->type.block≠g
def ae8(κ:Kp):Value:= .iface 273 (.pointer (some κ.tree))
def mC(κ:Kp):Value:= .iface 273 (.pointer (some κ.stuck))
def zK(κ:Kp)(b:Nat):Option Go.Obj:=
 bif Nat.beq b 1 then some (.cells #[.iface 273 (.pointer (some κ.tree))] κ.T1 κ.z1)
 else bif Nat.beq b 0 then some (.cells #[.iface 273 (.pointer (some κ.stuck))] κ.T2 κ.z2)
 else bif Nat.beq b 3 then some (.cells #[.iface 273 (.pointer (some κ.fI))] κ.T3 κ.z3)
 else bif Nat.beq b 4 then some (.cells #[.iface 273 (.pointer (some κ.arity))] κ.T4 κ.z4)
 else bif Nat.beq b 2 then some (.cells #[.iface 273 (.pointer (some κ.type))] κ.T5 κ.z5)
 else bif Nat.beq b κ.fI.block then some (.cells κ.c3 κ.t3 (0,0))
 else bif Nat.beq b κ.arity.block then some (.cells κ.c4 κ.t4 (0,0))
 else bif Nat.beq b κ.type.block then some (.cells κ.c5 κ.t5 (0,0))
 else none
def aB(κ:Kp)(a:Bool):Value:=bif a then .nilIface else .iface 273 (.pointer (some κ.tree))
theorem nj κ b:aD (aB κ b)=true:=by cases b<;>rfl
theorem qG κ b:bO (aB κ b)=b:=by cases b<;>rfl
theorem oC κ b:bg (aB κ b)=true:=by cases b<;>rfl
noncomputable abbrev Pr(κ:Kp):Pg:={toProgram:=Tryz.prog,kept:=zK κ}
theorem zF:qE Tryz.prog:=RS (by rfl)
def am3:=[139,182,161,183,187,162,186,135,184,116,92,109,93,67,119,95,110,133,168,134,84,132,111,163,118,999999,999999]
def ao4:=[114,170,999999,999999,999999,999999,999999]
def UW:=[174,138,201,194,195,173,192,172,175,193,96,164,189,137,999999,999999,999999,29,105,104,60,59,999999,999999,999999,999999,999999,999999,999999,999999,999999,999999,999999,999999,999999,999999,999999,999999,999999,999999,94,48,999999,999999,999999,999999,999999,999999,999999,153,130,90,88,85,131,999999,999999,999999,999999,999999,999999]
def Wn:=[155,200,160,115,106,999999]
def YH:=[86]
noncomputable def E0 κ:=((Env.none (Pr κ) live (fun f=>iD f am3) (fun f=>iD f ao4) fun f=>iD f UW).jF fun f=>iD f Wn).iU fun f=>iD f YH
theorem e0 κ:aE (E0 κ):=((aE.none zF).jF _).iU _
theorem m0 κ:aj (E0 κ):=(aj.none.jF _).iU _
theorem y48 κ op K:(a0 (E0 κ) 12 174 [.int op] [] K)=(
 aq (op==(5:Int)) (K (AV.bool true) []) (aq (op==(6:Int)) (K (AV.bool true) []) (K (AV.bool (op==(7:Int))) []))):=by kernel_rfl
def g48:List AV->Option (Bool×AV)
 |[.lit (.int .i64 a)]=>some (true, .bool (mn a))
 |_=>none
theorem p48 κ:cd (E0 κ) 12 174 g48:=by
 intro a x h;unfold g48 at h;split at h
 ·simp   at h
  subst h;refine⟨_,rfl,rfl,?_⟩
  grind [y48,mn,ae]
 grind
noncomputable def Su κ:=(E0 κ).aK 174 g48
theorem e48 κ:aE (Su κ):=(e0 _).aK (m0 _) (p48 _)
theorem m48 κ:aj (Su κ):=(m0 _).aK
theorem x57 κ s p I n K:(vc (Su κ) 12 138 none 0 (ad (Pr κ).toProgram 138 4) (sp 55 [(18, .ptr 0 0 [] 0)] [.dp s p]) (bj (Su κ) 138 4 0 I n K))=(
 letI b:=∃(e0:Nat),e0<n/\I e0 (sp 55 [(18,AV.ptr 0 0 [] 0)] [Obj.dp s (p+Prod.snd (Utf8.decode s p))])
 letI a:=Prod.fst (Utf8.decode s p)
 letI c:=K Exit.ret (sp 55 [(2,AV.bool false)] [])
 letI d:=aq (!(↑a:Int)==(95:Int)) (aq ((↑p:Int)==(0:Int)) c (aq (decide ((↑a:Int)<(48:Int))) c (aq (decide ((↑a:Int)>(57:Int)))
  c b))) b
 letI e:=aq (decide ((↑a:Int)>=(65:Int))) (aq (decide ((↑a:Int)<=(90:Int))) b d) d
 aq (Nat.blt p (ByteArray.size s)) (aq (decide ((↑a:Int)>=(97:Int))) (aq (decide ((↑a:Int)<=(122:Int))) b e) e) (K (Exit.exit 0) (sp 55 [] []))):=by kernel_rfl
abbrev UY(a:ByteArray×Nat):=sp 55 [(18, .ptr 0 0 [] 0)] [.dp a.1 a.2]
noncomputable def Ei(a:ByteArray×Nat):Out (Exit×S):=
 .aq (nameAt a.1 a.2) (.one (.exit 0,sp 55 [] [])) (.one (.ret,sp 55 [(2, .bool false)] []))
theorem l57 κ:aU (Su κ) 12 138 4 (aG 0 UY (fun _=>True) Ei):=by
 refine aC (fun a=>a.1.size - a.2) ?_;rintro⟨s,p⟩ K - f;rw[show(Su κ).P=Pr κ from rfl,x57];simp only[Ei,Out.run,ae] at f;have b: ∀c:Int,c=(Utf8.decode s p).1->p<s.size->(letter c||(!(decide ((p:Int)=0)||decide (c<48)||decide ((57:Int)<c))))=true->
   ∃m,m<s.size - p/\et UY (fun _=>True) Ei (fun a=>a.1.size - a.2) K m (sp 55 [(18, .ptr 0 0 [] 0)] [.dp s (p+(Utf8.decode s p).2)]):=by
  rintro c rfl d g;have:=zo s p
  refine⟨s.size - (p+(Utf8.decode s p).2),by omega,(s,p+(Utf8.decode s p).2),rfl,trivial,rfl,?_⟩;rw[nameAt,dif_pos d,g,ar2] at f;simpa only[Ei,Out.run,ae] using f
 have e: ∀c:Int,c=(Utf8.decode s p).1->p<s.size->(letter c||(!(decide ((p:Int)=0)||decide (c<48)||decide ((57:Int)<c))))=false->K Exit.ret (sp 55 [(2, .bool false)] []):=by
  rintro c rfl d g;rw[nameAt,dif_pos d,g,Bool.false_and] at f;exact f.2 rfl
 have b:=b _ rfl;have e:=e _ rfl;generalize ((Utf8.decode s p).1:Int)=c at*
 simp only[ae,Nat.blt_eq,ap6,ap8,beq_iff_eq,beq_eq_false_iff_ne,Bool.not_eq_true',aq8,bne_iff_ne];refine⟨fun d=>?_,fun d=>f.1 ?_⟩
 ·have b:=b d
  have e:=e d;simp only[letter,aq9,ap7,Bool.not_eq_true',Bool.or_eq_false_iff,Bool.and_eq_false_iff,aq8,ap6,ap8] at b e
  simp_all
 ·have d: ¬ p<s.size:=fun h=>by rw[show Nat.blt p s.size=true from by rw[Nat.blt_eq];exact h] at d;cases d
  rw[nameAt,dif_neg d]
noncomputable def LG κ:=(Su κ).an 138 4 (aG 0 UY (fun _=>True) Ei)
theorem ak5 κ:aE (LG κ):=(e48 _).an (m48 _) (l57 _)
theorem YQ κ:aj (LG κ):=(m48 _).an aI
theorem y57 κ s K:(a0 (LG κ) 12 138 [.lit (.string s)] [] K)=(
 letI a:=K (AV.bool false) []
 letI b:=Pg.toProgram (Env.P (Su κ))
 aq (ByteArray.toList s==ByteArray.toList {data:= #[]}) a (aq (ByteArray.toList s==ByteArray.toList {data:= #[OfNat.ofNat 95]}) a (aq (decide ((↑(ByteArray.size s):Int)>(40:Int))) a (ad b 138 4=ad b 138 4/\∃(e0:ByteArray×Nat),sp 55 [(18,AV.ptr 0 0 [] 0)] [Obj.dp s 0]=sp 55 [(18,AV.ptr 0 0 [] 0)] [Obj.dp e0.1 e0.2]/\True/\aq (nameAt e0.1 e0.2) (K (AV.bool true) []) a)))):=by kernel_rfl
def g57:List AV->Option (Bool×AV)
 |[.lit (.string s)]=>some (true, .bool (isName s))
 |_=>none
theorem p57 κ:cd (LG κ) 12 138 g57:=by
 intro c x h;unfold g57 at h;split at h
 ·rename_i s
  simp only[ap9,aq5,true_and] at h;subst h;refine⟨_,rfl,rfl,?_⟩;rw[y57];unfold isName oQ;simp only[ae,ap6,ap8];refine⟨fun a=>by rw[a];rfl,fun a=>⟨fun b=>by rw[a,b];rfl,fun b=>⟨fun d=>?_,fun d=>⟨trivial,⟨s,0⟩,rfl,trivial,fun e=>?_,fun e=>?_⟩⟩⟩⟩
  ·rw[a,b,aq2 (show(40:Int)<s.size from d)];rfl
  ·simp_all
  grind
 ·cases h
noncomputable def X4 κ:=(LG κ).aK 138 g57
theorem e57 κ:aE (X4 κ):=(ak5 _).aK (YQ _) (p57 _)
theorem m57 κ:aj (X4 κ):=(YQ _).aK
theorem y64 κ op s n l K:(a0 (X4 κ) 12 201 [.agg [.int op, .lit (.string s), .int n, .ah 38 l]] [] K)=(
 letI a:=K (AV.bool (n==(0:Int))) []
 letI b:=K (AV.bool false) []
 letI c:=ByteArray.toList s==ByteArray.toList {data:= #[]}
 aq (op==(1:Int)) (aq (isName s) a b) (aq (op==(2:Int)) (K (AV.bool c) []) (aq (op==(3:Int)) a (aq (op==(4:Int)) (aq c a b) (aq (op==(0:Int)) (aq (ByteArray.toList s==ByteArray.toList {data:= #[]}) a b) b))))):=by kernel_rfl
def g64:List AV->Option (Bool×AV)
 |[.agg [.lit (.int .i64 a), .lit (.string s), .lit (.int .i64 n), .ah 38 _]]=>some (true, .bool (bare a s n))
 |_=>none
theorem p64 κ:cd (X4 κ) 12 201 g64:=by
 intro b x h;unfold g64 at h;split at h
 ·rename_i a s n l
  simp only[ap9,aq5,true_and] at h;subst h;refine⟨_,rfl,rfl,?_⟩;rw[y64];have e: ∀k:Int,(a==k)=decide (a=k):=fun k=>by by_cases h:a=k<;>simp[h]
  simp only[e];cases d:isName s<;>cases f:(ByteArray.toList s==ByteArray.toList (ByteArray.mk #[]))<;>
  by_cases g:a=1<;>by_cases i:a=2<;>by_cases j:a=3<;>by_cases m:a=4<;>by_cases c:a=0<;>
  (simp only[aq,bare,oQ,d,f,g,i,j,m,c];rfl)
 ·cases h
noncomputable def QA κ:=(X4 κ).aK 201 g64
theorem e64 κ:aE (QA κ):=(e57 _).aK (m57 _) (p64 _)
theorem m64 κ:aj (QA κ):=(m57 _).aK
theorem Zz(l:List AV):((l.length:Int)==0)=decide ((l.length:Int)=0):=rfl
theorem y60 κ op s n l K:(a0 (QA κ) 12 194 [.agg [.int op, .lit (.string s), .int n, .ah 38 l]] [] K)=(
 aq (op==(0:Int)) (aq (bare op s n) (K (AV.bool ((↑(l.length):Int)==(0:Int))) []) (K (AV.bool false) [])) (K (AV.bool false) [])):=by kernel_rfl
theorem y61 κ s l K:(a0 (QA κ) 12 195 [.agg [.lit (.string s), .ah 38 l]] [] K)=(
 aq (ByteArray.toList s==ByteArray.toList {data:= #[]}) (K (AV.bool ((↑(l.length):Int)==(0:Int))) []) (K (AV.bool false) [])):=by kernel_rfl
theorem y47 κ b K:(a0 (QA κ) 12 173 [.bool b] [] K)=(
 aq b (K (AV.lit Value.nilIface) []) (K (AV.lit (Value.iface 273 (Value.pointer (some (Kp.tree κ))))) [])):=by kernel_rfl
def g60:List AV->Option (Bool×AV)
 |[.agg [.lit (.int .i64 a), .lit (.string s), .lit (.int .i64 n), .ah 38 l]]=>some (true, .bool (decide (a=0)&&bare a s n&&decide ((l.length:Int)=0)))
 |_=>none
theorem p60 κ:cd (QA κ) 12 194 g60:=by
 intro a x h;unfold g60 at h;split at h
 ·simp only[ap9,aq5,true_and] at h
  subst h;refine⟨_,rfl,rfl,?_⟩
  simp_all[y60,Zz,ae]
 grind
def g61:List AV->Option (Bool×AV)
 |[.agg [.lit (.string s), .ah 38 l]]=>some (true, .bool (oQ s (ByteArray.mk #[])&&decide ((l.length:Int)=0)))
 |_=>none
theorem p61 κ:cd (QA κ) 12 195 g61:=by
 intro a x h;unfold g61 at h;split at h
 ·simp[ap9,aq5,true_and] at h
  subst h;refine⟨_,rfl,rfl,?_⟩
  simp_all[y61,oQ,Zz,ae]
 grind
def g47(κ:Kp):List AV->Option (Bool×AV)
 |[.lit (.bool b)]=>some (true, .lit (aB κ b))
 |_=>none
theorem p47 κ:cd (QA κ) 12 173 (g47 κ):=by
 intro a x h;unfold g47 at h;split at h
 ·rename_i b
  simp   at h;subst h;refine⟨_,rfl,oC _ b,?_⟩;rw[y47];cases b<;>rfl
 grind
noncomputable def E47 κ:=(((QA κ).aK 194 g60).aK 195 g61).aK 173 (g47 κ)
theorem e47 κ:aE (E47 κ):=(((e64 _).eI (mq (e64 κ) (m64 κ) (p60 κ))).eI (mq (e64 _) (m64 _) (p61 κ))).eI (mq (e64 κ) (m64 κ) (p47 κ))
theorem m47 κ:aj (E47 κ):=(m64 _).aK.aK.aK
def W8(κ:Kp):List AV->Option (Bool×AV)
 |[.agg [.lit (.int .i64 a), .lit (.string s), .lit (.int .i64 n), .ah 38 l], .lit (.int .i64 h)]=>some (decide (0<=h)&&decide (h<=1000), .lit (aB κ (ar h.toNat (.mk a s n (aa l)))))
 |_=>none
def Jq:List AV->Nat
 |[_, .lit (.int .i64 h)]=>h.toNat
 |_=>0
noncomputable def ES κ n:=(E47 κ).aK 192 (below (W8 κ) Jq n)
theorem x58 κ r h l i I n K:(vc (ES κ r) 12 192 none 0 (ad (Pr κ).toProgram 192 10) (sp 72 [(1, .int h),(49, .ah 38 l),(50, .int l.length),(51, .int i)] []) (bj (ES κ r) 192 10 0 I n K))=(
 letI a:=IntKind.wrap IntKind.i64
 letI b:=AV.int
 letI c:=nth l i.toNat
 letI f:=K Exit.ret (sp 72 [(4,AV.lit (Value.iface 273 (Value.pointer (some (Kp.tree κ)))))] [])
 letI g:=i<(↑(l.length):Int)
 letI d:=h - (1:Int)
 letI j:=a d
 letI e:=aB κ (ar (Int.toNat j) (Tm.mk (toInt (ag c 0)) (toStr (ag c 1)) (toInt (ag c 2)) (aa (af (ag c 3)))))
 aq (decide g) (aV (decide ((0:Int)<=i)&&decide g) (aq (toInt (ag c 0)==(3:Int)) f (aq (toInt (ag c 0)==(4:Int)) f (aV (decide ((0:Int)<=
 a d)&&decide (a d<=(1000:Int))&&Nat.blt (Jq [AV.agg [b (toInt (ag c 0)),AV.str (toStr (ag c 1)),
 b (toInt (ag c 2)),AV.ah 38 (af (ag c 3))],b j]) r) (aV (aD e) (aq (!bO e) (K Exit.ret (sp 72 [(4,AV.lit e)] [])) (∃(e0:Nat),e0<n/\I
 e0 (sp 72 [(1,b h),(49,AV.ah 38 l),(50,b (↑(l.length):Int)),(51,b (a (i+(1:Int))))] [])))))))) (K (Exit.exit
 1) (sp 72 [] []))):=by kernel_rfl
abbrev ad9(a:Int×List _×Int):=sp 72 [(1, .int a.1),(49, .ah 38 a.2.1),(50, .int a.2.1.length),(51, .int a.2.2)] []
def Mz r(a:Int×List AV×Int):=1<=a.1/\a.1<=1000/\a.1.toNat<=r/\a.2.1.length<=aW/\0<=a.2.2/\a.2.2<=a.2.1.length
noncomputable def IG(κ:Kp)(a:Int×List AV×Int):Out (Exit×S):=
 .aq (lH (a.1 - 1).toNat (aa (a.2.1.drop a.2.2.toNat))) (.one (.exit 1,sp 72 [] [])) (.one (.ret,sp 72 [(4, .lit (aB κ false))] []))
theorem l58 κ r:aU (ES κ r) 12 192 10 (aG 0 ad9 (Mz r) (IG κ)):=by
 refine aC (fun a=>a.2.1.length - a.2.2.toNat) ?_;rintro⟨h,l,i⟩ K ⟨k,m,p,f,q,s⟩ b;simp only at k m p f q s;rw[show(ES κ r).P=Pr κ from rfl,x58];simp only[IG,Out.run,ae] at b;rw[az (n:=h - 1) (by omega) (by omega)];simp only[aW] at f;simp only[nj,qG];simp only[←de];simp only[ae,ai,ap6,ap8,ap7,beq_iff_eq,beq_eq_false_iff_ne,Bool.not_eq_true',aq8,Jq,Nat.blt_eq];refine⟨fun o=>⟨⟨q,o⟩,?_⟩,fun o=>b.1 ?_⟩
 ·have e:=eK l i.toNat (by omega)
  rw[e] at b;have d:(cI (nth l i.toNat)).op=toInt (ag (nth l i.toNat) 0):=by rw[de];rfl
  simp only[lH,List.all_cons,d] at b;refine⟨fun g=>b.2 (by simp[g]),fun g=>⟨fun j=>b.2 (by simp[j]),fun j=>⟨⟨⟨by omega,by omega⟩,by omega⟩,trivial,fun c=>?_,fun c=>?_⟩⟩⟩
  ·rw[c];exact b.2 (by rw[c];simp)
  ·rw[az (n:=i+1) (by omega) (by omega)]
   refine⟨_,?_,(h,l,i+1),rfl,⟨k,m,p,by simpa[aW] using f,by simp only;omega,by simp only;omega⟩,rfl,?_⟩
   ·simp only;omega
   ·rw[c] at b
    simp only[IG,Out.run,ae,lH];rw[show(i+1).toNat=i.toNat+1 by omega];simpa[g,j] using b
 ·rw[aq4 (by omega)];rfl
noncomputable def N7 κ r:=(ES κ r).an 192 10 (aG 0 ad9 (Mz r) (IG κ))
theorem y58 κ r op s n l h K:(a0 (N7 κ r) 12 192 [.agg [.int op, .lit (.string s), .int n, .ah 38 l], .int h] [] K)=(
 letI a:=AV.int
 letI b:=K (AV.lit (Value.iface 273 (Value.pointer (some (Kp.tree κ))))) []
 letI c:=Pg.toProgram (Env.P (ES κ r))
 letI d:=K (AV.lit Value.nilIface) []
 aq (h==(0:Int)) b (aq (op==(0:Int)) b (aq (!mn op) (aq (!bare op s n) b (aq (decide ((↑(l.length):Int)>(0:Int))) b d)) (aq (!ByteArray.toList s==ByteArray.toList {data:= #[]}) b (aq (n != (0:Int)) b (aq ((↑(l.length):Int) != (2:Int)) b (ad c 192 10=ad c 192 10/\∃(e0:Int×List AV×Int),sp 72 [(1,a h),(49,AV.ah 38 l),(50,a (↑(l.length):Int)),(51,a 0)] []=sp 72 [(1,a e0.1),(49,AV.ah 38 e0.2.1),(50,a (↑(e0.2.1.length):Int)),(51,a e0.2.2)] []/\((1:Int)<=e0.1/\e0.1<=(1000:Int)/\e0.1.toNat<=r/\e0.2.1.length<=9223372036854775807/\(0:Int)<=e0.2.2/\e0.2.2<=(↑(e0.2.1.length):Int))/\aq (lH (Int.toNat (e0.1 - (1:Int))) (aa (List.drop (Int.toNat e0.2.2) e0.2.1))) d b))))))):=by kernel_rfl
theorem ah4 κ r(b:gu (Pr κ) 192 (below (W8 κ) Jq r)):aE (N7 κ r)/\aj (N7 κ r)/\(N7 κ r).P=Pr κ:=
 have h:=(e47 _).eI b;have a:=(m47 _).aK
 ⟨h.an a (l58 _ r),a.an aI,rfl⟩
theorem p58 κ r:cd (N7 κ r) 12 192 fun xs=>bif Nat.beq (Jq xs) r then W8 κ xs else none:=by
 intro d x b;cases f:Nat.beq (Jq d) r with
 |false=>simp only[f] at b;cases b
 | true=>
  simp only[f,aq3] at b;unfold W8 at b;split at b
  ·rename_i t s n l h
   simp only[ap9,aq5,ap7,ap6] at b;obtain⟨⟨u,o⟩,rfl⟩:=b;have v:h.toNat=r:=Nat.eq_of_beq_eq_true f;refine⟨_,rfl,oC κ _,?_⟩;rw[y58];have p:AV.lit (.iface 273 (.pointer (some κ.tree)))= .lit (aB κ false):=rfl;have j:AV.lit .nilIface= .lit (aB κ true):=rfl;rw[p,j];by_cases i:h=0
   ·subst i;rfl
   ·obtain⟨m,k⟩: ∃m,h.toNat=m+1:=⟨h.toNat - 1,by omega⟩
    rw[k,su,eD];unfold oQ;generalize (ByteArray.toList s==ByteArray.toList (ByteArray.mk #[]))=z
    simp only[ae,beq_iff_eq,beq_eq_false_iff_ne,Bool.not_eq_true',aq8,ap6,ap8,bne_iff_ne,bne_eq_false_iff_eq];refine⟨fun e=>absurd e i,fun _=>⟨fun e=>by rw[aq2 e];rfl,fun e=>?_⟩⟩;rw[aq0 e,aq1];refine⟨fun g=>?_,fun g=>?_⟩
    ·rw[g,aq1]
     refine⟨fun a=>by rw[a];rfl,fun a=>⟨fun c=>?_,fun c=>?_⟩⟩
     ·rw[aq0 (show ¬ l.length=0 by omega),Bool.and_false]
     ·rw[a,aq2 (show l.length=0 by omega)];rfl
    ·rw[g,aq3]
     refine⟨fun a=>by rw[a];rfl,fun a=>⟨fun c=>by rw[a,aq0 c];rfl,fun c=>⟨fun q=>?_,fun q=>?_⟩⟩⟩
     ·rw[aq0 (show ¬ l.length=2 by omega)];simp
     ·refine⟨trivial,(h,l,0),rfl,⟨by simp only;omega,o,by simp only;omega,by simp only;omega,by simp only;omega,by simp only;omega⟩,?_⟩
      rw[a,aq2 c,aq2 (show l.length=2 by omega)];simp only[show(h - 1).toNat=m by omega,Int.toNat_zero,aq6,ar2];exact⟨fun e=>by rw[e],fun e=>by rw[e]⟩
  ·cases b
theorem q58 κ:gu (Pr κ) 192 (W8 κ):=aE.vZ _ _ _ (ah4 _) (p58 _)
noncomputable def Sm κ:=(E47 κ).aK 192 (W8 κ)
theorem e58 κ:aE (Sm κ):=(e47 _).eI (q58 _)
theorem m58 κ:aj (Sm κ):=(m47 _).aK
theorem x46 κ l i I n K:(vc (Sm κ) 12 172 none 0 (ad (Pr κ).toProgram 172 4) (sp 36 [(24, .ah 38 l),(25, .int l.length),(26, .int i)] []) (bj (Sm κ) 172 4 0 I n K))=(
 letI a:=nth l i.toNat
 letI b:=aB κ (ar 20 (Tm.mk (toInt (ag a 0)) (toStr (ag a 1)) (toInt (ag a 2)) (aa (af (ag a 3)))))
 letI c:=i<(↑(l.length):Int)
 aq (decide c) (aV (decide ((0:Int)<=i)&&decide c) (aV (aD b) (aq (!bO b) (K Exit.ret (sp 36 [(2,AV.lit b)] [])) (∃(e0:Nat),e0<n/\I e0 (sp 36
 [(24,AV.ah 38 l),(25,AV.int (↑(l.length):Int)),(26,AV.int (IntKind.wrap IntKind.i64 (i+(1:Int))))] []))))) (K (Exit.exit 0) (sp 36 [] []))):=by kernel_rfl
abbrev ZE(a:List _×Int):=sp 36 [(24, .ah 38 a.1),(25, .int a.1.length),(26, .int a.2)] []
def Ox(a:List AV×Int):=a.1.length<=aW/\0<=a.2/\a.2<=a.1.length
noncomputable def IA(κ:Kp)(a:List AV×Int):Out (Exit×S):=
 .aq ((aa (a.1.drop a.2.toNat)).all (ar 20)) (.one (.exit 0,sp 36 [] [])) (.one (.ret,sp 36 [(2, .lit (aB κ false))] []))
theorem l46 κ:aU (Sm κ) 12 172 4 (aG 0 ZE Ox (IA κ)):=by
 refine aC (fun a=>a.1.length - a.2.toNat) ?_;rintro⟨l,i⟩ K ⟨d,e,g⟩ b;simp only at d e g;rw[show(Sm κ).P=Pr κ from rfl,x46];simp only[IA,Out.run,ae] at b;simp only[aW] at d;simp only[nj,qG,←de];simp only[ae,ai,ap6,ap8,ap7,beq_iff_eq,beq_eq_false_iff_ne,Bool.not_eq_true',aq8];refine⟨fun f=>⟨⟨e,f⟩,trivial,fun c=>?_,fun c=>?_⟩,fun f=>b.1 ?_⟩
 ·rw[c]
  rw[eK l i.toNat (by omega),List.all_cons,c,Bool.false_and] at b;exact b.2 rfl
 ·rw[az (n:=i+1) (by omega) (by omega)]
  refine⟨_,?_,(l,i+1),rfl,⟨by simpa[aW] using d,by simp only;omega,by simp only;omega⟩,rfl,?_⟩
  ·simp only;omega
  ·rw[eK l i.toNat (by omega),List.all_cons,c,ar2] at b
   grind [IA,Out.run,ae]
 ·rw[aq4 (by omega)];rfl
noncomputable def PH κ:=(Sm κ).an 172 4 (aG 0 ZE Ox (IA κ))
theorem ag5 κ:aE (PH κ):=(e58 _).an (m58 _) (l46 _)
theorem ae0 κ:aj (PH κ):=(m58 _).an aI
theorem y46 κ s l K:(a0 (PH κ) 12 172 [.agg [.lit (.string s), .ah 38 l]] [] K)=(
 letI a:=K (AV.lit (Value.iface 273 (Value.pointer (some (Kp.tree κ))))) []
 letI b:=Pg.toProgram (Env.P (Sm κ))
 aq (!isName s) a (aq ((↑(l.length):Int)==(0:Int)) a (aq (decide ((↑(l.length):Int)>(8:Int))) a (ad b 172 4=ad b 172 4/\∃(e0:List AV×
 Int),sp 36 [(24,AV.ah 38 l),(25,AV.int (↑(l.length):Int)),(26,AV.int 0)] []=sp 36 [(24,AV.ah 38 e0.1),(25,AV.int (↑(e0.1.length):Int)),(26,
 AV.int e0.2)] []/\(e0.1.length<=9223372036854775807/\(0:Int)<=e0.2/\e0.2<=(↑(e0.1.length):Int))/\aq (List.all (aa (List.drop e0.2.toNat e0.1)) (ar
 20)) (K (AV.lit Value.nilIface) []) a)))):=by kernel_rfl
def g46(κ:Kp):List AV->Option (Bool×AV)
 |[.agg [.lit (.string s), .ah 38 l]]=>some (true, .lit (aB κ (bn ⟨s,aa l⟩)))
 |_=>none
theorem p46 κ:cd (PH κ) 12 172 (g46 κ):=by
 intro b x a;unfold g46 at a;split at a
 ·rename_i s l
  simp only[ap9,aq5,true_and] at a;subst a;refine⟨_,rfl,oC κ _,?_⟩;rw[y46];have c:AV.lit (.iface 273 (.pointer (some κ.tree)))= .lit (aB κ false):=rfl;have d:AV.lit .nilIface= .lit (aB κ true):=rfl;rw[c,d];simp only[bn,eD];simp only[ae,beq_iff_eq,beq_eq_false_iff_ne,Bool.not_eq_true',aq8,ap6,ap8];refine⟨fun e=>by rw[e];rfl,fun e=>⟨fun g=>by rw[aq2 (show l.length=0 by omega)];simp,fun g=>⟨fun f=>by rw[aq0 (show ¬ l.length<=8 by omega)];simp,fun f=>⟨trivial,(l,0),rfl,⟨by simp only;omega,by simp only;omega,by simp only;omega⟩,?_⟩⟩⟩⟩
  grind [decide_eq_false,decide_eq_true]
 ·cases a
noncomputable def P1 κ:=(PH κ).aK 172 (g46 κ)
theorem e46 κ:aE (P1 κ):=(ag5 _).aK (ae0 _) (p46 _)
theorem m46 κ:aj (P1 κ):=(ae0 _).aK
noncomputable def Ez κ:=(P1 κ).an 193 2 (la (P1 κ) 12 193 2 5)
theorem an3 κ:aE (Ez κ):=(e46 _).an (m46 _) (sR (m46 _) 5)
theorem Yl κ:aj (Ez κ):=(m46 _).an (lL (m46 _) 5)
theorem am9 κ u1 u2 K:(a0 (Ez κ) 12 193 [.ah 171 [.lit u1, .lit u2]] [] K)=(
 letI a:=Pg.toProgram (Env.P (P1 κ))
 ad a 193 2=ad a 193 2/\aV (aD u1) (aq (!bO u1) (K (AV.lit u1) []) (aV (aD u2) (aq (!bO u2) (K (AV.lit u2) []) (K (AV.lit Value.nilIface) []))))):=by kernel_rfl
theorem ag6 κ u1 u2 u3 K:(a0 (Ez κ) 12 193 [.ah 171 [.lit u1, .lit u2, .lit u3]] [] K)=(
 letI a:=Pg.toProgram (Env.P (P1 κ))
 ad a 193 2=ad a 193 2/\aV (aD u1) (aq (!bO u1) (K (AV.lit u1) []) (aV (aD u2) (aq (!bO u2) (K (AV.lit u2) []) (aV (aD u3) (aq (!bO u3) (K (AV.lit u3) [])
 (K (AV.lit Value.nilIface) []))))))):=by kernel_rfl
theorem ag8 κ u1 u2 u3 u4 K:(a0 (Ez κ) 12 193 [.ah 171 [.lit u1, .lit u2, .lit u3, .lit u4]] [] K)=(
 letI a:=AV.lit
 letI b:=Pg.toProgram (Env.P (P1 κ))
 ad b 193 2=ad b 193 2/\aV (aD u1) (aq (!bO u1) (K (a u1) []) (aV (aD u2) (aq (!bO u2) (K (a u2) []) (aV (aD u3) (aq (!bO u3) (K (a u3) [])
 (aV (aD u4) (aq (!bO u4) (K (a u4) []) (K (a Value.nilIface) []))))))))):=by kernel_rfl
def bD u v:=bif bO u then v else u
theorem Fo κ a b:bD (aB κ a) (aB κ b)=aB κ (a&&b):=by cases a<;>rfl
theorem FX{u}(h:aD u=true)(a:bO u=true):u= .nilIface:=by grind [bO]
def g59:List AV->Option (Bool×AV)
 |[.ah 171 [.lit b, .lit a]]=>some (aD b&&aD a&&(bg b&&bg a), .lit (bD b a))
 |[.ah 171 [.lit b, .lit a, .lit c]]=>some (aD b&&(aD a&&aD c)&&(bg b&&(bg a&&bg c)), .lit (bD b (bD a c)))
 |[.ah 171 [.lit b, .lit a, .lit c, .lit d]]=>some (aD b&&(aD a&&(aD c&&aD d))&&(bg b&&(bg a&&(bg c&&bg d))), .lit (bD b (bD a (bD c d))))
 |_=>none
theorem p59 κ:cd (Ez κ) 12 193 g59:=by
 intro k x a;unfold g59 at a;split at a
 ·rename_i b c
  simp only[ap9,aq5,ap7] at a;obtain⟨⟨⟨f,d⟩,e,m⟩,rfl⟩:=a;refine⟨_,rfl,by unfold bD;cases bO b<;>assumption,?_⟩;rw[am9,f,d];refine⟨rfl,?_⟩;unfold bD;cases i:bO b
  ·rfl
  ·cases h:bO c
   ·rfl
   ·rw[FX d h];rfl
 ·rename_i b c g
  simp only[ap9,aq5,ap7] at a;obtain⟨⟨⟨f,d,e⟩,m,n,q⟩,rfl⟩:=a;refine⟨_,rfl,by unfold bD;cases bO b<;>cases bO c<;>assumption,?_⟩;rw[ag6,f,d,e];refine⟨rfl,?_⟩;unfold bD;cases i:bO b
  ·rfl
  ·cases h:bO c
   ·rfl
   ·cases j:bO g
    ·rfl
    ·rw[FX e j];rfl
 ·rename_i b c g p
  simp only[ap9,aq5,ap7] at a;obtain⟨⟨⟨f,d,e,l⟩,m,n,q,r⟩,rfl⟩:=a;refine⟨_,rfl,by unfold bD;cases bO b<;>cases bO c<;>cases bO g<;>assumption,?_⟩;rw[ag8,f,d,e,l];refine⟨rfl,?_⟩;unfold bD;cases i:bO b
  ·rfl
  ·cases h:bO c
   ·rfl
   ·cases j:bO g
    ·rfl
    ·cases o:bO p
     ·rfl
     ·rw[FX l o];rfl
 ·cases a
noncomputable def XG κ:=(Ez κ).aK 193 g59
theorem e59 κ:aE (XG κ):=(an3 _).aK (Yl _) (p59 _)
theorem m59 κ:aj (XG κ):=(Yl _).aK
theorem y49(κ:Kp)(op:Int) s(l:List AV)(o1:Int) s1(n1:Int)(l1:List AV)(o2:Int) s2(n2:Int)(l2:List AV) K:(a0 (XG κ) 12 175 [.agg [.int op, .agg [.lit (.string s), .ah 38 l], .agg [.int o1, .lit (.string s1), .int n1, .ah 38 l1], .agg [.int o2, .lit (.string s2), .int n2, .ah 38 l2]]] [] K)=(
 letI a:=AV.lit
 letI d:=aB κ (ar 20 (Tm.mk o1 s1 n1 (aa l1)))
 letI q:=aB κ (ar 20 (Tm.mk o2 s2 n2 (aa l2)))
 letI b:=aB κ (bn {rel:=s,l:=aa l})
 letI i:=aB κ (decide (o2=(0:Int))&&bare o2 s2 n2&&decide ((↑(l2.length):Int)=(0:Int)))
 letI y:=Value.iface 273 (Value.pointer (some (Kp.tree κ)))
 letI w:=aB κ (o2==(1:Int))
 letI c:=aB κ (bn {rel:=s,l:=aa l})
 letI g:=K (a (bD b (bD w (bD d q)))) []
 letI e:=aD d&&aD q
 letI f:=bg d&&bg q
 letI k:=K (a (bD b y)) []
 letI x:=aq (decide (o1=(0:Int))&&bare o1 s1 n1&&decide ((↑(l1.length):Int)=(0:Int))) (aV (aD b&&aD i&&(bg b&&bg i)) (K (a (bD b
  i)) [])) (aV (aD b&&true&&(bg b&&true)) k)
 letI r:=aV (aD b&&(true&&e)&&(bg b&&(true&&f))) k
 letI m:=aB κ (o2 != (4:Int))
 letI h:=o1==(2:Int)
 letI n:=K (a y) []
 letI t:=aV (true&&e&&(true&&f)) n
 letI j:=aq (oQ s {data:= #[]}&&decide ((↑(l.length):Int)=(0:Int))) (aq (o1 != (4:Int)) (aV (aD m&&e&&(bg m&&f)) (K (a (bD m (bD d q))) [])) t) t
 letI u:=bg b&&(bg i&&bg d)
 letI o:=aD w&&e
 letI p:=bg w&&f
 letI z:=aD b&&o&&(bg b&&p)
 letI v:=aV z (K (a (bD c (bD w (bD d q)))) [])
 aq (o1==(1:Int)) (aq (op==(1:Int)) x (aq (op==(2:Int)) x (aq (op==(3:Int)) j (aq (op==(4:Int)) j (aq (op==(5:Int)) j (aq (op==(6
 :Int)) j (aq (op==(7:Int)) (aV (aD b&&(aD i&&aD d)&&u) (K (a (bD b (bD i d))) [])) (aq (op==(8:Int)) (aV z g) (aq (op==(9:
 Int)) (aV (aD c&&o&&(bg b&&p)) g) (aq (op==(10:Int)) v n)))))))))) (aq (op==(1:Int)) x (aq (op==(2:Int)) x (aq (op==(3:
 Int)) j (aq (op==(4:Int)) j (aq (op==(5:Int)) j (aq (op==(6:Int)) j (aq (op==(7:Int)) (aq h (aV (aD c&&(aD i&&aD d)&&u) (K
 (a (bD c (bD i d))) [])) (aV (aD b&&(true&&aD d)&&(bg b&&(true&&bg d))) (K (a (bD c y)) []))) (aq (op==(8:Int)) (aq h (aV
 z g) r) (aq (op==(9:Int)) (aq h (aV (aD b&&o&&(bg c&&p)) g) (aV (aD b&&(true&&e)&&(bg c&&(true&&f))) k)) (aq (op==
 (10:Int)) (aq h v r) n))))))))))):=by kernel_rfl
theorem SB κ b x y r:aq b (AV.lit (aB κ x)=AV.lit (aB κ r)) (AV.lit (aB κ y)=AV.lit (aB κ r))↔AV.lit (aB κ (bif b then x else y))=AV.lit (aB κ r):=by
 cases b<;>rfl
theorem SF(a b:Int):(a==b)=decide (a=b):=rfl
theorem HV(a b:Int):(a != b)= !decide (a=b):=rfl
def g49(κ:Kp):List AV->Option (Bool×AV)
 |[.agg [.lit (.int .i64 a), .agg [.lit (.string s), .ah 38 l], .agg [.lit (.int .i64 b), .lit (.string s1), .lit (.int .i64 c), .ah 38 d], .agg [.lit (.int .i64 e), .lit (.string s2), .lit (.int .i64 f), .ah 38 g]]]=>
  some (true, .lit (aB κ (jl ⟨a,⟨s,aa l⟩, .mk b s1 c (aa d), .mk e s2 f (aa g)⟩)))
 |_=>none
theorem p49 κ:cd (XG κ) 12 175 (g49 κ):=by
 intro u x g;unfold g49 at g;split at g
 ·rename_i c s l d s1 o q i s2 t w
  simp only[ap9,aq5,true_and] at g;subst g;refine⟨_,rfl,oC κ _,?_⟩;rw[y49];have y:Value.iface 273 (.pointer (some κ.tree))=aB κ false:=rfl;rw[y];simp only[nj,oC,Fo,Bool.and_true,Bool.and_self,aV];simp only[←Ui,←U7,SF,HV,SB];refine congrArg (fun b=>AV.lit (aB κ b)) ?_;have z:Vv (.mk d s1 o (aa q))=(decide (d=1)||decide (d=2)):=rfl;rw[K5,z];generalize bn ⟨s,aa l⟩=A
  generalize Vg ⟨s,aa l⟩=h
  generalize Ld (.mk d s1 o (aa q))=v
  generalize Ld (.mk i s2 t (aa w))=p
  generalize ar 20 (.mk d s1 o (aa q))=e
  generalize ar 20 (.mk i s2 t (aa w))=f
  generalize decide (d=1)=a
  generalize decide (d=2)=k
  generalize decide (d=4)=j
  generalize decide (i=4)=m
  generalize decide (i=1)=r
  generalize decide (c=1)=B
  generalize decide (c=2)=C
  generalize decide (c=3)=D
  generalize decide (c=4)=E
  generalize decide (c=5)=F
  generalize decide (c=6)=H
  generalize decide (c=7)=I
  generalize decide (c=8)=J
  generalize decide (c=9)=K
  generalize decide (c=10)=n
  cases B
  case true=>cases a<;>cases v<;>cases A<;>cases p<;>rfl
  cases C
  case true=>cases a<;>cases v<;>cases A<;>cases p<;>rfl
  cases D
  case true=>cases a<;>cases h<;>cases j<;>cases m<;>cases e<;>cases f<;>rfl
  cases E
  case true=>cases a<;>cases h<;>cases j<;>cases m<;>cases e<;>cases f<;>rfl
  cases F
  case true=>cases a<;>cases h<;>cases j<;>cases m<;>cases e<;>cases f<;>rfl
  cases H
  case true=>cases a<;>cases h<;>cases j<;>cases m<;>cases e<;>cases f<;>rfl
  cases I
  case true=>cases a<;>cases k<;>cases A<;>cases p<;>cases e<;>rfl
  cases J
  case true=>cases a<;>cases k<;>cases A<;>cases r<;>cases e<;>cases f<;>rfl
  cases K
  case true=>cases a<;>cases k<;>cases A<;>cases r<;>cases e<;>cases f<;>rfl
  cases n
  case true=>cases a<;>cases k<;>cases A<;>cases r<;>cases e<;>cases f<;>rfl
  cases a<;>rfl
 ·cases g
noncomputable def SJ κ:=(XG κ).aK 175 (g49 κ)
theorem e49 κ:aE (SJ κ):=(e59 _).aK (m59 _) (p49 _)
theorem m49 κ:aj (SJ κ):=(m59 _).aK
structure dk where
 xs:List AV
 more:List AV
 rel:ByteArray
 hl:List AV
 bl:List AV
 line:Int
 i:Int
abbrev au(a:dk):AV:= .agg [.agg [.lit (.string a.rel), .ah 38 a.hl], .ah 80 a.bl, .int a.line]
abbrev Ej a:=sp 69 [(0, .cf 0),(1, .ptr 1 0 [] 0),(25, .ah 38 a.hl),(26, .int a.hl.length),(27, .int a.i)] [.ext (some a.xs), .box 48 (au a)]
abbrev LX a:=sp 69 [(0, .cf 0),(57, .ah 80 a.bl),(58, .int a.bl.length),(59, .int a.i)] [.ext (some a.xs), .box 48 (au a)]
def mQ(κ:Kp)(l:List Bool):List AV:=l.map fun b=> .aH [.lit (aB κ b)]
def AB κ(a:dk):=a.hl.length<=aW/\0<=a.i/\a.i<=a.hl.length/\a.xs=mQ κ ((aa (a.hl.drop a.i.toNat)).map (tk a.bl.length))++a.more
def Jh κ(a:dk):=a.bl.length<=aW/\0<=a.i/\a.i<=a.bl.length/\a.xs=mQ κ ((dx (a.bl.drop a.i.toNat)).map jl)
def FE(a:dk):Out (Exit×S):= .all (fun _=>True) fun b=> .aq b (.one (.exit 0,sp 69 [(0, .cf 0),(1, .ptr 1 0 [] 0)] [.ext (some a.more), .box 48 (au a)]))
 (.one (.ret,sp 69 [] [.ext none, .box 48 (au a)]))
def O7(a:dk):Out (Exit×S):= .all (fun _=>True) fun b=> .aq b (.one (.exit 2,sp 69 [] [.ext (some []), .box 48 (au a)]))
 (.one (.ret,sp 69 [] [.ext none, .box 48 (au a)]))
theorem aj0 κ a I n K:(vc (SJ κ) 12 171 none 2 (ad (Pr κ).toProgram 171 2) (Ej a) (bj (SJ κ) 171 2 2 I n K))=(
 letI b:=AV.int
 letI c:=Obj.box
 letI d:=Obj.ext
 letI f:=IntKind.wrap IntKind.i64 (a.i+(1:Int))
 letI g:=sp 69 [] [d none,c 48 (au a)]
 letI h:=ag (nth a.hl a.i.toNat) 0
 letI e:=a.hl.length
 letI i:=∃(e1:List AV),a.xs=AV.aH [AV.lit (Value.iface 273 (Value.pointer (some (Kp.tree κ))))]::e1/\(∃(e0:Nat),e0<n/\I e0 (sp 69 [(0,AV.cf
  0),(1,AV.ptr 1 0 [] 0),(25,AV.ah 38 a.hl),(26,b (↑e:Int)),(27,b f)] [d (some e1),c 48 (au a)]))/\K Exit.ret g
 aq (decide (a.i<(↑e:Int))) (aV (decide ((0:Int)<=a.i)&&decide (a.i<(↑e:Int))) (aq (toInt h != (4:Int)) (aq (!mn (toInt h)) (aq (toInt h !=
 (1:Int)) (∃(e1:List AV),a.xs=AV.aH [AV.lit Value.nilIface]::e1/\(∃(e0:Nat),e0<n/\I e0 (sp 69 [(0,AV.cf 0),(1,AV.ptr 1 0 [] 0),(25,AV.ah
 38 a.hl),(26,b (↑e:Int)),(27,b f)] [d (some e1),c 48 (au a)]))/\K Exit.ret g) (∃(e1:List AV),a.xs=AV.aH [AV.lit (aB κ
 (decide ((↑(a.bl.length):Int)>(0:Int))))]::e1/\(∃(e0:Nat),e0<n/\I e0 (sp 69 [(0,AV.cf 0),(1,AV.ptr 1 0 [] 0),(25,AV.ah 38 a.hl),(26,
 b (↑e:Int)),(27,b f)] [d (some e1),c 48 (au a)]))/\K Exit.ret g)) i) i)) (K (Exit.exit 0) (sp 69 [(0,AV.cf 0),(1,AV.ptr 1 0
 [] 0)] [d (some a.xs),c 48 (au a)]))):=by kernel_rfl
theorem af2 κ:aU (SJ κ) 12 171 2 (aG 2 Ej (AB κ) FE):=by
 refine aC (fun a=>a.hl.length - a.i.toNat) ?_;rintro⟨xs,d,g,e,l,c,i⟩ K ⟨q,r,t,h⟩ p;simp only at q r t h;rw[show(SJ κ).P=Pr κ from rfl,aj0];have v:Value.iface 273 (.pointer (some κ.tree))=aB κ false:=rfl;have u:Value.nilIface=aB κ true:=rfl;have j:=p true trivial;have k:=p false trivial;simp only[Out.run,aq] at j k;simp only[v,u];simp only[aW] at q;simp only[ae,ai,ap6,ap8,ap7];refine⟨fun s=>⟨⟨r,s⟩,?_⟩,fun s=>?_⟩
 ·rw[eK e i.toNat (by omega)] at h
  have o:(cI (nth e i.toNat)).op=toInt (ag (nth e i.toNat) 0):=by rw[de];rfl
  simp only[ar3,mQ,tk,o,List.cons_append] at h;rw[az (n:=i+1) (by omega) (by omega)];have w: ∀b,b=(!decide (toInt (ag (nth e i.toNat) 0)=4)&& !mn (toInt (ag (nth e i.toNat) 0))&&(!decide (toInt (ag (nth e i.toNat) 0)=1)||decide (0<l.length)))->
    ∃f,xs=AV.aH [AV.lit (aB κ b)]::f/\(∃m,m<e.length - i.toNat/\et Ej (AB κ) FE (fun a=>a.hl.length - a.i.toNat) K m (Ej ⟨f,d,g,e,l,c,i+1⟩))/\K Exit.ret (sp 69 [] [.ext none, .box 48 (au ⟨xs,d,g,e,l,c,i⟩)]):=by
   rintro b rfl;refine⟨_,h,⟨_,?_,⟨_,d,g,e,l,c,i+1⟩,rfl,⟨by simpa[aW] using q,by simp only;omega,by simp only;omega,?_⟩,rfl,p⟩,k⟩
   ·simp only;omega
   ·simp only[mQ,show(i+1).toNat=i.toNat+1 by omega]
  simp only[HV,Bool.not_eq_true',aq8,ap6,ap8]
  grind [decide_eq_true,decide_eq_false]
 ·rw[aq4 (by omega)] at h
  simp only[aa,mQ,List.map_nil,List.nil_append] at h;subst h;exact j
noncomputable def Bf κ:=(SJ κ).an 171 2 (aG 2 Ej (AB κ) FE)
theorem ah5 κ:aE (Bf κ):=(e49 _).an (m49 _) (af2 _)
theorem ac6 κ:aj (Bf κ):=(m49 _).an aI
theorem ag9 κ a I n K:(vc (Bf κ) 12 171 none 2 (ad (Pr κ).toProgram 171 7) (LX a) (bj (Bf κ) 171 7 2 I n K))=(
 letI b:=nth a.bl a.i.toNat
 letI c:=AV.agg [AV.agg [AV.str a.rel,AV.ah 38 a.hl],AV.ah 80 a.bl,AV.int a.line]
 letI d:=a.i<(↑(a.bl.length):Int)
 aq (decide d) (aV (decide ((0:Int)<=a.i)&&decide d) (∃(e1:List AV),a.xs=AV.aH [AV.lit (aB κ (jl {op:=toInt (ag b 0),a:={rel:=toStr (ag (ag b 1) 0),l:=aa (af (ag (ag b 1) 1))},x:=Tm.mk (toInt (ag (ag b 2) 0)) (toStr (ag (ag b 2) 1)) (toInt (ag (ag b 2) 2)) (aa (af (ag (ag b 2) 3))),y:=Tm.mk (toInt (ag (ag b 3) 0)) (toStr (ag (ag b 3) 1)) (toInt (ag (ag b 3) 2)) (aa (af (ag (ag b 3) 3)))}))]::e1/\(∃(e0:Nat),e0<n/\I e0 (sp 69 [(0,AV.cf 0),(57,AV.ah 80 a.bl),(58,AV.int (↑(a.bl.length):Int)),(59,AV.int (IntKind.wrap IntKind.i64 (a.i+(1:Int))))] [Obj.ext (some e1),Obj.box 48 c]))/\K Exit.ret (sp 69 [] [Obj.ext none,Obj.box 48 c]))) (K (Exit.exit 2) (sp 69 [] [Obj.ext (some a.xs),Obj.box 48 c]))):=by kernel_rfl
theorem ah6 κ:aU (Bf κ) 12 171 7 (aG 2 LX (Jh κ) O7):=by
 refine aC (fun a=>a.bl.length - a.i.toNat) ?_;rintro⟨xs,c,h,p,k,d,i⟩ K ⟨g,m,o,b⟩ j;simp only at g m o b;rw[show(Bf κ).P=Pr κ from rfl,ag9];have e:=j true trivial;have f:=j false trivial;simp only[Out.run,aq] at e f;simp only[aW] at g;simp only[ae,ai,ap6,ap8,ap7,←lt_eq];refine⟨fun l=>⟨⟨m,l⟩,?_⟩,fun l=>?_⟩
 ·rw[oq k i.toNat (by omega)] at b
  simp only[ar3,mQ] at b;rw[az (n:=i+1) (by omega) (by omega)];refine⟨_,b,⟨_,?_,⟨_,c,h,p,k,d,i+1⟩,rfl,⟨by simpa[aW] using g,by simp only;omega,by simp only;omega,?_⟩,rfl,j⟩,f⟩
  ·simp only;omega
  ·simp only[mQ,show(i+1).toNat=i.toNat+1 by omega]
 ·rw[aq4 (by omega)] at b
  simp only[dx,mQ,List.map_nil] at b;subst b;exact e
noncomputable def Mr κ:=(Bf κ).an 171 7 (aG 2 LX (Jh κ) O7)
theorem ag4 κ:aE (Mr κ):=(ah5 _).an (ac6 _) (ah6 _)
theorem XX κ:aj (Mr κ):=(ac6 _).an aI
theorem y45 κ a K:(a0 (Mr κ) 12 171 [.cf 0, .ptr 1 0 [] 0] [.ext (some a.xs), .box 48 (au a)] K)=(
 letI b:=AV.int
 letI c:=AV.agg
 letI d:=Obj.box
 letI e:=Obj.ext
 letI f:=AV.aH
 letI g:=AV.ah
 letI h:=c [c [AV.str a.rel,g 38 a.hl],g 80 a.bl,b a.line]
 letI k:=Pg.toProgram (Env.P (SJ κ))
 letI m:=Pg.toProgram (Env.P (Bf κ))
 ∃(e5:List AV),a.xs=f [AV.lit (aB κ (bn {rel:=a.rel,l:=aa a.hl}))]::e5/\(∃(e4:List AV),e5=f [AV.lit (aB κ (decide ((↑(a.bl.length):Int)<=(20:Int))))]::e4/\(ad k 171 2=ad k 171 2/\∃(e3:dk),letI i:=c [c [AV.str e3.rel,g 38 e3.hl],g 80 e3.bl,b e3.line];sp 69 [(0,AV.cf 0),(1,AV.ptr 1 0 [] 0),(25,g 38 a.hl),(26,b (↑(a.hl.length):Int)),(27,b 0)] [e (some e4),d 48 h]=sp 69 [(0,AV.cf 0),(1,AV.ptr 1 0 [] 0),(25,g 38 e3.hl),(26,b (↑(e3.hl.length):Int)),(27,b e3.i)] [e (some e3.xs),d 48 i]/\(e3.hl.length<=9223372036854775807/\(0:Int)<=e3.i/\e3.i<=(↑(e3.hl.length):Int)/\e3.xs=mQ κ (List.map (tk e3.bl.length) (aa (List.drop e3.i.toNat e3.hl)))++e3.more)/\∀(e2:Bool),True->aq e2 (ad m 171 7=ad m 171 7/\∃(e1:dk),letI j:=c [c [AV.str e1.rel,g 38 e1.hl],g 80 e1.bl,b e1.line];sp 69 [(0,AV.cf 0),(57,g 80 e3.bl),(58,b (↑(e3.bl.length):Int)),(59,b 0)] [e (some e3.more),d 48 i]=sp 69 [(0,AV.cf 0),(57,g 80 e1.bl),(58,b (↑(e1.bl.length):Int)),(59,b e1.i)] [e (some e1.xs),d 48 j]/\(e1.bl.length<=9223372036854775807/\(0:Int)<=e1.i/\e1.i<=(↑(e1.bl.length):Int)/\e1.xs=mQ κ (List.map jl (dx (List.drop e1.i.toNat e1.bl))))/\∀(e0:Bool),True->aq e0 (K (f []) [e (some []),d 48 j]) (K (f []) [e none,d 48 j])) (K (f []) [e none,d 48 i]))/\K (f []) [e none,d 48 h])/\K (f []) [e none,d 48 h]):=by kernel_rfl
def Pd(a:dk):List AV×List Dn.Obj:=([.cf 0, .ptr 1 0 [] 0],[.ext (some a.xs), .box 48 (au a)])
def Fp κ(a:dk):=a.hl.length<=aW/\a.bl.length<=aW/\a.xs=mQ κ (tI ⟨⟨a.rel,aa a.hl⟩,dx a.bl⟩)
def MG:dk->Out (AV×List Dn.Obj):=fun _=> .all (fun st'=>sm st') fun st'=> .one (.aH [],st')
theorem c45 κ:bd (Mr κ) 12 171 (aO Pd (Fp κ) MG):=by
 refine aR ?_;rintro⟨xs,e,c,g,d,a,i⟩ K ⟨l,n,k⟩ m;simp only at l n k;simp only[Pd];rw[y45 κ ⟨xs,e,c,g,d,a,i⟩];simp only;have f: ∀b,K (.aH []) [.ext none,b]:=fun b=>m _ trivial
 have o: ∀b,K (.aH []) [.ext (some []),b]:=fun b=>m _ trivial
 subst k;have j:decide ((d.length:Int)<=20)=decide (d.length<=20):=by
  by_cases h:d.length<=20
  ·rw[aq2 h,aq2 (by omega)]
  ·rw[aq0 h,aq0 (by omega)]
 rw[j];simp only[tI,mQ,ar3,Ba];refine⟨_,rfl,⟨_,rfl,⟨trivial,⟨_,mQ κ ((dx d).map jl),c,g,d,a,0⟩,rfl,⟨l,by simp only;omega,by simp only;omega,?_⟩,?_⟩,f _⟩,f _⟩
 ·simp[mQ,Ba]
 ·intro y _
  cases y
  ·exact f _
  ·refine⟨trivial,⟨_,[],c,g,d,a,0⟩,rfl,⟨n,by simp only;omega,by simp only;omega,by simp[mQ]⟩,?_⟩
   intro y _;cases y
   ·exact f _
   ·exact o _
set_option maxRecDepth 20000 in
noncomputable def Tw(κ:Kp):Env:=(Mr κ).aw 171 (aO Pd (Fp κ) MG)
theorem e45 κ:aE (Tw κ):=(ag4 _).aw (XX _) (c45 _)
theorem m45 κ:aj (Tw κ):=(XX _).aw aJ
noncomputable abbrev VX(κ:Kp)(a:dk)(st:LoopState)(p:Option Code):Dn.Obj:=
 .loop (iI (Pr κ).toProgram 96 3 st p (gX (bM 15) [(0,au a),(1, .ptr 0 0 [] 0),(2, .bool false),(3, .ptr 1 0 [] 0),(5,au a),(6, .bm 171 [.ptr 2 0 [] 0])]))
noncomputable abbrev qg κ a:=[.box 48 (au a), .box 171 (.lit .nilIface), .box 48 (au a),VX κ a .ready none]
noncomputable abbrev Fm κ a:=[.box 48 (au a), .box 171 (.lit .nilIface), .dead,VX κ a .ready none]
theorem s16 κ a Q:(tidy (Pr κ).toProgram 4 (dt (qg κ a) (bV (qg κ a) [.ptr 2 0 [] 0])) Q)=(
 Q [Obj.box 48 (au a),Obj.box 171 (AV.lit Value.nilIface),Obj.dead,Dn.Obj.loop (iI Tryz.prog 96 3 LoopState.ready none (gX (bM 15) [(0,au a),(1,AV.ptr 0 0
 [] 0),(2,AV.bool false),(3,AV.ptr 1 0 [] 0),(5,au a),(6,AV.bm 171 [AV.ptr 2 0 [] 0])]))]):=by kernel_rfl
theorem r16 κ a u Q(K2:List Dn.Obj->Prop):(fQ (vc (Tw κ) 12) 3 [.lit u] (Fm κ a) (fun r st''=>match r with| .lit (.bool true)=>tidy (Pr κ).toProgram 4 st'' Q| .lit (.bool false)=>K2 st''|_=>False))=(
 letI b:=Obj.box
 letI c:=gX (bM 15) [(0,au a),(1,AV.ptr 0 0 [] 0),(2,AV.bool false),(3,AV.ptr 1 0 [] 0),(5,au a),(6,AV.bm 171 [AV.ptr 2 0 [] 0])]
 aV (aD u) (aq (!bO u) (K2 [b 48 (au a),b 171 (AV.lit u),Obj.dead,Dn.Obj.loop (iI Tryz.prog 96 3 LoopState.done (some (Code.exit 0)) c)]) (Q
 [b 48 (au a),b 171 (AV.lit Value.nilIface),Obj.dead,Dn.Obj.loop (iI Tryz.prog 96 3 LoopState.ready none c)]))):=by kernel_rfl
noncomputable abbrev We κ a:=[.box 48 (au a), .box 171 (.lit (aB κ false)), .dead,VX κ a .done (some (.exit 0))]
def wN(a:dk):Rl:=⟨⟨a.rel,aa a.hl⟩,dx a.bl⟩
theorem k16 κ a xs:(AV.cf 0::fC (ia (bV (qg κ a) [.ptr 2 0 [] 0])) [.ptr 2 0 [] 0],Obj.ext (some xs)::fU (ia (bV (qg κ a) [.ptr 2 0 [] 0])) (fV (qg κ a) (bV (qg κ a) [.ptr 2 0 [] 0])))=Pd {a with xs:=xs}:=by kernel_rfl
theorem o16 κ a:lT (qg κ a) [.ptr 2 0 [] 0]=true:=by kernel_rfl
noncomputable def U9(κ:Kp):eh:=fun b st K=>∃a,(b,st)=([AV.ptr 2 0 [] 0],qg κ a)/\(a.hl.length<=aW/\a.bl.length<=aW)/\aq (a8 (wN a)) (K (Fm κ a)) (K (We κ a))
theorem KL κ:(U9 κ).fY:=by
 rintro b st K f g ⟨a,c,d,e⟩;refine⟨a,c,d,?_⟩
 grind [ae]
theorem call45 κ a st K(h:aO Pd (Fp κ) MG a st K):(Tw κ).call 171 a st K:=h
theorem ag2 κ:iw (Tw κ) 12 171 (U9 κ):=by
 rintro j st K ⟨a,k,g,f⟩;obtain⟨rfl,rfl⟩:=Prod.mk.inj k;rw[ae] at f;refine⟨mQ κ (tI (wN a)),fun c st'=>∃l,c=mQ κ l/\st'=Fm κ a/\a8 (wN a)=l.all id,⟨o16 κ a,?_,?_,?_,?_⟩⟩
 ·refine call45 κ _ _ _ ?_
  refine⟨{a with xs:=mQ κ (tI (wN a))},?_,⟨g.1,g.2,rfl⟩,fun st' h=>h⟩;exact k16 κ a _
 ·rw[show(Tw κ).P=Pr κ from rfl,show(qg κ a).length=4 from rfl,s16]
  exact⟨_,rfl,rfl,Gb _⟩
 ·rintro m i st' ⟨l,d,rfl,e⟩
  cases l with
  |nil=>cases d
  |cons b l=>
   simp only[mQ,ar3,List.cons.injEq,AV.aH.injEq] at d;obtain⟨rfl,rfl⟩:=d;rw[show(Tw κ).P=Pr κ from rfl,show(qg κ a).length=4 from rfl];refine Eq.mpr (r16 κ a (aB κ b) _ _) ?_;rw[nj,qG];cases b with
   |true=>exact⟨l,rfl,rfl,by rw[e];rfl⟩
   |false=>exact f.2 (by rw[e];rfl)
 ·rintro st' ⟨l,d,rfl,e⟩
  cases l with
  |nil=>exact f.1 (by rw[e];rfl)
  |cons b l=>cases d
def aj6:List Nat:=[171]
noncomputable def Wm κ:=((Tw κ).addRange 96 3 171 (U9 κ)).cV fun f=>iD f aj6
theorem ap0 κ:aE (Wm κ):=((e45 _).addRange (m45 _) (ag2 _)).cV _
theorem ak4 κ:aj (Wm κ):=((m45 _).addRange (KL _)).cV _
end Go.Proofs.YtioeffnadipbaaaGreatDoor
namespace Go.Proofs.YtioeffnadipbaaaGreatDoor
open Go Go.Dn Go.Rl Go.Proofs Go.RowKit Go.Extern.Stop Go.Stop Go.Extern
theorem xk v w:(Extern.ReflectliteType.typeOf #[.iface 273 v]).run Tryz.prog w= .ok (.iface 257 (.agg #[.pointer (some ⟨5,273,none⟩)])) w:=by kernel_rfl
theorem nc w:((Extern.ReflectliteType.method fun t=>do Go.Extern.Rtype.noPackHeld "Comparable" t;(fun a=>Value.bool a.comparable)<$>typeInfo t) #[.agg #[.pointer (some ⟨5,273,none⟩)]]).run Tryz.prog w= .ok (.bool true) w:=by kernel_rfl
theorem iC v w:(Go.method 411 257 v "Comparable").run Tryz.prog w= .ok (222,v) w:=by kernel_rfl
theorem EE:(Tryz.prog.info? 273).map (·.comparable)=some true:=by kernel_rfl
theorem Gf:(Tryz.prog.info? 299).map (·.size)=some 1:=by kernel_rfl
set_option maxRecDepth 4000 in
theorem Ie(a:Addr)(w:World):
  Calls Tryz.prog 108 #[.iface 273 (.pointer (some a)), .iface 273 (.pointer (some a))] w fun e w'=>e= .returned (.bool true)/\w'=w:=by
 obtain⟨i,hi,hcmp⟩:=Option.map_eq_some_iff.1 EE;obtain⟨j,hj,hjs⟩:=Option.map_eq_some_iff.1 Gf;have h8:= @run_callFunc_extern Tryz.prog 157 _ Extern.ReflectliteType.typeOf Tryz.func157 (by kernel_rfl) (by kernel_rfl) (by kernel_rfl) (by kernel_rfl);have h32:= @run_callFunc_extern Tryz.prog 222 _ (Extern.ReflectliteType.method fun t=>do Go.Extern.Rtype.noPackHeld "Comparable" t;pure (.bool (←typeInfo t).comparable)) Tryz.func222 (by kernel_rfl) (by kernel_rfl) (by kernel_rfl) (by kernel_rfl);have tT:=xk;have cT:=nc;have mR:=iC;have heq:=run_eql_iface_ptr_same (P:=Tryz.prog) w a Tryz.underlying171 Tryz.underlying273 hi hcmp hj
 go_enter Tryz.func108,Tryz.ntmps108
 go_wp2
 refine wp_loop_rounds 1 ?_;rw[rounds_succ]
 go_wp2
 go_ret
 exact⟨rfl,rfl⟩
theorem My b w:
  Calls Tryz.prog 108 #[.nilIface, .iface 273 (.pointer (some b))] w fun e a=>e= .returned (.bool false)/\a=w:=by
 have c:=run_eql_iface_nil_left  w 273 (.pointer (some b)) Tryz.underlying171
 go_wp2
 go_ret
 simp
def gIs:List AV->Option (Bool×AV)
 |[.lit .nilIface, .lit (.iface 273 (.pointer (some _)))]=>some (true, .bool false)
 |[.lit (.iface 273 (.pointer (some a))), .lit (.iface 273 (.pointer (some b)))]=>some (decide (a=b), .bool true)
 |_=>none
theorem vQ{C u v c}(h:MT C [.lit u, .lit v] c.toList):c= #[u,v]:=by
 obtain⟨l⟩:=c;match l,h with
 |[a,b],h=>
  simp only[MT] at h;have e:Rel C (.lit u) a:=⟨h.1,h.2.1,h.2.2.1⟩
  have d:Rel C (.lit v) b:=⟨h.2.2.2.1,h.2.2.2.2.1,h.2.2.2.2.2.1⟩
  rw[aX e,aX d]
 |[],h=>simp[MT] at h
 |[_],h=>simp[MT] at h
 |_::_::_::_,h=>simp[MT] at h
theorem qIs κ:gu (Pr κ) 108 gIs:=by
 intro c x i a;unfold gIs at a;split at a
 ·simp only[ap9,aq5,true_and] at a
  subst a;refine⟨_,_,Tryz.func108,rfl,rfl,rfl,fun C h f g b=>?_⟩;rw[vQ b];refine(callsIn_wide.2 (My _ C.w)).mono ?_;rintro e d ⟨rfl,rfl⟩;exact⟨rfl,ib.refl _⟩
 ·simp only[ap9,aq5,ap6] at a
  obtain⟨rfl,rfl⟩:=a;refine⟨_,_,Tryz.func108,rfl,rfl,rfl,fun C h f g b=>?_⟩;rw[vQ b];refine(callsIn_wide.2 (Ie _ C.w)).mono ?_;rintro e d ⟨rfl,rfl⟩;exact⟨rfl,ib.refl _⟩
 ·cases a
end Go.Proofs.YtioeffnadipbaaaGreatDoor
namespace Go.Proofs.YtioeffnadipbaaaGreatDoor
open Go Go.Dn Go.Rl Go.Proofs
attribute [local irreducible] a0 vc
set_option maxRecDepth 20000
noncomputable def EIs κ:=(Wm κ).aK 108 gIs
theorem eIs κ:aE (EIs κ):=(ap0 _).eI (qIs _)
theorem mIs κ:aj (EIs κ):=(ak4 _).aK
theorem y16 κ a K:(a0 (EIs κ) 12 96 [au a] [] K)=(
 letI b:=AV.ptr
 letI c:=AV.bool
 letI d:=Obj.box
 ∃(e0:dk),([b 2 0 [] 0],[d 48 (au a),d 171 (AV.lit Value.nilIface),d 48 (au a),Dn.Obj.loop (iI Tryz.prog 96 3 LoopState.ready none
 (gX (bM 15) [(0,au a),(1,b 0 0 [] 0),(2,c false),(3,b 1 0 [] 0),(5,au a),(6,AV.bm 171 [b 2 0 [] 0])]))])=([b 2 0 [] 0],
 [d 48 (au e0),d 171 (AV.lit Value.nilIface),d 48 (au e0),Dn.Obj.loop (iI Tryz.prog 96 3 LoopState.ready none (gX (bM 15) [(0,au e0),(1,
 b 0 0 [] 0),(2,c false),(3,b 1 0 [] 0),(5,au e0),(6,AV.bm 171 [b 2 0 [] 0])]))])/\(e0.hl.length<=9223372036854775807/\
 e0.bl.length<=9223372036854775807)/\aq (a8 (wN e0)) (K (c true) []) (aV (decide (Kp.tree κ=Kp.tree κ)) (K (c false) []))):=by kernel_rfl
def g16:List AV->Option (Bool×AV)
 |[.agg [.agg [.lit (.string a), .ah 38 c], .ah 80 b, .lit (.int .i64 _)]]=>some (decide (c.length<=aW)&&decide (b.length<=aW), .bool (a8 ⟨⟨a,aa c⟩,dx b⟩))
 |_=>none
theorem p16 κ:cd (EIs κ) 12 96 g16:=by
 intro g x c;unfold g16 at c;split at c
 ·rename_i a d f b
  simp only[ap9,aq5,ap7,ap6] at c;obtain⟨⟨i,h⟩,rfl⟩:=c;refine⟨_,rfl,rfl,?_⟩;rw[y16 κ ⟨[],[],a,d,f,b,0⟩];refine⟨⟨[],[],a,d,f,b,0⟩,rfl,⟨i,h⟩,?_⟩;rw[ae];refine⟨fun e=>?_,fun e=>?_⟩
  ·rw[show a8 ⟨⟨a,aa d⟩,dx f⟩=true from e]
  ·rw[show a8 ⟨⟨a,aa d⟩,dx f⟩=false from e]
   simp[aV]
 ·cases c
noncomputable def E16 κ:=(EIs κ).aK 96 g16
theorem e16 κ:aE (E16 κ):=(eIs _).aK (mIs _) (p16 _)
theorem m16 κ:aj (E16 κ):=(mIs _).aK
def UJ(l:List AV):List AV×List Dn.Obj:=([.ah 38 l],[])
def U2 n l:=bk (aa l)=n/\n<=100000
def N9(l:List AV):Out (AV×List Dn.Obj):= .one (.ak 0 0 (ax (aa l)).length,[.row 9 (strs (ax (aa l)))])
def RI n:=aO UJ (U2 n) N9
noncomputable def FN κ r:=(E16 κ).aw 155 fun a st K=>∃m,m<r/\RI m a st K
theorem x31 κ r l i xs k I n K:(vc (FN κ r) 12 155 none 0 (ad (Pr κ).toProgram 155 3) (sp 27 [(3, .ak 0 0 k),(6, .ah 38 l),(7, .int l.length),(8, .int i)] [.row 9 xs]) (bj (FN κ r) 155 3 0 I n K))=(
 letI a:=AV.ah
 letI c:=IntKind.wrap IntKind.i64 (i+(1:Int))
 letI b:=nth l i.toNat
 letI d:=i<(↑(l.length):Int)
 aq (decide d) (aV (decide ((0:Int)<=i)&&decide d) (aq (toInt (ag b 0)==(1:Int)) (aV (decide ((k+1+1)*17<=70368744177664)) (∃(e2:Nat),e2<r/\∃(e1:List AV),letI e:=List.drop 0 (strs (ax (aa e1)));letI f:=List.length (ax (aa e1));letI g:=List.take f e;([a 38 (af (ag b 3))],aL)=([a 38 e1],aL)/\(bk (aa e1)=e2/\e2<=100000)/\aV (decide ((k+1+List.length g+1)*17<=70368744177664)) (∃(e0:Nat),e0<n/\I e0 (sp 27 [(3,AV.ak 0 0 (k+1+List.length g)),(6,a 38 l),(7,AV.int (↑(l.length):Int)),(8,AV.int c)] [Obj.row 9 (List.take (k+1) (List.take k xs++[AV.str (toStr (ag b 1))])++List.take f e)])))) (∃(e2:Nat),e2<r/\∃(e1:List AV),letI h:=List.drop 0 (strs (ax (aa e1)));letI j:=List.length (ax (aa e1));letI m:=List.take j h;([a 38 (af (ag b 3))],aL)=([a 38 e1],aL)/\(bk (aa e1)=e2/\e2<=100000)/\aV (decide ((k+List.length m+1)*17<=70368744177664)) (∃(e0:Nat),e0<n/\I e0 (sp 27 [(3,AV.ak 0 0 (k+List.length m)),(6,a 38 l),(7,AV.int (↑(l.length):Int)),(8,AV.int c)] [Obj.row 9 (List.take k xs++List.take j h)]))))) (K (Exit.exit 0) (sp 27 [(3,AV.ak 0 0 k)] [Obj.row 9 xs]))):=by kernel_rfl
abbrev Hs(a:List _×Int×List _):=sp 27 [(3, .ak 0 0 a.2.2.length),(6, .ah 38 a.1),(7, .int a.1.length),(8, .int a.2.1)] [.row 9 (strs a.2.2)]
def G8 r(a:List _×Int×List ByteArray):=a.1.length<=aW/\0<=a.2.1/\a.2.1<=a.1.length/\bk (aa (a.1.drop a.2.1.toNat))<=r/\a.2.2.length+bk (aa (a.1.drop a.2.1.toNat))<=100000
def xg(a:List AV×Int×List ByteArray):Out (Exit×S):= .one (.exit 0,sp 27 [(3, .ak 0 0 (a.2.2++ax (aa (a.1.drop a.2.1.toNat))).length)] [.row 9 (strs (a.2.2++ax (aa (a.1.drop a.2.1.toNat))))])
theorem Sx l i(h:i<l.length):bk (aa (l.drop i))=1+bk (aa (af (ag (nth l i) 3)))+bk (aa (l.drop (i+1))):=by
 grind [eK,bk,de,Tm.mL]
theorem Po l i(h:i<l.length):ax (aa (l.drop i))=(bif decide (toInt (ag (nth l i) 0)=1) then[toStr (ag (nth l i) 1)] else[])++ax (aa (af (ag (nth l i) 3)))++ax (aa (l.drop (i+1))):=by
 grind [eK,ax,de,Tm.vars]
theorem l31 κ r:aU (FN κ r) 12 155 3 (aG 0 Hs (G8 r) xg):=by
 refine aC (fun a=>a.1.length - a.2.1.toNat) ?_;rintro⟨l,i,c⟩ K ⟨d,f,j,k,m⟩ b;simp only at d f j k m;rw[show(FN κ r).P=Pr κ from rfl];refine Eq.mpr (x31 κ r l i (strs c) c.length _ _ K) ?_;simp only[aq6,cO];simp only[aW] at d;simp only[ae,ai,ap6,ap8,ap7,beq_iff_eq,beq_eq_false_iff_ne];refine⟨fun g=>⟨⟨f,g⟩,?_⟩,fun g=>?_⟩
 ·have p:=Sx l i.toNat (by omega)
  have h:=Po l i.toNat (by omega);have o:=cF (aa (af (ag (nth l i.toNat) 3)));rw[az (n:=i+1) (by omega) (by omega)];refine⟨fun e=>⟨by omega,_,?_,af (ag (nth l i.toNat) 3),rfl,⟨rfl,by omega⟩,?_,_,?_,(l,i+1,c++[toStr (ag (nth l i.toNat) 1)]++ax (aa (af (ag (nth l i.toNat) 3)))),?_,⟨by simpa[aW] using d,by simp only;omega,by simp only;omega,?_,?_⟩,rfl,?_⟩,
   fun e=>⟨_,?_,af (ag (nth l i.toNat) 3),rfl,⟨rfl,by omega⟩,?_,_,?_,(l,i+1,c++ax (aa (af (ag (nth l i.toNat) 3)))),?_,⟨by simpa[aW] using d,by simp only;omega,by simp only;omega,?_,?_⟩,rfl,?_⟩⟩
  all_goals first
   |omega
   |(simp only[ba];omega)
   |(simp only[show(i+1).toNat=i.toNat+1 by omega,ar1,List.length_cons,List.length_nil];omega)
   |skip
  ·simp only[Hs,jk,ba,ar1,List.length_cons,List.length_nil]
   rw[List.take_of_length_le (by simp[ba])];rfl
  ·simp only[xg,Out.run,show(i+1).toNat=i.toNat+1 by omega] at b⊢
   rw[h,aq2 e] at b;simpa[List.append_assoc] using b
  ·simp only[Hs,jk,ba,ar1]
  ·simp only[xg,Out.run,show(i+1).toNat=i.toNat+1 by omega] at b⊢
   rw[h,aq0 e] at b;simpa[List.append_assoc] using b
 ·simp only[xg,Out.run] at b
  rw[aq4 (by omega)] at b;simpa[aa,ax] using b
noncomputable def MD κ r:=(FN κ r).an 155 3 (aG 0 Hs (G8 r) xg)
theorem y31 κ r l K:(a0 (MD κ r) 12 155 [.ah 38 l] [] K)=(
 ad (Pg.toProgram (Env.P (FN κ r))) 155 3=ad (Pg.toProgram (Env.P (FN κ r))) 155 3/\∃(a:List AV×Int×List ByteArray),letI b:=aa (List.drop a.2.1.toNat a.1);sp 27 [(3,AV.ak 0 0 0),(6,AV.ah 38 l),(7,AV.int (↑(l.length):Int)),(8,AV.int 0)] [Obj.row 9 []]=sp 27 [(3,AV.ak 0 0 (List.length a.2.2)),(6,AV.ah 38 a.1),(7,AV.int (↑(a.1.length):Int)),(8,AV.int a.2.1)] [Obj.row 9 (strs a.2.2)]/\(a.1.length<=9223372036854775807/\(0:Int)<=a.2.1/\a.2.1<=(↑(a.1.length):Int)/\bk b<=r/\List.length a.2.2+bk b<=100000)/\K (AV.ak 0 0 (List.length (a.2.2++ax b))) [Obj.row 9 (strs (a.2.2++ax b))]):=by kernel_rfl
theorem Kg n:(RI n).fY:=aJ
theorem al0 κ r(d: ∀a st K,(∃m,m<r/\RI m a st K)->b7 (Pr κ) 155 a st K):aE (MD κ r)/\aj (MD κ r)/\(MD κ r).P=Pr κ:=
 have h:=(e16 _).fT d;have b:=(m16 _).aw fun _ _ _ _ e ⟨m,f,c⟩=>⟨m,f,Kg m _ _ _ _ e c⟩
 ⟨h.an b (l31 _ r),b.an aI,rfl⟩
theorem c31 κ r:bd (MD κ r) 12 155 (RI r):=by
 refine aR ?_;rintro l K ⟨b,c⟩ a;refine Eq.mpr (y31 κ r l K) ?_;have:=gH (aa l)
 rw[eD] at this;refine⟨rfl,(l,0,[]),rfl,⟨by simp only;omega,by simp only;omega,by simp only;omega,?_,?_⟩,?_⟩
 ·grind
 ·grind
 ·exact a
def bE l:=bk (aa l)<=100000
theorem q31 κ: ∀a st K,aO UJ bE N9 a st K->b7 (Pr κ) 155 a st K:=by
 rintro a st K ⟨l,c,d,b⟩;exact aE.ph _ _ (al0 _) (c31 _) _ _ _ K ⟨l,c,⟨rfl,d⟩,b⟩
noncomputable def RV κ:=(E16 κ).aw 155 (aO UJ bE N9)
theorem e31 κ:aE (RV κ):=(e16 _).fT (q31 _)
theorem m31 κ:aj (RV κ):=(m16 _).aw aJ
theorem x23 κ l i es I n K:(vc (RV κ) 12 112 none 1 (ad (Pr κ).toProgram 112 1) (sp 15 [(0, .mp 0),(6, .ah 9 l),(7, .int l.length),(8, .int i)] [.map 9 4 es]) (bj (RV κ) 112 1 1 I n K))=(
 letI a:=i<(↑(l.length):Int)
 aq (decide a) (aV (decide ((0:Int)<=i)&&decide a) (∃(e0:Nat),e0<n/\I e0 (sp 15 [(0,AV.mp 0),(6,AV.ah 9 l),(7,AV.int (↑(l.length):Int)),(8,
 AV.int (IntKind.wrap IntKind.i64 (i+(1:Int))))] [Dn.Obj.map 9 4 (eC es (Value.string (toStr (nth l i.toNat))) (AV.bool true))]))) (K (Exit.exit 0) (sp 15 []
 [Dn.Obj.map 9 4 es]))):=by kernel_rfl
abbrev Uf(a:List _×Int×List _):=sp 15 [(0, .mp 0),(6, .ah 9 a.1),(7, .int a.1.length),(8, .int a.2.1)] [.map 9 4 a.2.2]
def uU(a:List AV×Int×List (Value×AV)):=a.1.length<=aW/\0<=a.2.1/\a.2.1<=a.1.length
def Br(a:List AV×Int×List (Value×AV)):Out (Exit×S):= .one (.exit 0,sp 15 [] [.map 9 4 (fF a.2.2 (a.1.drop a.2.1.toNat))])
theorem l23 κ:aU (RV κ) 12 112 1 (aG 1 Uf uU Br):=by
 refine aC (fun a=>a.1.length - a.2.1.toNat) ?_;rintro⟨l,i,f⟩ K ⟨b,d,g⟩ c;simp only at b d g;rw[show(RV κ).P=Pr κ from rfl];refine Eq.mpr (x23 κ l i f _ _ K) ?_;simp only[aW] at b;simp only[ae,ai,ap6,ap8,ap7];refine⟨fun e=>⟨⟨d,e⟩,?_⟩,fun e=>?_⟩
 ·rw[az (n:=i+1) (by omega) (by omega)]
  refine⟨_,?_,(l,i+1,eC f (.string (toStr (nth l i.toNat))) (.lit (.bool true))),rfl,⟨by simpa[aW] using b,by simp only;omega,by simp only;omega⟩,rfl,?_⟩
  ·simp only;omega
  grind [Br,Out.run,List.drop_eq_getElem_cons,fF,aM]
 ·simp only[Br,Out.run] at c
  rw[aq4 (by omega)] at c;exact c
noncomputable def PT κ:=(RV κ).an 112 1 (aG 1 Uf uU Br)
theorem al9 κ:aE (PT κ):=(e31 _).an (m31 _) (l23 _)
theorem ae2 κ:aj (PT κ):=(m31 _).an aI
theorem y23 κ l es K:(a0 (PT κ) 12 112 [.mp 0, .ah 9 l] [.map 9 4 es] K)=(
 letI a:=Dn.Obj.map
 letI b:=Pg.toProgram (Env.P (RV κ))
 ad b 112 1=ad b 112 1/\∃(e0:List AV×Int×List (Value×AV)),sp 15 [(0,AV.mp 0),(6,AV.ah 9 l),(7,AV.int (↑(l.length):Int)),(8,AV.int 0)]
 [a 9 4 es]=sp 15 [(0,AV.mp 0),(6,AV.ah 9 e0.1),(7,AV.int (↑(e0.1.length):Int)),(8,AV.int e0.2.1)] [a 9 4 e0.2.2]/\(e0.1.length<=
 9223372036854775807/\(0:Int)<=e0.2.1/\e0.2.1<=(↑(e0.1.length):Int))/\K (AV.aH []) [a 9 4 (fF e0.2.2 (List.drop e0.2.1.toNat e0.1))]):=by kernel_rfl
def QB(a:List AV×List (Value×AV)):List AV×List Dn.Obj:=([.mp 0, .ah 9 a.1],[.map 9 4 a.2])
def bq(a:List AV×List (Value×AV)):=a.1.length<=aW
def Tk(a:List AV×List (Value×AV)):Out (AV×List Dn.Obj):= .one (.aH [],[.map 9 4 (fF a.2 a.1)])
theorem c23 κ:bd (PT κ) 12 112 (aO QB bq Tk):=by
 refine aR ?_;rintro⟨l,b⟩ K c a;refine Eq.mpr (y23 _ l _ K) ?_;exact⟨rfl,(l,0,b),rfl,⟨c,by simp,by simp⟩,a⟩
noncomputable def Sa κ:=(PT κ).aw 112 (aO QB bq Tk)
theorem e23 κ:aE (Sa κ):=(al9 _).aw (ae2 _) (c23 _)
theorem m23 κ:aj (Sa κ):=(ae2 _).aw aJ
theorem x41 κ l i es I n K:(vc (Sa κ) 12 161 none 2 (ad (Pr κ).toProgram 161 2) (sp 19 [(0, .ah 9 l),(1, .bm 183 [.ptr 1 0 [] 0]),(7, .int l.length),(8, .int i)] [.map 9 4 es, .box 178 (.mp 0)]) (bj (Sa κ) 161 2 2 I n K))=(
 letI a:=Dn.Obj.map
 letI b:=i<(↑(l.length):Int)
 aq (decide b) (aV (decide ((0:Int)<=i)&&decide b) (aq (!Dn.toBool (c6 es (Value.string (toStr (nth l i.toNat))) (AV.bool false))) (K Exit.ret (sp 19 [(4,
 AV.int i)] [a 9 4 es,Obj.box 178 (AV.mp 0)])) (∃(e0:Nat),e0<n/\I e0 (sp 19 [(0,AV.ah 9 l),(1,AV.bm 183 [AV.ptr 1 0 [] 0]),(7,AV.int
 (↑(l.length):Int)),(8,AV.int (IntKind.wrap IntKind.i64 (i+(1:Int))))] [a 9 4 es,Obj.box 178 (AV.mp 0)])))) (K (Exit.exit 0) (sp 19 []
 [a 9 4 es,Obj.box 178 (AV.mp 0)]))):=by kernel_rfl
abbrev LI(a:List (Value×AV)):List Dn.Obj:=[.map 9 4 a, .box 178 (.mp 0)]
abbrev TZ(a:List _×Int×List _):=sp 19 [(0, .ah 9 a.1),(1, .bm 183 [.ptr 1 0 [] 0]),(7, .int a.1.length),(8, .int a.2.1)] (LI a.2.2)
def Ao(a:List AV×Int×List (Value×AV)):Out (Exit×S):=
 .aq (gi a.2.2 (a.1.drop a.2.1.toNat)) (.one (.exit 0,sp 19 [] (LI a.2.2))) (.all (fun j=>0<=j) fun j=> .one (.ret,sp 19 [(4, .int j)] (LI a.2.2)))
theorem l41 κ:aU (Sa κ) 12 161 2 (aG 2 TZ uU Ao):=by
 refine aC (fun a=>a.1.length - a.2.1.toNat) ?_;rintro⟨l,i,c⟩ K ⟨d,f,h⟩ b;simp only at d f h;rw[show(Sa κ).P=Pr κ from rfl];refine Eq.mpr (x41 κ l i c _ _ K) ?_;simp only[aW] at d;simp only[Ao,Out.run,ae] at b;simp only[ae,ai,ap6,ap8,ap7,Bool.not_eq_true',aq8];refine⟨fun g=>⟨⟨f,g⟩,?_⟩,fun g=>?_⟩
 ·rw[aq7 (show i.toNat<l.length by omega),←aM l i.toNat (by omega)] at b
  simp only[gi,List.all_cons] at b;refine⟨fun e=>?_,fun e=>?_⟩
  ·grind [yt,toStr,nth]
  ·have j:yt c (toStr (nth l i.toNat))=true:=e
   rw[j,ar2] at b;rw[az (n:=i+1) (by omega) (by omega)];refine⟨_,?_,(l,i+1,c),rfl,⟨by simpa[aW] using d,by simp only;omega,by simp only;omega⟩,rfl,?_⟩
   ·simp only;omega
   ·simp only[Ao,Out.run,ae,show(i+1).toNat=i.toNat+1 by omega]
    exact b
 ·rw[aq4 (by omega)] at b
  exact b.1 rfl
noncomputable def Pz κ:=(Sa κ).an 161 2 (aG 2 TZ uU Ao)
theorem ai8 κ:aE (Pz κ):=(e23 _).an (m23 _) (l41 _)
theorem ZI κ:aj (Pz κ):=(m23 _).an aI
theorem y30 κ l es K:(a0 (Pz κ) 12 154 [.mp 0, .ah 9 l] [.map 9 4 es] K)=(
 letI b:=Dn.Obj.map
 ad (Pg.toProgram (Env.P (Sa κ))) 161 2=ad (Pg.toProgram (Env.P (Sa κ))) 161 2/\∃(a:List AV×Int×List (Value×AV)),sp 19 [(0,AV.ah 9
 l),(1,AV.bm 183 [AV.ptr 1 0 [] 0]),(7,AV.int (↑(l.length):Int)),(8,AV.int 0)] [b 9 4 es,Obj.box 178 (AV.mp 0)]=sp 19 [(0,AV.ah 9 a.1),
 (1,AV.bm 183 [AV.ptr 1 0 [] 0]),(7,AV.int (↑(a.1.length):Int)),(8,AV.int a.2.1)] [b 9 4 a.2.2,Obj.box 178 (AV.mp 0)]/\(a.1.length<=
 9223372036854775807/\(0:Int)<=a.2.1/\a.2.1<=(↑(a.1.length):Int))/\aq (gi a.2.2 (List.drop a.2.1.toNat a.1)) (K (AV.bool true) [b 9 4
 a.2.2]) (∀(y:Int),(0:Int)<=y->K (AV.lit (Value.bool !decide (y>=(0:Int)))) [b 9 4 a.2.2])):=by kernel_rfl
def NY(a:List AV×List (Value×AV)):Out (AV×List Dn.Obj):= .one (.bool (gi a.2 a.1),[.map 9 4 a.2])
theorem c30 κ:bd (Pz κ) 12 154 (aO QB bq NY):=by
 refine aR ?_;rintro⟨l,a⟩ K b c;refine Eq.mpr (y30 κ l a K) ?_;refine⟨rfl,(l,0,a),rfl,⟨b,by simp only;omega,by simp⟩,?_⟩
 grind [NY,Out.run,ae]
noncomputable def Rf κ:=(Pz κ).aw 154 (aO QB bq NY)
theorem e30 κ:aE (Rf κ):=(ai8 _).aw (ZI _) (c30 _)
theorem m30 κ:aj (Rf κ):=(ZI _).aw aJ
theorem x62 κ l i vs I n K:(vc (Rf κ) 12 200 none 0 (ad (Pr κ).toProgram 200 3) (sp 23 [(3, .ak 0 0 vs.length),(7, .ah 38 l),(8, .int l.length),(9, .int i)] [.row 9 (strs vs)]) (bj (Rf κ) 200 3 0 I n K))=(
 letI a:=AV.int
 letI b:=nth l i.toNat
 letI c:=IntKind.wrap IntKind.i64 (i+(1:Int))
 letI d:=i<(↑(l.length):Int)
 aq (decide d) (aV (decide ((0:Int)<=i)&&decide d) (aq (decide (toInt (ag b 0)>=(5:Int))) (∃(e1:List AV),letI e:=List.drop 0 (strs (ax (aa e1)));letI f:=List.length (ax (aa e1));letI g:=List.take f e;([AV.ah 38 [AV.agg [a (toInt (ag b 0)),AV.str (toStr (ag b 1)),a (toInt (ag b 2)),AV.ah 38 (af (ag b 3))]]],aL)=([AV.ah 38 e1],aL)/\bE e1/\aV (decide ((vs.length+List.length g+1)*17<=70368744177664)) (∃(e0:Nat),e0<n/\I e0 (sp 23 [(3,AV.ak 0 0 (vs.length+List.length g)),(7,AV.ah 38 l),(8,a (↑(l.length):Int)),(9,a c)] [Obj.row 9 (List.take vs.length (strs vs)++List.take f e)]))) (∃(e0:Nat),e0<n/\I e0 (sp 23 [(3,AV.ak 0 0 vs.length),(7,AV.ah 38 l),(8,a (↑(l.length):Int)),(9,a c)] [Obj.row 9 (strs vs)])))) (K (Exit.exit 0) (sp 23 [(3,AV.ak 0 0 vs.length)] [Obj.row 9 (strs vs)]))):=by kernel_rfl
abbrev Nl(a:List _×Int×List _):=sp 23 [(3, .ak 0 0 a.2.2.length),(7, .ah 38 a.1),(8, .int a.1.length),(9, .int a.2.1)] [.row 9 (strs a.2.2)]
def H6(a:List _×Int×List ByteArray):=a.1.length<=aW/\0<=a.2.1/\a.2.1<=a.1.length/\a.2.2.length+bk (aa (a.1.drop a.2.1.toNat))<=100000
def w9(a:List AV×Int×List ByteArray):Out (Exit×S):= .one (.exit 0,sp 23 [(3, .ak 0 0 (a.2.2++dN (aa (a.1.drop a.2.1.toNat))).length)] [.row 9 (strs (a.2.2++dN (aa (a.1.drop a.2.1.toNat))))])
theorem l62 κ:aU (Rf κ) 12 200 3 (aG 0 Nl H6 w9):=by
 refine aC (fun a=>a.1.length - a.2.1.toNat) ?_;rintro⟨l,i,e⟩ K ⟨c,h,k,m⟩ b;simp only at c h k m;rw[show(Rf κ).P=Pr κ from rfl];refine Eq.mpr (x62 κ l i e _ _ K) ?_;simp only[aq6,cO];simp only[aW] at c;simp only[ae,ai,ap6,ap8,ap7];refine⟨fun j=>⟨⟨h,j⟩,?_⟩,fun j=>?_⟩
 ·have g:=LU l i.toNat (by omega)
  have p:bk (aa (l.drop i.toNat))=bk [cI (nth l i.toNat)]+bk (aa (l.drop (i.toNat+1))):=by
   rw[eK l i.toNat (by omega)];simp only[bk,Nat.add_zero]
  have o:=cF [cI (nth l i.toNat)];have f:aa [.agg [.int (toInt (ag (nth l i.toNat) 0)), .lit (.string (toStr (ag (nth l i.toNat) 1))), .int (toInt (ag (nth l i.toNat) 2)), .ah 38 (af (ag (nth l i.toNat) 3))]]=[cI (nth l i.toNat)]:=by
   simp only[aa,ar3,List.map_nil];rw[qV,←de]
  rw[az (n:=i+1) (by omega) (by omega)];refine⟨fun d=>⟨_,rfl,?_,?_,_,?_,(l,i+1,e++ax [cI (nth l i.toNat)]),?_,⟨by simpa[aW] using c,by simp only;omega,by simp only;omega,?_⟩,rfl,?_⟩,fun d=>⟨_,?_,(l,i+1,e),rfl,⟨by simpa[aW] using c,by simp only;omega,by simp only;omega,?_⟩,rfl,?_⟩⟩
  ·simp only[bE,f];omega
  ·rw[f,ba];omega
  ·simp only;omega
  ·rw[f];simp only[Nl,jk,ba,ar1]
  ·simp only[show(i+1).toNat=i.toNat+1 by omega,ar1];omega
  ·simp only[w9,Out.run,show(i+1).toNat=i.toNat+1 by omega] at b⊢
   rw[g,aq2 (show 5<=toInt (ag (nth l i.toNat) 0) from d)] at b;simpa[List.append_assoc] using b
  ·simp only;omega
  ·simp only[show(i+1).toNat=i.toNat+1 by omega];omega
  ·simp only[w9,Out.run,show(i+1).toNat=i.toNat+1 by omega] at b⊢
   rw[g,aq0 (show ¬ 5<=toInt (ag (nth l i.toNat) 0) from d)] at b;simpa[List.append_assoc] using b
 ·simp only[w9,Out.run] at b
  rw[aq4 (by omega)] at b;simpa[aa,dN] using b
noncomputable def PB κ:=(Rf κ).an 200 3 (aG 0 Nl H6 w9)
theorem ao6 κ:aE (PB κ):=(e30 _).an (m30 _) (l62 _)
theorem ae3 κ:aj (PB κ):=(m30 _).an aI
theorem y62 κ s l K:(a0 (PB κ) 12 200 [.agg [.lit (.string s), .ah 38 l]] [] K)=(
 ad (Pg.toProgram (Env.P (Rf κ))) 200 3=ad (Pg.toProgram (Env.P (Rf κ))) 200 3/\∃(a:List AV×Int×List ByteArray),letI b:=aa (List.drop a.2.1.toNat a.1);sp 23 [(3,AV.ak 0 0 0),(7,AV.ah 38 l),(8,AV.int (↑(l.length):Int)),(9,AV.int 0)] [Obj.row 9 []]=sp 23 [(3,AV.ak 0 0 (List.length a.2.2)),(7,AV.ah 38 a.1),(8,AV.int (↑(a.1.length):Int)),(9,AV.int a.2.1)] [Obj.row 9 (strs a.2.2)]/\(a.1.length<=9223372036854775807/\(0:Int)<=a.2.1/\a.2.1<=(↑(a.1.length):Int)/\List.length a.2.2+bk b<=100000)/\K (AV.ak 0 0 (List.length (a.2.2++dN b))) [Obj.row 9 (strs (a.2.2++dN b))]):=by kernel_rfl
def XU(a:ByteArray×List AV):List AV×List Dn.Obj:=([.agg [.lit (.string a.1), .ah 38 a.2]],[])
def j8(a:ByteArray×List _):=bk (aa a.2)<=100000
def Ua(a:ByteArray×List AV):Out (AV×List Dn.Obj):= .one (.ak 0 0 (dN (aa a.2)).length,[.row 9 (strs (dN (aa a.2)))])
theorem c62 κ:bd (PB κ) 12 200 (aO XU j8 Ua):=by
 refine aR ?_;rintro⟨s,l⟩ K a b;simp only[j8] at a;refine Eq.mpr (y62 κ s l K) ?_;have:=gH (aa l)
 rw[eD] at this;refine⟨rfl,(l,0,[]),rfl,⟨by simp only;omega,by simp,by simp only;omega,?_⟩,?_⟩
 ·grind
 ·exact b
noncomputable def ZV κ:=(PB κ).aw 200 (aO XU j8 Ua)
theorem e62 κ:aE (ZV κ):=(ao6 _).aw (ae3 _) (c62 _)
theorem m62 κ:aj (ZV κ):=(ae3 _).aw aJ
structure LA where
 op:Int
 s:ByteArray
 l:List AV
 o1:Int
 s1:ByteArray
 n1:Int
 l1:List AV
 o2:Int
 s2:ByteArray
 n2:Int
 l2:List AV
abbrev LA.av(a:LA):AV:= .agg [.int a.op, .agg [.lit (.string a.s), .ah 38 a.l], .agg [.int a.o1, .lit (.string a.s1), .int a.n1, .ah 38 a.l1], .agg [.int a.o2, .lit (.string a.s2), .int a.n2, .ah 38 a.l2]]
theorem y21 κ(a:LA) K:(a0 (ZV κ) 12 137 [a.av] [] K)=(
 K (AV.bool (decide (a.op>=(7:Int)))) []):=by kernel_rfl
def g21:List AV->Option (Bool×AV)
 |[.agg [.lit (.int .i64 a), .agg [.lit (.string _), .ah 38 _], .agg [.lit (.int .i64 _), .lit (.string _), .lit (.int .i64 _), .ah 38 _], .agg [.lit (.int .i64 _), .lit (.string _), .lit (.int .i64 _), .ah 38 _]]]=>some (true, .bool (decide (7<=a)))
 |_=>none
theorem p21 κ:cd (ZV κ) 12 137 g21:=by
 intro b x a;unfold g21 at a;split at a
 ·rename_i d s l e s1 f g h s2 i c
  simp only[ap9,aq5,true_and] at a;subst a;exact⟨_,rfl,rfl,Eq.mpr (y21 κ ⟨d,s,l,e,s1,f,g,h,s2,i,c⟩ _) rfl⟩
 ·cases a
noncomputable def E21 κ:=(ZV κ).aK 137 g21
theorem e21 κ:aE (E21 κ):=(e62 _).aK (m62 _) (p21 _)
theorem m21 κ:aj (E21 κ):=(m62 _).aK
theorem y40 κ(a:LA) K:(a0 (E21 κ) 12 160 [a.av] [] K)=(
 letI b:=AV.ah
 letI c:=∃(e1:List AV),letI d:=ax (aa e1);([b 38 [AV.agg [AV.int a.o1,AV.str a.s1,AV.int a.n1,b 38 a.l1],AV.agg [AV.int a.o2,AV.str a.s2,AV.int a.n2,b 38 a.l2]]],aL)=([b 38 e1],aL)/\bE e1/\∃(e0:List AV),letI e:=List.drop 0 (strs (ax (aa e0)));letI f:=List.length (ax (aa e0));letI g:=List.take f e;([b 38 a.l],aL)=([b 38 e0],aL)/\bE e0/\aV (decide ((List.length d+List.length g+1)*17<=70368744177664)) (K (AV.ak 0 0 (List.length d+List.length g)) [Obj.row 9 (List.take (List.length d) (strs d)++List.take f e)])
 (c/\c/\c/\c)/\(c/\c/\c)/\(c/\c)/\c):=by kernel_rfl
def LA.lt(a:LA):Lt:=⟨a.op,⟨a.s,aa a.l⟩, .mk a.o1 a.s1 a.n1 (aa a.l1), .mk a.o2 a.s2 a.n2 (aa a.l2)⟩
def Yh(a:LA):List AV×List Dn.Obj:=([a.av],[])
def gp(a:LA):Prop:=jR a.lt<=100000
def Nc(a:LA):Out (AV×List Dn.Obj):= .one (.ak 0 0 (ep a.lt).length,[.row 9 (strs (ep a.lt))])
theorem c40 κ:bd (E21 κ) 12 160 (aO Yh gp Nc):=by
 refine aR ?_;rintro a K c e;refine Eq.mpr (y40 κ a K) ?_;simp only[and_self];simp only[gp,jR,LA.lt] at c;have b:aa [.agg [.int a.o1, .lit (.string a.s1), .int a.n1, .ah 38 a.l1], .agg [.int a.o2, .lit (.string a.s2), .int a.n2, .ah 38 a.l2]]=[.mk a.o1 a.s1 a.n1 (aa a.l1), .mk a.o2 a.s2 a.n2 (aa a.l2)]:=by
  simp only[aa,ar3,List.map_nil];rw[qV,qV];rfl
 have f:=cF (aa a.l);have d:=cF [.mk a.o1 a.s1 a.n1 (aa a.l1), .mk a.o2 a.s2 a.n2 (aa a.l2)];refine⟨_,rfl,?_,_,rfl,?_,?_⟩
 ·simp only[bE,b];omega
 ·simp only[bE];omega
 ·simp only[aq6,cO,b,ba]
  rw[ai,ap6]
  grind [Nc,Out.run,ep,LA.lt,jk,List.length_append]
noncomputable def YL κ:=(E21 κ).aw 160 (aO Yh gp Nc)
theorem e40 κ:aE (YL κ):=(e21 _).aw (m21 _) (c40 _)
theorem m40 κ:aj (YL κ):=(m21 _).aw aJ
structure TA where
 o1:Int
 s1:ByteArray
 n1:Int
 l1:List AV
 o2:Int
 s2:ByteArray
 n2:Int
 l2:List AV
 es:List (Value×AV)
theorem y20 κ(a:TA) K:(a0 (YL κ) 12 136 [.mp 0, .agg [.int a.o1, .lit (.string a.s1), .int a.n1, .ah 38 a.l1], .agg [.int a.o2, .lit (.string a.s2), .int a.n2, .ah 38 a.l2]] [.map 9 4 a.es] K)=(
 letI b:=Dn.Obj.map
 letI c:=K (AV.bool false) [b 9 4 a.es]
 aq (a.o1==(1:Int)) (aq (!Dn.toBool (c6 a.es (Value.string a.s1) (AV.bool false))) (∃(e1:List AV),([AV.ah 38 [AV.agg [AV.int a.o2,AV.str a.s2,AV.int
 a.n2,AV.ah 38 a.l2]]],aL)=([AV.ah 38 e1],aL)/\bE e1/\∃(e0:List AV×List (Value×AV)),([AV.mp 0,AV.ah 9 (List.take (List.length (ax (aa e1)))
 (List.drop 0 (strs (ax (aa e1)))))],[b 9 4 a.es])=([AV.mp 0,AV.ah 9 e0.1],[b 9 4 e0.2])/\bq e0/\K (AV.bool (gi e0.2 e0.1)) [b
 9 4 e0.2]) c) c):=by kernel_rfl
def TA.x(a:TA):Tm:= .mk a.o1 a.s1 a.n1 (aa a.l1)
def TA.y(a:TA):Tm:= .mk a.o2 a.s2 a.n2 (aa a.l2)
def Zr(a:TA):List AV×List Dn.Obj:=([.mp 0, .agg [.int a.o1, .lit (.string a.s1), .int a.n1, .ah 38 a.l1], .agg [.int a.o2, .lit (.string a.s2), .int a.n2, .ah 38 a.l2]],[.map 9 4 a.es])
def jn(a:TA):=bk [a.y]<=100000
def SM(a:TA):Out (AV×List Dn.Obj):= .one (.bool (mb a.es a.x a.y),[.map 9 4 a.es])
theorem c20 κ:bd (YL κ) 12 136 (aO Zr jn SM):=by
 refine aR ?_;rintro a K d i;refine Eq.mpr (y20 κ a K) ?_;have e:aa [.agg [.int a.o2, .lit (.string a.s2), .int a.n2, .ah 38 a.l2]]=[a.y]:=by
  simp only[aa,ar3,List.map_nil];rw[qV];rfl
 have h:=cF [a.y];have b:K (.bool (decide (a.o1=1)&&(!yt a.es a.s1&&gi a.es (strs (ax [a.y]))))) [.map 9 4 a.es]:=i;simp only[jn] at d;simp only[ae,beq_iff_eq,beq_eq_false_iff_ne,Bool.not_eq_true',aq8];refine⟨fun f=>⟨fun g=>?_,fun g=>?_⟩,fun f=>?_⟩
 ·have c:yt a.es a.s1=false:=g
  rw[aq2 f,c] at b;refine⟨_,rfl,by simp only[bE,e];exact d,(strs (ax [a.y]),a.es),?_,?_,b⟩
  ·simp only[aq6,cO,e]
  ·simp only[bq,ba,aW];omega
 ·grind [yt,decide_eq_true]
 grind
noncomputable def E20 κ:=(YL κ).aw 136 (aO Zr jn SM)
theorem e20 κ:aE (E20 κ):=(e40 _).aw (m40 _) (c20 _)
theorem m20 κ:aj (E20 κ):=(m40 _).aw aJ
end Go.Proofs.YtioeffnadipbaaaGreatDoor
