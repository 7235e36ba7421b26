import Derived.Test.YtioeffnadipbaaaGreatDoorDoI
import Derived.Test.YtioeffnadipbaaaGreatDoorProg
import Derived.Test.YtioeffnadipbaaaGreatDoorChecked
import Derived.WalkKit
import Derived.LaidEql
import Derived.Stop.Asserts
import Derived.RowKitTokens
namespace Go.Rl
open Go Go.Dn
inductive Tm where
 |mk (op:Int) (s:ByteArray) (n:Int) (l:List Tm)
def Tm.op:Tm->Int| .mk o _ _ _=>o
def Tm.s:Tm->ByteArray| .mk _ s _ _=>s
def Tm.n:Tm->Int| .mk _ _ n _=>n
def Tm.l:Tm->List Tm| .mk _ _ _ l=>l
theorem LR a k:SizeOf.sizeOf (af a k)<SizeOf.sizeOf a\/af a k= .cK:=by
 cases a with
 | agg l=>
  simp only[af];have: ∀l k,SizeOf.sizeOf (nth l k)<SizeOf.sizeOf l\/nth l k= .cK:=by
   intro l;induction l with
   |nil=>intro k;exact .inr rfl
   |cons a l b=>
    intro k;cases k<;>grind [nth]
  grind
 |_=>exact .inr rfl
theorem Ml{a x}(h:x∈aa a):SizeOf.sizeOf x<SizeOf.sizeOf a:=by
 cases a with
 |ad T l=>
  have:=List.sizeOf_lt_of_mem (show x∈l from h)
  grind
 |_=>grind [aa]
theorem sU{a x k}(h:x∈aa (af a k)):SizeOf.sizeOf x<SizeOf.sizeOf a:=by
 rcases LR a k with b|b
 ·have:=Ml h;omega
 grind [aa]
def bX(a:AV):Tm:= .mk (toInt (af a 0)) (toStr (af a 1)) (toInt (af a 2)) ((aa (af a 3)).attach.map fun x=>bX x.1)
termination_by SizeOf.sizeOf a
decreasing_by exact sU x.2
def ae(l:List AV):List Tm:=l.map bX
theorem cF a:bX a= .mk (toInt (af a 0)) (toStr (af a 1)) (toInt (af a 2)) (ae (aa (af a 3))):=by
 rw[bX]
 simp_all[ae]
theorem pA a s n T l:bX (.agg [.lit (.int .i64 a), .lit (.string s), .lit (.int .i64 n), .ad T l])= .mk a s n (ae l):=by
 rw[cF];rfl
structure At where
 rel:ByteArray
 l:List Tm
def Ls(a:AV):At:=⟨toStr (af a 0),ae (aa (af a 1))⟩
structure Lt where
 op:Int
 a:At
 x:Tm
 y:Tm
def c9(a:AV):Lt:=⟨toInt (af a 0),Ls (af a 1),bX (af a 2),bX (af a 3)⟩
structure Rl where
 head:At
 body:List Lt
def dB(l:List AV):List Lt:=l.map c9
def yD(a:AV):Rl:=⟨Ls (af a 0),dB (aa (af a 1))⟩
def letter(c:Int):=decide (97<=c)&&decide (c<=122)||decide (65<=c)&&decide (c<=90)||decide (c=95)
theorem zW s p:1<=(Utf8.decode s p).2:=by
 grind [Utf8.decode]
def nameAt(s:ByteArray)(p:Nat):Bool:=
 if h:p<s.size then
  (letter (Utf8.decode s p).1||(!(decide ((p:Int)=0)||decide (((Utf8.decode s p).1:Int)<48)||decide ((57:Int)<(Utf8.decode s p).1))))&&nameAt s (p+(Utf8.decode s p).2)
 else true
termination_by s.size - p
decreasing_by have:=zW s p;omega
def oh(a b:ByteArray):=a.toList==b.toList
def isName s:=!(oh s (ByteArray.mk #[])||oh s (ByteArray.mk #[95])||decide ((40:Int)<s.size))&&nameAt s 0
def lQ(a:Int):=decide (a=5)||decide (a=6)||decide (a=7)
def bare(a:Int) s(n:Int):=
 bif decide (a=1) then isName s&&decide (n=0)
 else bif decide (a=2) then oh s (ByteArray.mk #[])
 else bif decide (a=3) then decide (n=0)
 else bif decide (a=4)||decide (a=0) then oh s (ByteArray.mk #[])&&decide (n=0)
 else false
def ak:Nat->Tm->Bool
 |0,_=>false
 |h+1,t=>
  bif decide (t.op=0) then false
  else bif lQ t.op then oh t.s (ByteArray.mk #[])&&decide (t.n=0)&&decide (t.l.length=2)&&t.l.all fun x=>!(decide (x.op=3)||decide (x.op=4))&&ak h x
  else bare t.op t.s t.n&&decide (t.l.length=0)
def lX h(l:List _):=l.all fun x=>!(decide (x.op=3)||decide (x.op=4))&&ak h x
theorem dz l:(ae l).length=l.length:=by simp[ae]
theorem pY h a s n l:ak (h+1) (.mk a s n l)=bif decide (a=0) then false
  else bif lQ a then oh s (ByteArray.mk #[])&&decide (n=0)&&decide (l.length=2)&&lX h l
  else bare a s n&&decide (l.length=0):=rfl
theorem aJ: ∀l i h,nth l i=l[i]
 |[],_,h=>by grind
 |_::_,0,_=>rfl
 |_::l,i+1,h=>by simpa[nth] using aJ l i _
theorem eg l i(h:i<l.length):ae (l.drop i)=bX (nth l i)::ae (l.drop (i+1)):=by
 rw[ao3 h,aJ l i h];rfl
def aU:Nat:=9223372036854775807
theorem ay{n}(a: -9223372036854775808<=n)(b:n<=9223372036854775807):IntKind.wrap .i64 n=n:=by
 grind [IntKind.wrap,IntKind.bits,IntKind.signed]
def bj(a:At):=isName a.rel&& !decide (a.l.length=0)&&decide (a.l.length<=8)&&a.l.all (ak 20)
def KH(t:Tm):=decide (t.op=0)&&bare t.op t.s t.n&&decide (t.l.length=0)
def Uc(a:At):=oh a.rel (ByteArray.mk #[])&&decide (a.l.length=0)
def TZ(t:Tm):=decide (t.op=1)||decide (t.op=2)
theorem Uf(o:Int) s n l:KH (.mk o s n (ae l))=(decide (o=0)&&bare o s n&&decide ((l.length:Int)=0)):=by
 grind [KH,Tm.op,Tm.s,Tm.n,Tm.l,dz]
theorem Ud s l:Uc ⟨s,ae l⟩=(oh s (ByteArray.mk #[])&&decide ((l.length:Int)=0)):=by
 grind [Uc,dz]
def iM(l:Lt):=
 bif decide (l.op=1)||decide (l.op=2) then bj l.a&&(KH l.x&&KH l.y)
 else bif decide (l.op=3)||decide (l.op=4)||decide (l.op=5)||decide (l.op=6) then Uc l.a&& !decide (l.x.op=4)&& !decide (l.y.op=4)&&ak 20 l.x&&ak 20 l.y
 else bif decide (l.op=7) then bj l.a&&(TZ l.x&&KH l.y)&&ak 20 l.x
 else bif decide (l.op=8)||decide (l.op=9)||decide (l.op=10) then bj l.a&&(TZ l.x&&decide (l.y.op=1))&&ak 20 l.x&&ak 20 l.y
 else false
theorem J0 b a c s1 d e f s2 g h:iM ⟨b,a, .mk c s1 d e, .mk f s2 g h⟩=
 bif decide (b=1)||decide (b=2) then bj a&&(KH (.mk c s1 d e)&&KH (.mk f s2 g h))
 else bif decide (b=3)||decide (b=4)||decide (b=5)||decide (b=6) then Uc a&& !decide (c=4)&& !decide (f=4)&&ak 20 (.mk c s1 d e)&&ak 20 (.mk f s2 g h)
 else bif decide (b=7) then bj a&&(TZ (.mk c s1 d e)&&KH (.mk f s2 g h))&&ak 20 (.mk c s1 d e)
 else bif decide (b=8)||decide (b=9)||decide (b=10) then bj a&&(TZ (.mk c s1 d e)&&decide (f=1))&&ak 20 (.mk c s1 d e)&&ak 20 (.mk f s2 g h)
 else false:=rfl
def tp n(t:Tm):=!decide (t.op=4)&& !lQ t.op&&(!decide (t.op=1)||decide (0<n))
def ba(r:Rl):=bj r.head&&decide (r.body.length<=20)&&r.head.l.all (tp r.body.length)&&r.body.all iM
def um(r:Rl):=bj r.head::decide (r.body.length<=20)::(r.head.l.map (tp r.body.length)++r.body.map iM)
theorem FO r:ba r=(um r).all id:=by
 simp[ba,um,Bool.and_assoc]
theorem lt_eq a:c9 a=⟨toInt (af a 0),⟨toStr (af (af a 1) 0),ae (aa (af (af a 1) 1))⟩, .mk (toInt (af (af a 2) 0)) (toStr (af (af a 2) 1)) (toInt (af (af a 2) 2)) (ae (aa (af (af a 2) 3))),
  .mk (toInt (af (af a 3) 0)) (toStr (af (af a 3) 1)) (toInt (af (af a 3) 2)) (ae (aa (af (af a 3) 3)))⟩:=by
 rw[←cF,←cF];rfl
theorem oT l i(h:i<l.length):dB (l.drop i)=c9 (nth l i)::dB (l.drop (i+1)):=by
 rw[ao3 h,aJ l i h];rfl
theorem AZ l:(dB l).length=l.length:=by simp[dB]
mutual
def Tm.vars:Tm->List ByteArray
 | .mk op s _ l=>(bif decide (op=1) then[s] else[])++ar l
def ar:List Tm->List ByteArray
 |[]=>[]
 |t::l=>t.vars++ar l
end
mutual
def Tm.eT:Tm->Nat
 | .mk _ _ _ l=>1+aM l
def aM:List Tm->Nat
 |[]=>0
 |t::l=>t.eT+aM l
end
mutual
theorem Tm.Rt: ∀t:Tm,t.vars.length<=t.eT
 | .mk op s n l=>by
  have:=cU l
  simp only[Tm.vars,Tm.eT,ao6];cases decide (op=1)<;>simp<;>omega
theorem cU: ∀l:List Tm,(ar l).length<=aM l
 |[]=>by simp[ar,aM]
 |t::l=>by
  have h1:=Tm.Rt t;have h2:=cU l;simp only[ar,aM,ao6];omega
end
theorem eu: ∀l,l.length<=aM l
 |[]=>by simp
 | .mk _ _ _ m::l=>by
  have:=eu l
  grind [aM,Tm.eT]
def strs(l:List ByteArray):List AV:=l.map fun s=> .lit (.string s)
theorem aR l:(strs l).length=l.length:=by simp[strs]
theorem c6 l:List.take l.length (strs l)=strs l:=List.take_of_length_le (by grind [aR])
theorem iz l m:strs (l++m)=strs l++strs m:=by simp[strs]
def dQ:List Tm->List ByteArray
 |[]=>[]
 |t::l=>(bif decide (5<=t.op) then ar [t] else[])++dQ l
theorem Dm: ∀l,(dQ l).length<=aM l
 |[]=>by simp[dQ]
 |t::l=>by
  have a:=Dm l
  grind [cU,dQ,aM]
theorem No l i(h:i<l.length):dQ (ae (l.drop i))=(bif decide (5<=toInt (af (nth l i) 0)) then ar [bX (nth l i)] else[])++dQ (ae (l.drop (i+1))):=by
 rw[eg l i h];rw[cF];rfl
instance lawS:LawfulBEq ByteArray where
 eq_of_beq h:=(MapKept.bytes_beq _ _).1 h
 rfl:=(MapKept.bytes_beq _ _).2 rfl
theorem Ax{a b}:oh a b=true↔a=b:=by
 unfold oh;obtain⟨⟨a⟩⟩:=a;obtain⟨⟨b⟩⟩:=b;simp
theorem TN a b:oh a b=(a==b):=by
 rw[Bool.eq_iff_iff,Ax,beq_iff_eq]
def fU(b:List (Value×AV)):List AV->List (Value×AV)
 |[]=>b
 |a::l=>fU (fw b (.string (toStr a)) (.lit (.bool true))) l
def mu a s:=Dn.toBool (de a (.string s) (.lit (.bool false)))
def gB b(l:List _):=l.all fun a=>mu b (toStr a)
def bP l:=fU [] (strs l)
theorem Dj: ∀a b c,fU c (a++b)=fU (fU c a) b
 |[],_,_=>rfl
 |x::a,b,c=>by exact Dj a b _
theorem mS a b:fU (bP a) (strs b)=bP (a++b):=by
 grind [bP,iz,Dj]
theorem zb{s}: ∀{k},eM (.string s) k=true->k= .string s:=by
 intro k h;cases k<;>try cases h
 rw[eq_of_beq h]
theorem G4 s t: ∀a,mu (fw a (.string s) (.lit (.bool true))) t=(t==s||mu a t)
 |[]=>by
  simp only[mu,fw,de,eM];cases t==s<;>rfl
 | (b,e)::a=>by
  have d:=G4 s t a;simp only[mu,fw,de] at d⊢;cases h:eM _ b with
  |true=>
   have c:=zb h;subst c;simp only[an9,de,eM];cases f:t==s<;>rfl
  |false=>
   simp only[an7,de]
   grind
theorem G3 t: ∀l a,mu (fU a (strs l)) t=(mu a t||l.contains t)
 |[],a=>by simp[strs,fU]
 |s::l,a=>by
  have:=G3 t l (fw a (.string s) (.lit (.bool true)))
  rw[show fU a _=fU (fw _ (.string s) _) (strs l) from rfl,this,G4]
  grind
theorem pS l t:mu (bP l) t=l.contains t:=by
 unfold bP;rw[G3];rfl
theorem Rs b s:fw (bP b) (.string s) (.lit (.bool true))=bP (b++[s]):=by
 rw[←mS];rfl
def hasB(b l:List ByteArray):=l.all fun s=>b.contains s
theorem fm b l:gB (bP b) (strs l)=hasB b l:=by
 simp[gB,strs];congr 1;funext s
 exact pS b s
def ew(l:Lt):=ar [l.x,l.y]++ar l.a.l
def jh(l:Lt):=aM [l.x,l.y]+aM l.a.l
def mi a(x y:Tm):=decide (x.op=1)&&(!mu a x.s&&gB a (strs (ar [y])))
def mh b(x y:Tm):=decide (x.op=1)&&(!b.contains x.s&&hasB b (ar [y]))
theorem pM b x y:mi (bP b) x y=mh b x y:=by
 grind [mi,mh,pS,fm]
def nr(a:List ByteArray):List ByteArray->List ByteArray
 |[]=>[]
 |s::l=>bif a.contains s then nr a l else s::nr (a++[s]) l
theorem xb{t}: ∀{l a},t∈nr a l↔t∈l/\t∉a
 |[],a=>by simp[nr]
 | s::l,a=>by
  simp only[nr];cases h:a.contains s with
  |true=>
   rw[an9,xb]
   grind
  |false=>
   rw[an7,ap0,xb]
   grind
theorem kU: ∀l a,(nr a l).length<=l.length
 |[],_=>by simp[nr]
 |s::l,a=>by
  simp only[nr];cases a.contains s with
  |true=>have:=kU l a;grind
  |false=>have:=kU l (a++[s]);grind
def fS(r:Rl):=ar r.head.l++r.body.flatMap ew
def dm r:=bif ba r then nr [] (fS r) else[]
theorem zm{r}(h:ba r=true){s}:s∈dm r↔s∈fS r:=by
 grind [dm,xb]
def ah9:Lt:=⟨0,⟨ByteArray.empty,[]⟩, .mk 0 ByteArray.empty 0 [], .mk 0 ByteArray.empty 0 []⟩
def dZ(l:List _) k:=l.getD k ah9
def Ct(k:Nat):List Lt->Nat->List ByteArray
 |[],_=>[]
 |l::b,i=>(bif Nat.beq i k then ar [l.x] else ew l)++Ct k b (i+1)
def RP(r:Rl) k:=ar r.head.l++Ct k r.body 0
def ep r k:=(dm r).filter fun v=>(ar (dZ r.body k).a.l).contains v&&(RP r k).contains v
def cW r k:=bif decide (7<=(dZ r.body k).op) then ar [(dZ r.body k).x]++ep r k else ew (dZ r.body k)
def o8 b r k:=
 bif decide ((dZ r.body k).op=1) then hasB b (dQ (dZ r.body k).a.l)
 else bif decide ((dZ r.body k).op=3) then mh b (dZ r.body k).x (dZ r.body k).y||(mh b (dZ r.body k).y (dZ r.body k).x||hasB b (ew (dZ r.body k)))
 else bif decide ((dZ r.body k).op=2)||(decide ((dZ r.body k).op=4)||(decide ((dZ r.body k).op=5)||decide ((dZ r.body k).op=6))) then hasB b (ew (dZ r.body k))
 else(decide ((dZ r.body k).op=7)||(ar (dZ r.body k).a.l).contains (dZ r.body k).y.s)&&(hasB b (ep r k)&&hasB b (dQ (dZ r.body k).a.l))
def fF(l:List _) k:=l.getD k false
def mM(r:Rl)(done:List Bool)(b:List ByteArray):Nat->Nat->Int->Int
 |0,_,a=>a
 |n+1,k,a=>
  bif fF done k|| !o8 b r k then mM r done b n (k+1) a
  else bif !decide ((dZ r.body k).op=1) then k
  else mM r done b n (k+1) (bif decide (a<0) then(k:Int) else a)
def aE r done b:=mM r done b r.body.length 0 (-1)
def pE(r:Rl):Nat->List Bool->List ByteArray->List Nat
 |0,_,_=>[]
 |n+1,done,b=>bif decide (aE r done b<0) then[] else(aE r done b).toNat::pE r n (done.set (aE r done b).toNat true) (b++cW r (aE r done b).toNat)
def Jl(r:Rl) b k:=
 decide ((dZ r.body k).op=3)&&(mh b (dZ r.body k).x (dZ r.body k).y&&decide ((dZ r.body k).y.op>=5)||mh b (dZ r.body k).y (dZ r.body k).x&&decide ((dZ r.body k).x.op>=5))||decide (7<=(dZ r.body k).op)
def L5(r:Rl):Nat->List Bool->List ByteArray->Bool
 |0,_,_=>false
 |n+1,done,b=>bif decide (aE r done b<0) then false else Jl r b (aE r done b).toNat||L5 r n (done.set (aE r done b).toNat true) (b++cW r (aE r done b).toNat)
def TX r:=L5 r r.body.length (List.replicate r.body.length false) []
def bI r:=pE r r.body.length (List.replicate r.body.length false) []
def e6 r(l:List _):=l.flatMap (cW r)
def lv r:=decide (r.body.length<=(bI r).length)&&hasB (e6 r (bI r)) (ar r.head.l)
def Fs(r:Rl):Int:=bif ba r then bif lv r then 0 else 60 else 30
def Z4 r done b(x:Int):=0<=x/\x.toNat<r.body.length/\fF done x.toNat=false/\o8 b r x.toNat=true
theorem xf r done b: ∀n k a,k+n=r.body.length->a<0\/Z4 r done b a->
  mM r done b n k a=a/\a<0\/Z4 r done b (mM r done b n k a)
 |0,_,a,_,h=>by
  grind [mM]
 | n+1,k,a,g,h=>by
  have e:=fun f h=>xf r done b n (k+1) f (by omega) h
  simp only[mM];cases c:fF done k|| !o8 b r k with
  |true=>grind
  |false=>
   simp only[Bool.or_eq_false_iff,ao4] at c;have d:Z4 r done b (k:Int):=⟨by omega,by simp;omega,by simpa using c.1,by simpa using c.2⟩
   grind
theorem qX r done b:aE r done b= -1\/Z4 r done b (aE r done b):=by
 rcases xf r _ b r.body.length 0 (-1) (by simp) (by simp) with h|h
 ·exact .inl h.1
 ·exact .inr h
theorem nU r: ∀n done b,done.length=r.body.length->
  (∀k,k∈pE r n done b->k<r.body.length/\fF done k=false)/\(pE r n done b).Nodup/\(pE r n done b).length<=n
 |0,_,_,_=>by simp[pE]
 | n +1,done,b,hd=>by
  simp only[pE];cases h:decide (aE r done b<0) with
  |true=>simp
  | false=>
   have i:0<=aE r done b:=by simpa using h
   rcases qX r done b with e|⟨_,e,g,_⟩
   ·omega
   have d:=nU r n (done.set (aE r done b).toNat true) (b++cW r (aE r done b).toNat) (by simpa using hd);rw[an7];refine⟨fun k c=>?_,?_,by have:=d.2.2;simp only[List.length_cons];omega⟩
   ·rcases List.mem_cons.1 c with rfl|c
    ·exact⟨e,g⟩
    ·obtain⟨f,a⟩:=d.1 k c
     refine⟨f,?_⟩;simp only[fF,List.getD_eq_getElem?_getD,List.getElem?_set] at a⊢;split at a
     ·split at a
      ·simp at a
      ·simp at a;omega
     ·exact a
   ·refine List.nodup_cons.2 ⟨fun c=>?_,d.2.1⟩
    have:=(d.1 _ c).2
    simp[fF,List.getD_eq_getElem?_getD,hd,e] at this
theorem pF{r k}(h:k∈bI r):k<r.body.length:=((nU r _ _ _ (by simp)).1 k h).1
theorem D4 r:(bI r).Nodup:=(nU r _ _ _ (by simp)).2.1
theorem Ky r:(bI r).length<=r.body.length:=(nU r _ _ _ (by simp)).2.2
def j6 r k:=(dm r).filter fun v=>(e6 r ((bI r).take k)).contains v
theorem td{a b:Nat}(h:a≠b):Nat.beq a b=false:=by
 grind [Nat.eq_of_beq_eq_true]
theorem Gj r n done b:pE r (n+1) done b=
  bif decide (aE r done b<0) then[] else(aE r done b).toNat::pE r n (done.set (aE r done b).toNat true) (b++cW r (aE r done b).toNat):=rfl
theorem Fj r done b n k a:mM r done b (n+1) k a=
  bif fF done k|| !o8 b r k then mM r done b n (k+1) a
  else bif !decide ((dZ r.body k).op=1) then k
  else mM r done b n (k+1) (bif decide (a<0) then k else a):=rfl
def Xt(r:Rl)(l:Lt):Rl:=⟨r.head,r.body++[l]⟩
structure am8(r:Rl)(l:Lt):Prop where
 right:ba r=true
 more:ba (Xt r l)=true
 op:l.op=1
 an1:dQ l.a.l=[]
 vars: ∀s,s∈ew l->s∈e6 r (bI r)
def qo(T:TypeId)(a:AV):AV:= .agg [.lit (.int .i64 (toInt (af a 0))), .lit (.string (toStr (af a 1))), .lit (.int .i64 (toInt (af a 2))), .ad T (aa (af a 3))]
def qk(T:TypeId)(a:AV):List AV:= .aK [qo T a]::((aa (af a 3)).attach.flatMap fun x=>qk T x.1)
termination_by SizeOf.sizeOf a
decreasing_by exact sU x.2
def fZ T(l:List _):=l.flatMap (qk T)
theorem BZ T a:qk T a= .aK [qo T a]::fZ T (aa (af a 3)):=by
 rw[qk]
 simp_all[fZ]
theorem yb T l i(h:i<l.length):fZ T (l.drop i)=qk T (nth l i)++fZ T (l.drop (i+1)):=by
 rw[ao3 h,aJ l i h];rfl
def s6 T(x:AV):=∃y,x= .aK [qo T y]
theorem nD T: ∀n a,SizeOf.sizeOf a<n->∀x,x∈qk T a->s6 T x
 |0,_,h=>by omega
 | n+1,a,h=>by
  intro x b;rw[BZ,ap0] at b;rcases b with rfl|b
  ·exact⟨a,rfl⟩
  ·unfold fZ at b
   rw[List.mem_flatMap] at b;obtain⟨y,d,c⟩:=b;exact nD T n y (by have:=sU d;omega) x c
theorem CI T l: ∀x,x∈fZ T l->s6 T x:=by
 intro x a;unfold fZ at a;rw[List.mem_flatMap] at a;obtain⟨y,_,b⟩:=a;exact nD T _ y (Nat.lt_succ_self _) x b
def y6:AV->List ByteArray
 | .aK [t]=>bif decide (toInt (af t 0)=1) then[toStr (af t 1)] else[]
 |_=>[]
theorem wM T: ∀n a,SizeOf.sizeOf a<n->(qk T a).flatMap y6=(bX a).vars
 |0,_,h=>by omega
 | n+1,a,h=>by
  rw[BZ,cF,Tm.vars,List.flatMap_cons];congr 1
  have: ∀m:List AV,(∀x,x∈m->SizeOf.sizeOf x<SizeOf.sizeOf a)->(fZ T m).flatMap y6=ar (ae m):=by
   intro m;induction m with
   |nil=>intro _;rfl
   |cons x m d=>
    intro c;have e:=wM T n x (by have:=c x (by simp);omega)
    grind [qk,fZ,y6,bX,ar,ae]
  exact this _ fun x b=>sU b
theorem uG T: ∀l,(fZ T l).flatMap y6=ar (ae l)
 |[]=>rfl
 |x::l=>by
  show(qk T x++fZ T l).flatMap _=(bX x).vars++ar (ae l)
  rw[List.flatMap_append,wM T _ x (Nat.lt_succ_self _),uG T l]
def bk T(c b:List _):=c++b.flatMap fun a=>[qo T (af a 2),qo T (af a 3)]++aa (af (af a 1) 1)
theorem sV T a:bX (qo T a)=bX a:=by rw[cF,cF];rfl
theorem uk: ∀l m,ar (l++m)=ar l++ar m
 |[],_=>rfl
 |t::l,m=>by simp[ar,uk l m]
theorem iU T c d b:ar (ae (bk T d b))=fS ⟨⟨c,ae d⟩,dB b⟩:=by
 unfold bk fS ae;rw[List.map_append,uk];congr 1
 induction b with
 |nil=>rfl
 |cons a b e=>
  simp only[List.flatMap_cons,List.map_append,uk];congr 1
  simp[ew,c9,Ls,ae,List.map_nil,sV]
theorem gW: ∀l i x,(bQ l i x).length=l.length
 |[],_,_=>rfl
 |_::_,0,_=>rfl
 |_::l,i+1,x=>by simp[bQ,gW l i x]
theorem tV: ∀l i x,i<l.length->(bQ l i x).take (i+1)=l.take i++[x]
 |[],_,_,h=>by grind
 |_::_,0,_,_=>rfl
 |a::l,i+1,x,h=>by
  have:=tV l i x (by grind)
  grind [bQ]
theorem tU: ∀l i j x,i<j->(bQ l i x).drop j=l.drop j
 |[],_,_,_,_=>rfl
 |_::_,0,j+1,_,_=>rfl
 |a::l,i+1,j+1,x,h=>by
  have:=tU l i j x (by omega)
  grind [bQ]
theorem ya l i h:nth (strs l) i= .lit (.string l[i]):=by
 grind [aJ,strs]
theorem jQ{R j a l}(h:R.drop j=a::l):j<R.length/\nth R j=a/\R.drop (j+1)=l:=by
 grind [List.drop_eq_nil_of_le,List.drop_eq_getElem_cons,aJ]
def wm(a:ByteArray->Bool)(b:List _)(j:Int):=0<=j/\∃h,(∀s,s∈b.take j.toNat->a s=true)/\a b[j.toNat]=false
theorem rW{a b j}(h:wm a b j):b.filter a=b.take j.toNat++(b.drop (j.toNat+1)).filter a:=by
 obtain⟨_,c,e,d⟩:=h
 conv=>lhs;rw[←List.take_append_drop j.toNat b]
 rw[List.filter_append,ao3 c,List.filter_cons]
 simp_all
theorem oD: ∀R lo n z,(di R lo n z).take lo=R.take lo
 |[],_,_,_=>rfl
 |_::_,0,_,_=>by rfl
 |a::R,lo+1,n,z=>by simp[di,oD R _ n z]
def ee(s:ByteArray):List AV->Int->Int
 |[],_=> -1
 |a::l,i=>bif oh s (toStr a) then i else ee s l (i+1)
theorem zA s: ∀l i,0<=i->decide (ee s (strs l) i>=0)=l.contains s
 |[],i,_=>rfl
 |a::l,i,h=>by
  have b:=zA s l (i+1) (by omega);show decide ((bif oh s a then i else ee s (strs l) _)>=0)=_
  grind [TN]
mutual
def Tm.size:Tm->Int->Int
 | .mk _ s _ l,left=>bif decide ((1000:Int)<s.size) then -1 else js l (left - 1)
def js:List Tm->Int->Int
 |[],left=>left
 |t::l,left=>bif decide (0<=left) then js l (t.size left) else left
end
def dC(a:At) b:=bif decide ((1000:Int)<a.rel.size) then -1 else js a.l b
def sizeLt(l:Lt) b:=
 bif decide (0<=dC l.a (b - 1)) then bif decide (0<=l.x.size (dC l.a (b - 1))) then l.y.size (l.x.size (dC l.a (b - 1))) else l.x.size (dC l.a (b - 1)) else dC l.a (b - 1)
def l7:List Lt->Int->Int
 |[],a=>a
 |l::b,a=>bif decide (0<=a) then l7 b (sizeLt l a) else a
def oc(r:Rl) a:=l7 r.body (dC r.head (a - 1))
def oa:List Rl->Int->Int
 |[],a=>a
 |r::l,a=>bif decide (0<=a) then oa l (oc r a) else a
mutual
theorem Tm.size_le: ∀(t:Tm) (left:Int),0<=left-> -1<=t.size left/\t.size left<left\/t.size left= -1
 | .mk _ s _ l,left,h=>by
  unfold Tm.size;cases decide ((1000:Int)<s.size) with
  |true=>exact .inr rfl
  | false=>
   rw[an7];by_cases h1:0<=left - 1
   ·have:=pq l (left - 1) (by omega)
    omega
   ·have:=pq l (left - 1) (by omega)
    omega
theorem pq: ∀(l:List Tm) (left:Int), -1<=left-> -1<=js l left/\js l left<=left
 |[],left,h=>by unfold js;omega
 | t::l,left,h=>by
  unfold js;by_cases h1:0<=left
  ·rw[an8 h1,an9]
   have h2:=Tm.size_le t left h1;have h3:=pq l (t.size left) (by omega);omega
  ·rw[an6 h1,an7];omega
end
theorem po a b(h: -1<=b): -1<=dC a b/\(dC a b<=b\/dC a b= -1):=by
 unfold dC;cases decide ((1000:Int)<a.rel.size)<;>simp_all[pq]
theorem ub l b(h:0<=b): -1<=sizeLt l b/\sizeLt l b<b:=by
 unfold sizeLt;have e:=po l.a (b - 1) (by omega);by_cases c:0<=dC l.a (b - 1)
 ·rw[an8 c,an9]
  have f:=Tm.size_le l.x _ c;by_cases d:0<=l.x.size (dC l.a (b - 1))
  ·rw[an8 d,an9]
   have g:=Tm.size_le l.y _ d;omega
  grind
 grind
theorem DA: ∀b a, -1<=a-> -1<=l7 b a/\l7 b a<=a
 |[],a,h=>by grind [l7]
 | l::b,a,h=>by
  unfold l7;by_cases c:0<=a
  ·rw[an8 c,an9]
   have e:=ub l _ c;have d:=DA b (sizeLt l a) (by omega);omega
  grind
theorem xZ r a(h:0<=a): -1<=oc r a/\oc r a<a:=by
 unfold oc;have c:=po r.head (a - 1) (by omega);have b:=DA r.body (dC r.head (a - 1)) (by omega);omega
theorem DD: ∀l a, -1<=a-> -1<=oa l a/\oa l a<=a
 |[],a,h=>by grind [oa]
 | r::b,a,h=>by
  unfold oa;by_cases c:0<=a
  ·rw[an8 c,an9]
   have e:=xZ r _ c;have d:=DD b (oc r a) (by omega);omega
  grind
mutual
theorem Tm.wc: ∀(t:Tm) (left:Int),0<=t.size left->t.eT+t.size left<=left
 | .mk _ s _ l,left,h=>by
  unfold Tm.size at h⊢;cases e:decide ((1000:Int)<s.size) with
  |true=>rw[e] at h;simp at h
  |false=>
   rw[e,an7] at h;rw[an7,Tm.eT];have:=tg l (left - 1) h
   omega
theorem tg: ∀(l:List Tm) (left:Int),0<=js l left->aM l+js l left<=left
 |[],left,h=>by unfold js aM;omega
 | t::l,left,h=>by
  unfold js at h⊢;by_cases h1:0<=left
  ·rw[an8 h1,an9] at h⊢
   have h3:=tg l (t.size left) h;have h4:0<=t.size left:=by
    have h2:=Tm.size_le t left h1;have:=pq l (t.size left) (by omega)
    omega
   have h2:=Tm.wc t left h4;unfold aM;omega
  ·rw[an6 h1,an7] at h;omega
end
theorem zL a b(h:0<=dC a b):aM a.l+dC a b<=b:=by
 unfold dC at h⊢;cases e:decide ((1000:Int)<a.rel.size)<;>simp_all[tg]
theorem F9 l b(g:0<=b)(h:0<=sizeLt l b):1+jh l+sizeLt l b<=b:=by
 unfold sizeLt at h⊢;by_cases c:0<=dC l.a (b - 1)
 ·rw[an8 c,an9] at h⊢
  have f:=zL l.a (b - 1) c;by_cases d:0<=l.x.size (dC l.a (b - 1))
  ·rw[an8 d,an9] at h⊢
   have i:=Tm.wc l.x _ d;have e:=Tm.wc l.y _ h
   grind [jh,aM]
  grind
 grind
theorem zM: ∀b a, -1<=a->0<=l7 b a->b.length+(b.map jh).sum+l7 b a<=a
 |[],a,_,h=>by unfold l7;simp
 | l::b,a,d,h=>by
  unfold l7 at h⊢;by_cases c:0<=a
  ·rw[an8 c,an9] at h⊢
   have f:=ub l a c;have g:=zM b _ (by omega) h;have e:=F9 l a c (by omega)
   grind
  grind
def sI(r:Rl):=aM r.head.l+(r.body.map jh).sum
theorem J4 r a(c:0<=a)(h:0<=oc r a):sI r+r.body.length+1+oc r a<=a:=by
 unfold oc at h⊢;have d:=po r.head (a - 1) (by omega);have e:=zM _ _ (by omega) h;have b:=zL r.head (a - 1) (by omega)
 grind [sI]
theorem zN: ∀l a, -1<=a->0<=oa l a->∀r,r∈l->(sI r+r.body.length:Nat)<=a
 |[],_,_,_,r,b=>by simp at b
 | d::l,a,f,h,r,b=>by
  unfold oa at h;by_cases c:0<=a
  ·rw[an8 c,an9] at h
   have g:=xZ d a c;have e:=DD l (oc d a) (by omega);rcases List.mem_cons.1 b with rfl|b
   ·have:=J4 r a c (by omega)
    omega
   ·have:=zN l _ (by omega) h r b
    omega
  grind
theorem nO T d f c:aM (ae (bk T f c))=sI ⟨⟨d,ae f⟩,dB c⟩:=by
 have b: ∀l m,aM (l++m)=aM l+aM m:=by
  intro l;induction l with
  |nil=>simp[aM]
  |cons t l e=>simp only[List.cons_append,aM,e];omega
 unfold bk sI ae;rw[List.map_append,b];congr 1
 induction c with
 |nil=>rfl
 |cons a c e=>
  simp only[List.flatMap_cons,List.map_append,b,dB,ao9];congr 1
  simp only[jh,c9,Ls,ae,List.map_nil,sV]
def zf(l:List _):=l.any fun a=>decide ((1000:Int)<(toStr a).size)
def IM a:=decide ((1000:Int)<(toStr (af a 0)).size)||zf (aa (af a 1))
def pr(ds a:List _):=!ds.any IM&&(decide (0<=oa (a.map yD) 2000)&&(decide (ds.length<=100)&&decide (a.length<=300)))
def sx:ByteArray:=ByteArray.mk #[120]
def sy:ByteArray:=ByteArray.mk #[121]
def s0:ByteArray:=ByteArray.mk #[]
def ti(n:Int):Tm:= .mk 2 s0 n []
end Go.Rl
namespace Go.Proofs.YtioeffnadipbaaaGreatDoor
open Go Go.Dn Go.Rl Go.Proofs
attribute [local irreducible] a8 vc
set_option maxRecDepth 20000
def WY:=[
 (3,[(17,[(1,none),(2,none),(5,none),(6,none),(8,none),(10,none),(11,none),(12,none)]),(18004,[(1,none),(2,none),(5,none),(6,none),(8,none)]),(18001,[(4,none)]),(8,[(1,none),(2,none),(5,none),(6,none),(8,none)]),(9002,[(1,none),(2,none),(5,none),(6,none)]),(9001,[(4,none)])]),
 (6,[(10,[(2,none),(7,none),(8,none),(10,none),(11,none),(12,none),(13,none)]),(11002,[(2,none),(7,none),(8,none),(10,none),(11,none),(12,none)])]),
 (7,[(13,[(7,none),(9,none),(11,none),(13,none)]),(14002,[(7,none)]),(14001,[(6,none)])]),
 (8,[(17,[(2,none),(5,none),(6,none),(13,none)]),(18004,[(5,none)]),(18001,[(4,none)]),(11,[(1,none),(2,none),(5,none),(6,none),(10,none)]),(12002,[(2,none),(5,none),(6,none)]),(12001,[(4,none)])]),
 (10,[(6,[(1,none),(2,none),(3,none),(7,none),(8,none),(9,none)]),(7002,[(1,none),(2,none),(3,none),(7,none),(8,none)])]),
 (12,[(22,[(1,none),(8,none),(9,none),(10,none)]),(23008,[(1,none),(8,none),(9,none)]),(23001,[(4,none)]),(16,[(1,none),(8,none),(9,none)]),(17006,[]),(17001,[(4,none)]),(8,[(1,none),(2,none),(5,none),(6,none),(7,none)]),(9004,[(1,none),(2,none),(5,none),(6,none)]),(4,[(1,none),(2,none),(5,none)]),(5002,[(1,none)]),(5001,[(4,none)])]),
 (16,[(9,[(0,none),(1,none),(5,none),(6,none)]),(10004,[(0,none),(1,none),(5,none)]),(10001,[(4,none)]),(4,[(0,none),(1,none),(5,none)]),(5002,[]),(5001,[(4,none)])]),
 (18,[(15,[(7,none),(10,none),(11,none),(13,none),(49,none),(50,none),(51,none)]),(16004,[(7,none),(10,none),(11,none),(13,none)]),(11,[(7,none),(10,some 35),(11,none),(12,none)]),(12002,[(10,none)])]),
 (19,[(17,[(2,none),(3,none),(11,none),(15,none),(50,none),(51,none),(52,none)]),(18007,[(2,none),(3,none),(11,none),(50,none),(51,none),(52,none)]),(15,[(2,none),(3,none),(11,none),(50,none),(51,none),(52,none)]),(16005,[(2,none),(11,none)]),(10,[(2,none),(3,none),(8,none),(11,some 51),(38,none),(39,none),(40,none)]),(11003,[(2,none),(3,none),(8,none),(11,none)])]),
 (20,[(4,[(0,none),(1,none),(5,none)]),(5002,[]),(5001,[(4,none)])]),
 (21,[(5,[(1,none),(3,none),(4,none)]),(6004,[(1,none),(3,none)]),(6001,[(2,none)]),(2,[(1,none),(3,none)]),(3002,[]),(3001,[(2,none)])]),
 (23,[(4,[(2,none),(18,none),(19,none),(20,none)]),(5002,[]),(5001,[(4,none)])]),
 (25,[(2,[(0,none),(1,none),(6,none)]),(3002,[]),(3001,[(4,none),(5,none)])]),
 (26,[(10,[(1,none),(2,none),(6,none),(7,none)]),(11004,[(1,none),(2,none),(6,none)]),(11001,[(4,none)]),(5,[(1,none),(2,none),(6,none)]),(6002,[]),(6001,[(4,none)])]),
 (29,[(8,[(1,none),(3,none),(5,none)]),(9004,[(1,none),(3,none)]),(3,[(1,none),(3,none),(4,none)]),(4002,[(1,none),(3,none)]),(4001,[(2,none)])]),
 (30,[(2,[(0,none),(3,none)]),(3002,[]),(3001,[(2,none)])]),
 (31,[(5,[(20,none),(21,none),(22,none)]),(6002,[]),(6001,[(2,none),(3,none)])]),
 (32,[(5,[(2,none),(3,none),(4,none),(7,none),(35,none),(36,none),(37,none)]),(6002,[(4,none),(7,none)])]),
 (35,[(4,[(2,none),(3,none),(6,some 72),(26,none),(27,none),(28,none)]),(5002,[(3,none),(6,none)])]),
 (37,[(2,[(0,none),(3,none)]),(3002,[]),(3001,[(2,none)])]),
 (42,[(8,[(3,none),(45,none),(46,none)]),(9004,[(3,none)])]),
 (43,[(2,[(0,none),(3,none),(11,none),(12,none),(13,none)]),(3002,[]),(3001,[(4,none),(5,none)])]),
 (44,[(6,[(0,none),(1,none),(5,none),(11,none),(12,none),(25,none)]),(7004,[(5,none)]),(7003,[(0,none),(1,none),(11,none),(12,none)]),(2,[(0,none),(1,none),(11,none),(12,none)]),(3002,[]),(3001,[(4,none)])]),
 (45,[(3,[(0,none),(1,none),(5,some 3),(11,none),(12,none)]),(4002,[(5,none)])]),
 (46,[(3,[(1,none),(2,none),(3,none),(4,none),(9,none),(16,none),(17,none),(18,none)]),(4002,[(9,none)]),(4001,[(8,none)])]),
 (47,[(3,[(3,none),(6,none),(7,none),(8,none)]),(4002,[(3,none)])]),
 (49,[(7,[(1,none),(2,none),(9,none),(10,none),(11,none),(21,none),(22,none),(23,none)]),(8004,[(1,none),(2,none),(9,none),(10,none),(11,none)]),(8001,[(4,none)]),(2,[(1,none),(2,none),(9,none),(10,none),(11,none)]),(3002,[(1,none)]),(3001,[(4,none)])]),
 (51,[(2,[(0,none),(3,none)]),(3002,[]),(3001,[(2,none)])]),
 (53,[(3,[(0,none),(1,none),(2,none),(8,none),(9,none),(10,none)]),(4002,[(0,none),(1,none),(2,none),(8,none),(9,none)])]),
 (55,[(3,[(3,some 70),(6,none),(7,none),(8,none)]),(4002,[(3,none)])]),
 (59,[(2,[(0,none),(3,none)]),(3002,[]),(3001,[(2,none)])]),
 (60,[(3,[(1,none),(2,none),(5,none)]),(4002,[(1,none)])]),
 (61,[(11,[(1,none),(38,none),(39,none),(40,none)]),(12004,[]),(12001,[(2,none),(3,none)]),(4,[(1,none),(16,none),(17,none),(18,none)]),(5002,[(1,none)]),(5001,[(2,none),(3,none)])]),
 (64,[(3,[(3,some 38),(6,none),(7,none),(8,none)]),(4002,[(3,none)])]),
 (65,[(8,[(2,none),(8,none),(32,none),(33,none),(34,none)]),(9003,[(2,none),(8,none)])]),
 (69,[(4,[(1,none),(2,none),(15,none),(16,none),(17,none)]),(5002,[]),(5001,[(6,none)])]),
 (71,[(4,[(1,none),(2,none),(15,none),(16,none),(17,none)]),(5002,[]),(5001,[(6,none)])]),
 (80,[(9,[(0,none),(1,none),(5,none),(6,none),(7,none)]),(10004,[(0,none),(5,none)]),(4,[(0,none),(1,none),(5,none)]),(5002,[(0,none)]),(5001,[(4,none)])]),
 (82,[(0,[(0,none),(1,none),(2,none)]),(1002,[]),(1001,[])]),
 (86,[(3,[(0,none),(5,none),(6,some 3)]),(4002,[(5,none)])]),
 (94,[(4,[(1,none),(31,none),(32,none),(33,none)]),(5002,[]),(5001,[(2,none)])]),
 (98,[(4,[(2,none),(3,none),(6,some 72),(26,none),(27,none),(28,none)]),(5002,[(3,none),(6,none)])]),
 (99,[(2,[(0,none),(1,none),(5,none)]),(3002,[(0,none),(1,none)]),(3001,[(4,none)])]),
 (100,[(2,[(0,none),(1,none),(2,none),(11,none),(12,none),(13,none)]),(3002,[(0,none),(1,none)]),(3001,[(6,none)])]),
 (104,[(4,[(1,none),(2,none),(5,none)]),(5002,[(1,none)])]),
 (105,[(5,[(1,none),(2,none),(5,none)]),(6002,[(1,none)])]),
 (106,[(11,[(6,none),(8,some 3),(36,none),(37,none),(38,none)]),(12004,[(8,none)]),(12001,[(4,none),(5,none)]),(4,[(3,none),(6,none)]),(5002,[(3,none),(6,none)]),(5001,[(4,none),(5,none)])]),
 (109,[(2,[(0,none),(1,none),(7,none),(8,none)]),(3002,[]),(3001,[(4,none)])]),
 (112,[(1,[(0,none),(6,none),(7,none),(8,none)]),(2002,[])]),
 (114,[(5,[(0,none),(1,none),(5,none),(6,none)]),(6002,[(0,none),(5,none)])]),
 (119,[(2,[(0,none),(1,none),(7,none),(8,none)]),(3002,[]),(3001,[(4,none)])]),
 (120,[(4,[(0,none),(1,none),(12,none),(13,none)]),(5002,[]),(5001,[(4,none)])]),
 (121,[(4,[(0,none),(1,none),(12,none),(13,none)]),(5002,[]),(5001,[(4,none)])]),
 (122,[(17,[(0,none),(3,none),(5,none),(10,none),(11,none),(44,none),(45,none),(46,none),(72,none),(73,none),(74,none)]),(18008,[(0,none),(3,none),(5,none),(11,none),(44,none),(45,none),(46,none)]),(18005,[(0,none),(3,none),(5,none),(44,none),(45,none),(46,none)]),(12,[(0,none),(3,none),(5,none),(10,none),(11,none),(44,none),(45,none),(46,none),(52,none),(53,none),(54,none)]),(13006,[(0,none),(3,none),(5,none),(10,none),(11,none),(44,none),(45,none),(46,none)]),(8,[(0,none),(3,none),(5,none),(44,none),(45,none),(46,none)]),(9004,[]),(9001,[]),(3,[(0,none),(1,none),(2,none),(3,none),(5,none),(6,some 72),(25,none),(26,none),(27,none)]),(4002,[(0,none),(1,none),(2,none),(3,none),(5,none),(6,none)])]),
 (123,[(7,[(1,none),(2,none),(7,none),(8,none),(10,none),(18,none),(19,none),(20,none),(26,none),(27,none),(28,none)]),(8004,[(1,none),(2,none),(7,none),(8,none),(10,none),(18,none),(19,none),(20,none)]),(8003,[(1,none),(2,none),(7,none),(8,none),(18,none),(19,none),(20,none)]),(4,[(1,none),(2,none),(7,none),(8,some 70),(18,none),(19,none),(20,none)]),(5002,[(8,none)])]),
 (126,[(5,[(0,none),(3,none),(4,none)]),(6002,[(3,none)])]),
 (127,[(5,[(0,none),(3,none),(4,none)]),(6002,[(3,none)])]),
 (128,[(9,[(0,none),(1,none),(2,none),(6,none),(7,none),(8,none)]),(10006,[(0,none),(1,none),(2,none),(6,none),(7,none)]),(7,[(0,none),(1,none),(2,none),(6,none)]),(8004,[]),(2,[(0,none),(1,none),(2,none),(6,none),(7,none),(8,none)]),(3002,[(0,none),(1,none),(2,none),(6,none),(7,none)])]),
 (129,[(5,[(0,none),(1,none),(5,none),(12,none),(13,none),(14,none),(28,none),(29,none),(30,none)]),(6004,[(0,none),(1,none),(12,none),(13,none),(14,none)]),(6001,[]),(1,[(0,none),(1,none),(12,none),(13,none),(14,none)]),(2002,[]),(2001,[])]),
 (131,[(2,[(0,none),(1,none),(7,none),(8,none)]),(3002,[]),(3001,[(4,none)])]),
 (138,[(4,[(18,none)]),(5002,[]),(5001,[(2,none)])]),
 (147,[(13,[(11,none),(45,none),(46,none),(47,none)]),(14005,[(11,none)])]),
 (152,[(3,[(0,none),(5,none),(14,none),(15,none),(16,none)]),(4002,[(5,none)]),(4001,[(4,none)])]),
 (155,[(3,[(3,some 9),(6,none),(7,none),(8,none)]),(4002,[(3,none)])]),
 (156,[(12,[(6,none),(26,none),(27,none),(28,none)]),(13004,[(6,none)]),(3,[(0,none),(3,none),(9,none),(10,none),(11,none)]),(4002,[(0,none),(3,none)])]),
 (158,[(17,[(1,none),(2,none),(43,none),(44,none),(45,none)]),(18005,[]),(18001,[(6,none)]),(1,[(0,none),(1,none),(2,none)]),(2001,[(6,none)])]),
 (159,[(4,[(1,none),(2,none),(5,none),(17,none),(18,none),(19,none)]),(5002,[(1,none),(2,none),(5,none)])]),
 (161,[(2,[(0,none),(1,none),(7,none),(8,none)]),(3002,[]),(3001,[(4,none)])]),
 (166,[(4,[(0,none),(1,none),(2,none),(3,none),(8,none),(9,none)]),(5004,[(0,none),(1,none),(2,none),(3,none),(8,none)]),(1,[(0,none),(1,none),(2,none),(3,none),(8,none)]),(2002,[])]),
 (167,[(33,[(0,none),(1,none),(2,none),(3,none),(4,none),(18,none),(19,none),(20,none),(21,none),(22,none)]),(34010,[(0,none),(1,none),(2,none),(3,none),(4,none),(18,none),(19,none),(20,none)]),(21,[(0,none),(14,none),(17,none)]),(22008,[]),(15,[(0,none),(2,none),(4,none),(14,none),(15,none)]),(16006,[(0,none),(2,none),(14,none)]),(9,[(0,none),(10,none),(13,none)]),(10004,[]),(3,[(0,none),(1,none),(4,none),(10,none),(11,none)]),(4002,[(0,none),(1,none),(10,none)])]),
 (168,[(2,[(0,none),(1,none),(7,none),(8,none)]),(3002,[]),(3001,[(4,none)])]),
 (169,[(3,[(0,none),(1,none),(3,none),(4,none),(13,none),(14,none)]),(4002,[]),(4001,[])]),
 (170,[(3,[(1,none),(2,none),(3,none),(7,none),(11,none),(12,none),(13,none)]),(4002,[(7,none)]),(4001,[(6,none)])]),
 (171,[(7,[(0,none),(57,none),(58,none),(59,none)]),(8004,[]),(8001,[]),(2,[(0,none),(1,none),(25,none),(26,none),(27,none)]),(3002,[(0,none),(1,none)]),(3001,[])]),
 (172,[(4,[(24,none),(25,none),(26,none)]),(5002,[]),(5001,[(2,none)])]),
 (176,[(5,[(0,none),(2,none),(3,none),(6,none),(7,none),(10,none),(11,none),(12,none),(18,none),(19,none),(20,none)]),(6004,[(0,none),(2,none),(3,none),(7,none),(10,none),(11,none),(12,none)]),(6003,[(0,none),(2,none),(3,none),(10,none),(11,none),(12,none)]),(1,[(0,none),(2,none),(3,none),(10,none),(11,none),(12,none)]),(2002,[]),(2001,[])]),
 (178,[(2,[(0,none),(1,none),(5,none)]),(3002,[(0,none),(1,none)]),(3001,[(4,none)])]),
 (179,[(1,[(0,none),(2,none),(3,none)]),(2002,[])]),
 (180,[(7,[(0,none),(5,none),(40,none),(41,none),(42,none)]),(8003,[]),(8001,[(4,none)])]),
 (185,[(8,[(2,none),(32,none),(33,none),(34,none)]),(9004,[]),(9001,[]),(3,[(2,none),(3,some 38),(14,none),(15,none),(16,none)]),(4002,[(2,none),(3,none)])]),
 (188,[(1,[(0,none),(6,none),(7,none),(8,none)]),(2002,[]),(2001,[])]),
 (189,[(2,[(0,none),(1,none),(7,none),(8,none)]),(3002,[]),(3001,[(4,none)])]),
 (190,[(2,[(0,none),(2,none),(4,none),(10,none),(11,none)]),(3002,[(0,none),(2,none),(4,none),(10,none)])]),
 (192,[(10,[(1,none),(49,none),(50,none),(51,none)]),(11003,[]),(11001,[(4,none)])]),
 (193,[(2,[(5,none),(6,none),(7,none)]),(3002,[]),(3001,[(2,none)])]),
 (196,[(2,[(0,none),(2,none),(4,none),(12,none),(13,none),(14,none)]),(3002,[(0,none),(2,none),(4,none)]),(3001,[(6,none)])]),
 (198,[(3,[(2,none),(11,none),(12,none),(13,none)]),(4002,[]),(4001,[])]),
 (199,[(1,[(0,none),(1,none),(2,none),(3,none),(10,none)]),(2002,[])]),
 (200,[(3,[(3,some 9),(7,none),(8,none),(9,none)]),(4002,[(3,none)])])
 ]
def lk2(k:Nat):List (Nat×List (Nat×Option Nat))->List (Nat×Option Nat)
 |[]=>[]
 |(j,l)::r=>bif Nat.beq j k then l else lk2 k r
def lk1(f k:Nat):List (Nat×List (Nat×List (Nat×Option Nat)))->List (Nat×Option Nat)
 |[]=>[]
 |(g,l)::r=>bif Nat.beq g f then lk2 k l else lk1 f k r
def live(f k:Nat):List (Nat×Option TypeId):=lk1 f k WY
structure Kp where
 tree:Addr
 stuck:Addr
 T1:TypeId
 T2:TypeId
 z1:Nat×Nat
 z2:Nat×Nat
 fX:Addr
 arity:Addr
 type:Addr
 T3:TypeId
 T4:TypeId
 T5:TypeId
 z3:Nat×Nat
 z4:Nat×Nat
 z5:Nat×Nat
 c3:Array Value
 c4:Array Value
 c5:Array Value
 t3:TypeId
 t4:TypeId
 t5:TypeId
 d1:fX≠arity
 d2:fX≠type
 d3:arity≠type
 n3: ∀g,g∈[1,0,3,4,2]->fX.block≠g
 n4: ∀g,g∈[1,0,3,4,2]->arity.block≠g
 n5: ∀g,g∈[1,0,3,4,2]->type.block≠g
def ZZ(κ:Kp):Value:= .iface 273 (.pointer (some κ.tree))
def mF(κ:Kp):Value:= .iface 273 (.pointer (some κ.stuck))
def za(κ:Kp)(b:Nat):Option Go.Obj:=
 bif Nat.beq b 1 then some (.cells #[.iface 273 (.pointer (some κ.tree))] κ.T1 κ.z1)
 else bif Nat.beq b 0 then some (.cells #[.iface 273 (.pointer (some κ.stuck))] κ.T2 κ.z2)
 else bif Nat.beq b 3 then some (.cells #[.iface 273 (.pointer (some κ.fX))] κ.T3 κ.z3)
 else bif Nat.beq b 4 then some (.cells #[.iface 273 (.pointer (some κ.arity))] κ.T4 κ.z4)
 else bif Nat.beq b 2 then some (.cells #[.iface 273 (.pointer (some κ.type))] κ.T5 κ.z5)
 else bif Nat.beq b κ.fX.block then some (.cells κ.c3 κ.t3 (0,0))
 else bif Nat.beq b κ.arity.block then some (.cells κ.c4 κ.t4 (0,0))
 else bif Nat.beq b κ.type.block then some (.cells κ.c5 κ.t5 (0,0))
 else none
def az(κ:Kp)(a:Bool):Value:=bif a then .nilIface else .iface 273 (.pointer (some κ.tree))
theorem nC κ b:aC (az κ b)=true:=by cases b<;>rfl
theorem qR κ b:bM (az κ b)=b:=by cases b<;>rfl
theorem oY κ b:bg (az κ b)=true:=by cases b<;>rfl
noncomputable abbrev Pr(κ:Kp):Pg:={toProgram:=Tryz.prog,kept:=za κ}
theorem zB:qH Tryz.prog:=Qy (by rfl)
def af5:=[139,182,161,183,187,162,186,135,184,116,92,109,93,67,119,95,110,133,168,134,84,132,111,163,118,999999,999999]
def ai1:=[114,170,999999,999999,999999,999999,999999]
def Uv:=[174,138,201,194,195,173,192,172,175,193,96,164,189,137,999999,999999,999999,29,105,104,60,59,999999,999999,999999,999999,999999,999999,999999,999999,999999,999999,999999,999999,999999,999999,999999,999999,999999,999999,94,48,999999,999999,999999,999999,999999,999999,999999,153,130,90,88,85,131,999999,999999,999999,999999,999999,999999]
def TS:=[155,200,160,115,106,999999]
def WI:=[86]
noncomputable def E0 κ:=((Env.none (Pr κ) live (fun f=>ic f af5) (fun f=>ic f ai1) fun f=>ic f Uv).jM fun f=>ic f TS).jx fun f=>ic f WI
theorem e0 κ:aF (E0 κ):=((aF.none zB).jM _).jx _
theorem m0 κ:aj (E0 κ):=(aj.none.jM _).jx _
theorem y48 κ op K:(a8 (E0 κ) 12 174 [.int op] [] K)=(
 an (op==(5:Int)) (K (AV.bool true) []) (an (op==(6:Int)) (K (AV.bool true) []) (K (AV.bool (op==(7:Int))) []))):=by kernel_rfl
def g48:List AV->Option (Bool×AV)
 |[.lit (.int .i64 a)]=>some (true, .bool (lQ a))
 |_=>none
theorem p48 κ:cg (E0 κ) 12 174 g48:=by
 intro a x h;unfold g48 at h;split at h
 ·simp   at h
  subst h;refine⟨_,rfl,rfl,?_⟩
  grind [y48,lQ,ag]
 grind
noncomputable def Pe κ:=(E0 κ).aV 174 g48
theorem e48 κ:aF (Pe κ):=(e0 _).aV (m0 _) (p48 _)
theorem m48 κ:aj (Pe κ):=(m0 _).aV
theorem x57 κ s p I n K:(vc (Pe κ) 12 138 none 0 (ah (Pr κ).toProgram 138 4) (sp 55 [(18, .ptr 0 0 [] 0)] [.dy s p]) (bh (Pe κ) 138 4 0 I n K))=(
 letI b:=∃(e0:Nat),e0<n/\I e0 (sp 55 [(18,AV.ptr 0 0 [] 0)] [Obj.dy s (p+Prod.snd (Utf8.decode s p))])
 letI a:=Prod.fst (Utf8.decode s p)
 letI c:=K Exit.ret (sp 55 [(2,AV.bool false)] [])
 letI d:=an (!(↑a:Int)==(95:Int)) (an ((↑p:Int)==(0:Int)) c (an (decide ((↑a:Int)<(48:Int))) c (an (decide ((↑a:Int)>(57:Int)))
  c b))) b
 letI e:=an (decide ((↑a:Int)>=(65:Int))) (an (decide ((↑a:Int)<=(90:Int))) b d) d
 an (Nat.blt p (ByteArray.size s)) (an (decide ((↑a:Int)>=(97:Int))) (an (decide ((↑a:Int)<=(122:Int))) b e) e) (K (Exit.exit 0) (sp 55 [] []))):=by kernel_rfl
abbrev UK(a:ByteArray×Nat):=sp 55 [(18, .ptr 0 0 [] 0)] [.dy a.1 a.2]
noncomputable def CY(a:ByteArray×Nat):Out (Exit×S):=
 .an (nameAt a.1 a.2) (.one (.exit 0,sp 55 [] [])) (.one (.ret,sp 55 [(2, .bool false)] []))
theorem l57 κ:aP (Pe κ) 12 138 4 (aI 0 UK (fun _=>True) CY):=by
 refine aD (fun a=>a.1.size - a.2) ?_;rintro⟨s,p⟩ K - f;rw[show(Pe κ).P=Pr κ from rfl,x57];simp only[CY,Out.run,ag] at f;have b: ∀c:Int,c=(Utf8.decode s p).1->p<s.size->(letter c||(!(decide ((p:Int)=0)||decide (c<48)||decide ((57:Int)<c))))=true->
   ∃m,m<s.size - p/\gq UK (fun _=>True) CY (fun a=>a.1.size - a.2) K m (sp 55 [(18, .ptr 0 0 [] 0)] [.dy s (p+(Utf8.decode s p).2)]):=by
  rintro c rfl d g;have:=zW s p
  refine⟨s.size - (p+(Utf8.decode s p).2),by omega,(s,p+(Utf8.decode s p).2),rfl,trivial,rfl,?_⟩;rw[nameAt,dif_pos d,g,ao7] at f;simpa only[CY,Out.run,ag] using f
 have e: ∀c:Int,c=(Utf8.decode s p).1->p<s.size->(letter c||(!(decide ((p:Int)=0)||decide (c<48)||decide ((57:Int)<c))))=false->K Exit.ret (sp 55 [(2, .bool false)] []):=by
  rintro c rfl d g;rw[nameAt,dif_pos d,g,Bool.false_and] at f;exact f.2 rfl
 have b:=b _ rfl;have e:=e _ rfl;generalize ((Utf8.decode s p).1:Int)=c at*
 simp only[ag,Nat.blt_eq,an2,an4,beq_iff_eq,beq_eq_false_iff_ne,Bool.not_eq_true',ao4,bne_iff_ne];refine⟨fun d=>?_,fun d=>f.1 ?_⟩
 ·have b:=b d
  have e:=e d;simp only[letter,Bool.or_eq_true,an3,Bool.not_eq_true',Bool.or_eq_false_iff,Bool.and_eq_false_iff,ao4,an2,an4] at b e
  simp_all
 ·have d: ¬ p<s.size:=fun h=>by rw[show Nat.blt p s.size=true from by rw[Nat.blt_eq];exact h] at d;cases d
  rw[nameAt,dif_neg d]
noncomputable def K7 κ:=(Pe κ).aq 138 4 (aI 0 UK (fun _=>True) CY)
theorem ad9 κ:aF (K7 κ):=(e48 _).aq (m48 _) (l57 _)
theorem Xl κ:aj (K7 κ):=(m48 _).aq a0
theorem y57 κ s K:(a8 (K7 κ) 12 138 [.lit (.string s)] [] K)=(
 letI a:=K (AV.bool false) []
 letI b:=Pg.toProgram (Env.P (Pe κ))
 an (ByteArray.toList s==ByteArray.toList {data:= #[]}) a (an (ByteArray.toList s==ByteArray.toList {data:= #[OfNat.ofNat 95]}) a (an (decide ((↑(ByteArray.size s):Int)>(40:Int))) a (ah b 138 4=ah b 138 4/\∃(e0:ByteArray×Nat),sp 55 [(18,AV.ptr 0 0 [] 0)] [Obj.dy s 0]=sp 55 [(18,AV.ptr 0 0 [] 0)] [Obj.dy e0.1 e0.2]/\True/\an (nameAt e0.1 e0.2) (K (AV.bool true) []) a)))):=by kernel_rfl
def g57:List AV->Option (Bool×AV)
 |[.lit (.string s)]=>some (true, .bool (isName s))
 |_=>none
theorem p57 κ:cg (K7 κ) 12 138 g57:=by
 intro c x h;unfold g57 at h;split at h
 ·rename_i s
  simp only[an5,ao1,true_and] at h;subst h;refine⟨_,rfl,rfl,?_⟩;rw[y57];unfold isName oh;simp only[ag,an2,an4];refine⟨fun a=>by rw[a];rfl,fun a=>⟨fun b=>by rw[a,b];rfl,fun b=>⟨fun d=>?_,fun d=>⟨trivial,⟨s,0⟩,rfl,trivial,fun e=>?_,fun e=>?_⟩⟩⟩⟩
  ·rw[a,b,an8 (show(40:Int)<s.size from d)];rfl
  ·simp_all
  grind
 ·cases h
noncomputable def V1 κ:=(K7 κ).aV 138 g57
theorem e57 κ:aF (V1 κ):=(ad9 _).aV (Xl _) (p57 _)
theorem m57 κ:aj (V1 κ):=(Xl _).aV
theorem y64 κ op s n l K:(a8 (V1 κ) 12 201 [.agg [.int op, .lit (.string s), .int n, .ad 38 l]] [] K)=(
 letI a:=K (AV.bool (n==(0:Int))) []
 letI b:=K (AV.bool false) []
 letI c:=ByteArray.toList s==ByteArray.toList {data:= #[]}
 an (op==(1:Int)) (an (isName s) a b) (an (op==(2:Int)) (K (AV.bool c) []) (an (op==(3:Int)) a (an (op==(4:Int)) (an c a b) (an (op==(0:Int)) (an (ByteArray.toList s==ByteArray.toList {data:= #[]}) a b) b))))):=by kernel_rfl
def g64:List AV->Option (Bool×AV)
 |[.agg [.lit (.int .i64 a), .lit (.string s), .lit (.int .i64 n), .ad 38 _]]=>some (true, .bool (bare a s n))
 |_=>none
theorem p64 κ:cg (V1 κ) 12 201 g64:=by
 intro b x h;unfold g64 at h;split at h
 ·rename_i a s n l
  simp only[an5,ao1,true_and] at h;subst h;refine⟨_,rfl,rfl,?_⟩;rw[y64];have e: ∀k:Int,(a==k)=decide (a=k):=fun k=>by by_cases h:a=k<;>simp[h]
  simp only[e];cases d:isName s<;>cases f:(ByteArray.toList s==ByteArray.toList (ByteArray.mk #[]))<;>
  by_cases g:a=1<;>by_cases i:a=2<;>by_cases j:a=3<;>by_cases m:a=4<;>by_cases c:a=0<;>
  (simp only[an,bare,oh,d,f,g,i,j,m,c];rfl)
 ·cases h
noncomputable def Pm κ:=(V1 κ).aV 201 g64
theorem ZW κ:aF (Pm κ):=(e57 _).aV (m57 _) (p64 _)
theorem m64 κ:aj (Pm κ):=(m57 _).aV
theorem WX(l:List AV):((l.length:Int)==0)=decide ((l.length:Int)=0):=rfl
theorem y60 κ op s n l K:(a8 (Pm κ) 12 194 [.agg [.int op, .lit (.string s), .int n, .ad 38 l]] [] K)=(
 an (op==(0:Int)) (an (bare op s n) (K (AV.bool ((↑(l.length):Int)==(0:Int))) []) (K (AV.bool false) [])) (K (AV.bool false) [])):=by kernel_rfl
theorem y61 κ s l K:(a8 (Pm κ) 12 195 [.agg [.lit (.string s), .ad 38 l]] [] K)=(
 an (ByteArray.toList s==ByteArray.toList {data:= #[]}) (K (AV.bool ((↑(l.length):Int)==(0:Int))) []) (K (AV.bool false) [])):=by kernel_rfl
theorem y47 κ b K:(a8 (Pm κ) 12 173 [.bool b] [] K)=(
 an b (K (AV.lit Value.nilIface) []) (K (AV.lit (Value.iface 273 (Value.pointer (some (Kp.tree κ))))) [])):=by kernel_rfl
def g60:List AV->Option (Bool×AV)
 |[.agg [.lit (.int .i64 a), .lit (.string s), .lit (.int .i64 n), .ad 38 l]]=>some (true, .bool (decide (a=0)&&bare a s n&&decide ((l.length:Int)=0)))
 |_=>none
theorem p60 κ:cg (Pm κ) 12 194 g60:=by
 intro a x h;unfold g60 at h;split at h
 ·simp only[an5,ao1,true_and] at h
  subst h;refine⟨_,rfl,rfl,?_⟩
  simp_all[y60,WX,ag]
 grind
def g61:List AV->Option (Bool×AV)
 |[.agg [.lit (.string s), .ad 38 l]]=>some (true, .bool (oh s (ByteArray.mk #[])&&decide ((l.length:Int)=0)))
 |_=>none
theorem p61 κ:cg (Pm κ) 12 195 g61:=by
 intro a x h;unfold g61 at h;split at h
 ·simp[an5,ao1,true_and] at h
  subst h;refine⟨_,rfl,rfl,?_⟩
  simp_all[y61,oh,WX,ag]
 grind
def g47(κ:Kp):List AV->Option (Bool×AV)
 |[.lit (.bool b)]=>some (true, .lit (az κ b))
 |_=>none
theorem p47 κ:cg (Pm κ) 12 173 (g47 κ):=by
 intro a x h;unfold g47 at h;split at h
 ·rename_i b
  simp   at h;subst h;refine⟨_,rfl,oY _ b,?_⟩;rw[y47];cases b<;>rfl
 grind
noncomputable def ZQ κ:=(((Pm κ).aV 194 g60).aV 195 g61).aV 173 (g47 κ)
theorem e47 κ:aF (ZQ κ):=(((ZW _).ej (lq (ZW κ) (m64 κ) (p60 κ))).ej (lq (ZW _) (m64 _) (p61 κ))).ej (lq (ZW κ) (m64 κ) (p47 κ))
theorem m47 κ:aj (ZQ κ):=(m64 _).aV.aV.aV
def Vy(κ:Kp):List AV->Option (Bool×AV)
 |[.agg [.lit (.int .i64 a), .lit (.string s), .lit (.int .i64 n), .ad 38 l], .lit (.int .i64 h)]=>some (decide (0<=h)&&decide (h<=1000), .lit (az κ (ak h.toNat (.mk a s n (ae l)))))
 |_=>none
def KA:List AV->Nat
 |[_, .lit (.int .i64 h)]=>h.toNat
 |_=>0
noncomputable def Ep κ n:=(ZQ κ).aV 192 (below (Vy κ) KA n)
theorem x58 κ r h l i I n K:(vc (Ep κ r) 12 192 none 0 (ah (Pr κ).toProgram 192 10) (sp 72 [(1, .int h),(49, .ad 38 l),(50, .int l.length),(51, .int i)] []) (bh (Ep κ r) 192 10 0 I n K))=(
 letI a:=IntKind.wrap IntKind.i64
 letI b:=AV.int
 letI c:=nth l i.toNat
 letI f:=K Exit.ret (sp 72 [(4,AV.lit (Value.iface 273 (Value.pointer (some (Kp.tree κ)))))] [])
 letI g:=i<(↑(l.length):Int)
 letI d:=h - (1:Int)
 letI j:=a d
 letI e:=az κ (ak (Int.toNat j) (Tm.mk (toInt (af c 0)) (toStr (af c 1)) (toInt (af c 2)) (ae (aa (af c 3)))))
 an (decide g) (aG (decide ((0:Int)<=i)&&decide g) (an (toInt (af c 0)==(3:Int)) f (an (toInt (af c 0)==(4:Int)) f (aG (decide ((0:Int)<=
 a d)&&decide (a d<=(1000:Int))&&Nat.blt (KA [AV.agg [b (toInt (af c 0)),AV.str (toStr (af c 1)),
 b (toInt (af c 2)),AV.ad 38 (aa (af c 3))],b j]) r) (aG (aC e) (an (!bM e) (K Exit.ret (sp 72 [(4,AV.lit e)] [])) (∃(e0:Nat),e0<n/\I
 e0 (sp 72 [(1,b h),(49,AV.ad 38 l),(50,b (↑(l.length):Int)),(51,b (a (i+(1:Int))))] [])))))))) (K (Exit.exit
 1) (sp 72 [] []))):=by kernel_rfl
abbrev YK(a:Int×List _×Int):=sp 72 [(1, .int a.1),(49, .ad 38 a.2.1),(50, .int a.2.1.length),(51, .int a.2.2)] []
def NB r(a:Int×List AV×Int):=1<=a.1/\a.1<=1000/\a.1.toNat<=r/\a.2.1.length<=aU/\0<=a.2.2/\a.2.2<=a.2.1.length
noncomputable def Hi(κ:Kp)(a:Int×List AV×Int):Out (Exit×S):=
 .an (lX (a.1 - 1).toNat (ae (a.2.1.drop a.2.2.toNat))) (.one (.exit 1,sp 72 [] [])) (.one (.ret,sp 72 [(4, .lit (az κ false))] []))
theorem l58 κ r:aP (Ep κ r) 12 192 10 (aI 0 YK (NB r) (Hi κ)):=by
 refine aD (fun a=>a.2.1.length - a.2.2.toNat) ?_;rintro⟨h,l,i⟩ K ⟨k,m,p,f,q,s⟩ b;simp only at k m p f q s;rw[show(Ep κ r).P=Pr κ from rfl,x58];simp only[Hi,Out.run,ag] at b;rw[ay (n:=h - 1) (by omega) (by omega)];simp only[aU] at f;simp only[nC,qR];simp only[←cF];simp only[ag,ai,an2,an4,an3,beq_iff_eq,beq_eq_false_iff_ne,Bool.not_eq_true',ao4,KA,Nat.blt_eq];refine⟨fun o=>⟨⟨q,o⟩,?_⟩,fun o=>b.1 ?_⟩
 ·have e:=eg l i.toNat (by omega)
  rw[e] at b;have d:(bX (nth l i.toNat)).op=toInt (af (nth l i.toNat) 0):=by rw[cF];rfl
  simp only[lX,ao8,d] at b;refine⟨fun g=>b.2 (by simp[g]),fun g=>⟨fun j=>b.2 (by simp[j]),fun j=>⟨⟨⟨by omega,by omega⟩,by omega⟩,trivial,fun c=>?_,fun c=>?_⟩⟩⟩
  ·rw[c];exact b.2 (by rw[c];simp)
  ·rw[ay (n:=i+1) (by omega) (by omega)]
   refine⟨_,?_,(h,l,i+1),rfl,⟨k,m,p,by simpa[aU] using f,by simp only;omega,by simp only;omega⟩,rfl,?_⟩
   ·simp only;omega
   ·rw[c] at b
    simp only[Hi,Out.run,ag,lX];rw[show(i+1).toNat=i.toNat+1 by omega];simpa[g,j] using b
 ·rw[ao0 (by omega)];rfl
noncomputable def K8 κ r:=(Ep κ r).aq 192 10 (aI 0 YK (NB r) (Hi κ))
theorem y58 κ r op s n l h K:(a8 (K8 κ r) 12 192 [.agg [.int op, .lit (.string s), .int n, .ad 38 l], .int h] [] K)=(
 letI a:=AV.int
 letI b:=K (AV.lit (Value.iface 273 (Value.pointer (some (Kp.tree κ))))) []
 letI c:=Pg.toProgram (Env.P (Ep κ r))
 letI d:=K (AV.lit Value.nilIface) []
 an (h==(0:Int)) b (an (op==(0:Int)) b (an (!lQ op) (an (!bare op s n) b (an (decide ((↑(l.length):Int)>(0:Int))) b d)) (an (!ByteArray.toList s==ByteArray.toList {data:= #[]}) b (an (n != (0:Int)) b (an ((↑(l.length):Int) != (2:Int)) b (ah c 192 10=ah c 192 10/\∃(e0:Int×List AV×Int),sp 72 [(1,a h),(49,AV.ad 38 l),(50,a (↑(l.length):Int)),(51,a 0)] []=sp 72 [(1,a e0.1),(49,AV.ad 38 e0.2.1),(50,a (↑(e0.2.1.length):Int)),(51,a e0.2.2)] []/\((1:Int)<=e0.1/\e0.1<=(1000:Int)/\e0.1.toNat<=r/\e0.2.1.length<=9223372036854775807/\(0:Int)<=e0.2.2/\e0.2.2<=(↑(e0.2.1.length):Int))/\an (lX (Int.toNat (e0.1 - (1:Int))) (ae (List.drop (Int.toNat e0.2.2) e0.2.1))) d b))))))):=by kernel_rfl
theorem ae0 κ r(b:fG (Pr κ) 192 (below (Vy κ) KA r)):aF (K8 κ r)/\aj (K8 κ r)/\(K8 κ r).P=Pr κ:=
 have h:=(e47 _).ej b;have a:=(m47 _).aV
 ⟨h.aq a (l58 _ r),a.aq a0,rfl⟩
theorem p58 κ r:cg (K8 κ r) 12 192 fun xs=>bif Nat.beq (KA xs) r then Vy κ xs else none:=by
 intro d x b;cases f:Nat.beq (KA d) r with
 |false=>simp only[f] at b;cases b
 | true=>
  simp only[f,an9] at b;unfold Vy at b;split at b
  ·rename_i t s n l h
   simp only[an5,ao1,an3,an2] at b;obtain⟨⟨u,o⟩,rfl⟩:=b;have v:h.toNat=r:=Nat.eq_of_beq_eq_true f;refine⟨_,rfl,oY κ _,?_⟩;rw[y58];have p:AV.lit (.iface 273 (.pointer (some κ.tree)))= .lit (az κ false):=rfl;have j:AV.lit .nilIface= .lit (az κ true):=rfl;rw[p,j];by_cases i:h=0
   ·subst i;rfl
   ·obtain⟨m,k⟩: ∃m,h.toNat=m+1:=⟨h.toNat - 1,by omega⟩
    rw[k,pY,dz];unfold oh;generalize (ByteArray.toList s==ByteArray.toList (ByteArray.mk #[]))=z
    simp only[ag,beq_iff_eq,beq_eq_false_iff_ne,Bool.not_eq_true',ao4,an2,an4,bne_iff_ne,bne_eq_false_iff_eq];refine⟨fun e=>absurd e i,fun _=>⟨fun e=>by rw[an8 e];rfl,fun e=>?_⟩⟩;rw[an6 e,an7];refine⟨fun g=>?_,fun g=>?_⟩
    ·rw[g,an7]
     refine⟨fun a=>by rw[a];rfl,fun a=>⟨fun c=>?_,fun c=>?_⟩⟩
     ·rw[an6 (show ¬ l.length=0 by omega),Bool.and_false]
     ·rw[a,an8 (show l.length=0 by omega)];rfl
    ·rw[g,an9]
     refine⟨fun a=>by rw[a];rfl,fun a=>⟨fun c=>by rw[a,an6 c];rfl,fun c=>⟨fun q=>?_,fun q=>?_⟩⟩⟩
     ·rw[an6 (show ¬ l.length=2 by omega)];simp
     ·refine⟨trivial,(h,l,0),rfl,⟨by simp only;omega,o,by simp only;omega,by simp only;omega,by simp only;omega,by simp only;omega⟩,?_⟩
      rw[a,an8 c,an8 (show l.length=2 by omega)];simp only[show(h - 1).toNat=m by omega,Int.toNat_zero,ao2,ao7];exact⟨fun e=>by rw[e],fun e=>by rw[e]⟩
  ·cases b
theorem q58 κ:fG (Pr κ) 192 (Vy κ):=aF.qJ _ _ _ (ae0 _) (p58 _)
noncomputable def Pl κ:=(ZQ κ).aV 192 (Vy κ)
theorem e58 κ:aF (Pl κ):=(e47 _).ej (q58 _)
theorem m58 κ:aj (Pl κ):=(m47 _).aV
theorem x46 κ l i I n K:(vc (Pl κ) 12 172 none 0 (ah (Pr κ).toProgram 172 4) (sp 36 [(24, .ad 38 l),(25, .int l.length),(26, .int i)] []) (bh (Pl κ) 172 4 0 I n K))=(
 letI a:=nth l i.toNat
 letI b:=az κ (ak 20 (Tm.mk (toInt (af a 0)) (toStr (af a 1)) (toInt (af a 2)) (ae (aa (af a 3)))))
 letI c:=i<(↑(l.length):Int)
 an (decide c) (aG (decide ((0:Int)<=i)&&decide c) (aG (aC b) (an (!bM b) (K Exit.ret (sp 36 [(2,AV.lit b)] [])) (∃(e0:Nat),e0<n/\I e0 (sp 36
 [(24,AV.ad 38 l),(25,AV.int (↑(l.length):Int)),(26,AV.int (IntKind.wrap IntKind.i64 (i+(1:Int))))] []))))) (K (Exit.exit 0) (sp 36 [] []))):=by kernel_rfl
abbrev YI(a:List _×Int):=sp 36 [(24, .ad 38 a.1),(25, .int a.1.length),(26, .int a.2)] []
def Nz(a:List AV×Int):=a.1.length<=aU/\0<=a.2/\a.2<=a.1.length
noncomputable def Hg(κ:Kp)(a:List AV×Int):Out (Exit×S):=
 .an ((ae (a.1.drop a.2.toNat)).all (ak 20)) (.one (.exit 0,sp 36 [] [])) (.one (.ret,sp 36 [(2, .lit (az κ false))] []))
theorem l46 κ:aP (Pl κ) 12 172 4 (aI 0 YI Nz (Hg κ)):=by
 refine aD (fun a=>a.1.length - a.2.toNat) ?_;rintro⟨l,i⟩ K ⟨d,e,g⟩ b;simp only at d e g;rw[show(Pl κ).P=Pr κ from rfl,x46];simp only[Hg,Out.run,ag] at b;simp only[aU] at d;simp only[nC,qR,←cF];simp only[ag,ai,an2,an4,an3,beq_iff_eq,beq_eq_false_iff_ne,Bool.not_eq_true',ao4];refine⟨fun f=>⟨⟨e,f⟩,trivial,fun c=>?_,fun c=>?_⟩,fun f=>b.1 ?_⟩
 ·rw[c]
  rw[eg l i.toNat (by omega),ao8,c,Bool.false_and] at b;exact b.2 rfl
 ·rw[ay (n:=i+1) (by omega) (by omega)]
  refine⟨_,?_,(l,i+1),rfl,⟨by simpa[aU] using d,by simp only;omega,by simp only;omega⟩,rfl,?_⟩
  ·simp only;omega
  ·rw[eg l i.toNat (by omega),ao8,c,ao7] at b
   grind [Hg,Out.run,ag]
 ·rw[ao0 (by omega)];rfl
noncomputable def K1 κ:=(Pl κ).aq 172 4 (aI 0 YI Nz (Hg κ))
theorem ad5 κ:aF (K1 κ):=(e58 _).aq (m58 _) (l46 _)
theorem Xi κ:aj (K1 κ):=(m58 _).aq a0
theorem y46 κ s l K:(a8 (K1 κ) 12 172 [.agg [.lit (.string s), .ad 38 l]] [] K)=(
 letI a:=K (AV.lit (Value.iface 273 (Value.pointer (some (Kp.tree κ))))) []
 letI b:=Pg.toProgram (Env.P (Pl κ))
 an (!isName s) a (an ((↑(l.length):Int)==(0:Int)) a (an (decide ((↑(l.length):Int)>(8:Int))) a (ah b 172 4=ah b 172 4/\∃(e0:List AV×
 Int),sp 36 [(24,AV.ad 38 l),(25,AV.int (↑(l.length):Int)),(26,AV.int 0)] []=sp 36 [(24,AV.ad 38 e0.1),(25,AV.int (↑(e0.1.length):Int)),(26,
 AV.int e0.2)] []/\(e0.1.length<=9223372036854775807/\(0:Int)<=e0.2/\e0.2<=(↑(e0.1.length):Int))/\an (List.all (ae (List.drop e0.2.toNat e0.1)) (ak
 20)) (K (AV.lit Value.nilIface) []) a)))):=by kernel_rfl
def g46(κ:Kp):List AV->Option (Bool×AV)
 |[.agg [.lit (.string s), .ad 38 l]]=>some (true, .lit (az κ (bj ⟨s,ae l⟩)))
 |_=>none
theorem p46 κ:cg (K1 κ) 12 172 (g46 κ):=by
 intro b x a;unfold g46 at a;split at a
 ·rename_i s l
  simp only[an5,ao1,true_and] at a;subst a;refine⟨_,rfl,oY κ _,?_⟩;rw[y46];have c:AV.lit (.iface 273 (.pointer (some κ.tree)))= .lit (az κ false):=rfl;have d:AV.lit .nilIface= .lit (az κ true):=rfl;rw[c,d];simp only[bj,dz];simp only[ag,beq_iff_eq,beq_eq_false_iff_ne,Bool.not_eq_true',ao4,an2,an4];refine⟨fun e=>by rw[e];rfl,fun e=>⟨fun g=>by rw[an8 (show l.length=0 by omega)];simp,fun g=>⟨fun f=>by rw[an6 (show ¬ l.length<=8 by omega)];simp,fun f=>⟨trivial,(l,0),rfl,⟨by simp only;omega,by simp only;omega,by simp only;omega⟩,?_⟩⟩⟩⟩
  grind [decide_eq_false,decide_eq_true]
 ·cases a
noncomputable def OV κ:=(K1 κ).aV 172 (g46 κ)
theorem e46 κ:aF (OV κ):=(ad5 _).aV (Xi _) (p46 _)
theorem Z1 κ:aj (OV κ):=(Xi _).aV
noncomputable def Er κ:=(OV κ).aq 193 2 (lA (OV κ) 12 193 2 5)
theorem ae1 κ:aF (Er κ):=(e46 _).aq (Z1 _) (uj (Z1 _) 5)
theorem Xm κ:aj (Er κ):=(Z1 _).aq (mc (Z1 _) 5)
theorem al5 κ u1 u2 K:(a8 (Er κ) 12 193 [.ad 171 [.lit u1, .lit u2]] [] K)=(
 letI a:=Pg.toProgram (Env.P (OV κ))
 ah a 193 2=ah a 193 2/\aG (aC u1) (an (!bM u1) (K (AV.lit u1) []) (aG (aC u2) (an (!bM u2) (K (AV.lit u2) []) (K (AV.lit Value.nilIface) []))))):=by kernel_rfl
theorem al6 κ u1 u2 u3 K:(a8 (Er κ) 12 193 [.ad 171 [.lit u1, .lit u2, .lit u3]] [] K)=(
 letI a:=Pg.toProgram (Env.P (OV κ))
 ah a 193 2=ah a 193 2/\aG (aC u1) (an (!bM u1) (K (AV.lit u1) []) (aG (aC u2) (an (!bM u2) (K (AV.lit u2) []) (aG (aC u3) (an (!bM u3) (K (AV.lit u3) [])
 (K (AV.lit Value.nilIface) []))))))):=by kernel_rfl
theorem al7 κ u1 u2 u3 u4 K:(a8 (Er κ) 12 193 [.ad 171 [.lit u1, .lit u2, .lit u3, .lit u4]] [] K)=(
 letI a:=AV.lit
 letI b:=Pg.toProgram (Env.P (OV κ))
 ah b 193 2=ah b 193 2/\aG (aC u1) (an (!bM u1) (K (a u1) []) (aG (aC u2) (an (!bM u2) (K (a u2) []) (aG (aC u3) (an (!bM u3) (K (a u3) [])
 (aG (aC u4) (an (!bM u4) (K (a u4) []) (K (a Value.nilIface) []))))))))):=by kernel_rfl
def bD u v:=bif bM u then v else u
theorem ET κ a b:bD (az κ a) (az κ b)=az κ (a&&b):=by cases a<;>rfl
theorem Fk{u}(h:aC u=true)(a:bM u=true):u= .nilIface:=by grind [bM]
def g59:List AV->Option (Bool×AV)
 |[.ad 171 [.lit b, .lit a]]=>some (aC b&&aC a&&(bg b&&bg a), .lit (bD b a))
 |[.ad 171 [.lit b, .lit a, .lit c]]=>some (aC b&&(aC a&&aC c)&&(bg b&&(bg a&&bg c)), .lit (bD b (bD a c)))
 |[.ad 171 [.lit b, .lit a, .lit c, .lit d]]=>some (aC b&&(aC a&&(aC c&&aC d))&&(bg b&&(bg a&&(bg c&&bg d))), .lit (bD b (bD a (bD c d))))
 |_=>none
theorem p59 κ:cg (Er κ) 12 193 g59:=by
 intro k x a;unfold g59 at a;split at a
 ·rename_i b c
  simp only[an5,ao1,an3] at a;obtain⟨⟨⟨f,d⟩,e,m⟩,rfl⟩:=a;refine⟨_,rfl,by unfold bD;cases bM b<;>assumption,?_⟩;rw[al5,f,d];refine⟨rfl,?_⟩;unfold bD;cases i:bM b
  ·rfl
  ·cases h:bM c
   ·rfl
   ·rw[Fk d h];rfl
 ·rename_i b c g
  simp only[an5,ao1,an3] at a;obtain⟨⟨⟨f,d,e⟩,m,n,q⟩,rfl⟩:=a;refine⟨_,rfl,by unfold bD;cases bM b<;>cases bM c<;>assumption,?_⟩;rw[al6,f,d,e];refine⟨rfl,?_⟩;unfold bD;cases i:bM b
  ·rfl
  ·cases h:bM c
   ·rfl
   ·cases j:bM g
    ·rfl
    ·rw[Fk e j];rfl
 ·rename_i b c g p
  simp only[an5,ao1,an3] at a;obtain⟨⟨⟨f,d,e,l⟩,m,n,q,r⟩,rfl⟩:=a;refine⟨_,rfl,by unfold bD;cases bM b<;>cases bM c<;>cases bM g<;>assumption,?_⟩;rw[al7,f,d,e,l];refine⟨rfl,?_⟩;unfold bD;cases i:bM b
  ·rfl
  ·cases h:bM c
   ·rfl
   ·cases j:bM g
    ·rfl
    ·cases o:bM p
     ·rfl
     ·rw[Fk l o];rfl
 ·cases a
noncomputable def V2 κ:=(Er κ).aV 193 g59
theorem e59 κ:aF (V2 κ):=(ae1 _).aV (Xm _) (p59 _)
theorem m59 κ:aj (V2 κ):=(Xm _).aV
theorem y49(κ:Kp)(op:Int) s(l:List AV)(o1:Int) s1(n1:Int)(l1:List AV)(o2:Int) s2(n2:Int)(l2:List AV) K:(a8 (V2 κ) 12 175 [.agg [.int op, .agg [.lit (.string s), .ad 38 l], .agg [.int o1, .lit (.string s1), .int n1, .ad 38 l1], .agg [.int o2, .lit (.string s2), .int n2, .ad 38 l2]]] [] K)=(
 letI a:=AV.lit
 letI d:=az κ (ak 20 (Tm.mk o1 s1 n1 (ae l1)))
 letI q:=az κ (ak 20 (Tm.mk o2 s2 n2 (ae l2)))
 letI b:=az κ (bj {rel:=s,l:=ae l})
 letI i:=az κ (decide (o2=(0:Int))&&bare o2 s2 n2&&decide ((↑(l2.length):Int)=(0:Int)))
 letI y:=Value.iface 273 (Value.pointer (some (Kp.tree κ)))
 letI w:=az κ (o2==(1:Int))
 letI c:=az κ (bj {rel:=s,l:=ae l})
 letI g:=K (a (bD b (bD w (bD d q)))) []
 letI e:=aC d&&aC q
 letI f:=bg d&&bg q
 letI k:=K (a (bD b y)) []
 letI x:=an (decide (o1=(0:Int))&&bare o1 s1 n1&&decide ((↑(l1.length):Int)=(0:Int))) (aG (aC b&&aC i&&(bg b&&bg i)) (K (a (bD b
  i)) [])) (aG (aC b&&true&&(bg b&&true)) k)
 letI r:=aG (aC b&&(true&&e)&&(bg b&&(true&&f))) k
 letI m:=az κ (o2 != (4:Int))
 letI h:=o1==(2:Int)
 letI n:=K (a y) []
 letI t:=aG (true&&e&&(true&&f)) n
 letI j:=an (oh s {data:= #[]}&&decide ((↑(l.length):Int)=(0:Int))) (an (o1 != (4:Int)) (aG (aC m&&e&&(bg m&&f)) (K (a (bD m (bD d q))) [])) t) t
 letI u:=bg b&&(bg i&&bg d)
 letI o:=aC w&&e
 letI p:=bg w&&f
 letI z:=aC b&&o&&(bg b&&p)
 letI v:=aG z (K (a (bD c (bD w (bD d q)))) [])
 an (o1==(1:Int)) (an (op==(1:Int)) x (an (op==(2:Int)) x (an (op==(3:Int)) j (an (op==(4:Int)) j (an (op==(5:Int)) j (an (op==(6
 :Int)) j (an (op==(7:Int)) (aG (aC b&&(aC i&&aC d)&&u) (K (a (bD b (bD i d))) [])) (an (op==(8:Int)) (aG z g) (an (op==(9:
 Int)) (aG (aC c&&o&&(bg b&&p)) g) (an (op==(10:Int)) v n)))))))))) (an (op==(1:Int)) x (an (op==(2:Int)) x (an (op==(3:
 Int)) j (an (op==(4:Int)) j (an (op==(5:Int)) j (an (op==(6:Int)) j (an (op==(7:Int)) (an h (aG (aC c&&(aC i&&aC d)&&u) (K
 (a (bD c (bD i d))) [])) (aG (aC b&&(true&&aC d)&&(bg b&&(true&&bg d))) (K (a (bD c y)) []))) (an (op==(8:Int)) (an h (aG
 z g) r) (an (op==(9:Int)) (an h (aG (aC b&&o&&(bg c&&p)) g) (aG (aC b&&(true&&e)&&(bg c&&(true&&f))) k)) (an (op==
 (10:Int)) (an h v r) n))))))))))):=by kernel_rfl
theorem PK κ b x y r:an b (AV.lit (az κ x)=AV.lit (az κ r)) (AV.lit (az κ y)=AV.lit (az κ r))↔AV.lit (az κ (bif b then x else y))=AV.lit (az κ r):=by
 cases b<;>rfl
theorem PJ(a b:Int):(a==b)=decide (a=b):=rfl
theorem Gz(a b:Int):(a != b)= !decide (a=b):=rfl
def g49(κ:Kp):List AV->Option (Bool×AV)
 |[.agg [.lit (.int .i64 a), .agg [.lit (.string s), .ad 38 l], .agg [.lit (.int .i64 b), .lit (.string s1), .lit (.int .i64 c), .ad 38 d], .agg [.lit (.int .i64 e), .lit (.string s2), .lit (.int .i64 f), .ad 38 g]]]=>
  some (true, .lit (az κ (iM ⟨a,⟨s,ae l⟩, .mk b s1 c (ae d), .mk e s2 f (ae g)⟩)))
 |_=>none
theorem p49 κ:cg (V2 κ) 12 175 (g49 κ):=by
 intro u x g;unfold g49 at g;split at g
 ·rename_i c s l d s1 o q i s2 t w
  simp only[an5,ao1,true_and] at g;subst g;refine⟨_,rfl,oY κ _,?_⟩;rw[y49];have y:Value.iface 273 (.pointer (some κ.tree))=az κ false:=rfl;rw[y];simp only[nC,oY,ET,Bool.and_true,Bool.and_self,aG];simp only[←Uf,←Ud,PJ,Gz,PK];refine congrArg (fun b=>AV.lit (az κ b)) ?_;have z:TZ (.mk d s1 o (ae q))=(decide (d=1)||decide (d=2)):=rfl;rw[J0,z];generalize bj ⟨s,ae l⟩=A
  generalize Uc ⟨s,ae l⟩=h
  generalize KH (.mk d s1 o (ae q))=v
  generalize KH (.mk i s2 t (ae w))=p
  generalize ak 20 (.mk d s1 o (ae q))=e
  generalize ak 20 (.mk i s2 t (ae w))=f
  generalize decide (d=1)=a
  generalize decide (d=2)=k
  generalize decide (d=4)=j
  generalize decide (i=4)=m
  generalize decide (i=1)=r
  generalize decide (c=1)=B
  generalize decide (c=2)=C
  generalize decide (c=3)=D
  generalize decide (c=4)=E
  generalize decide (c=5)=F
  generalize decide (c=6)=H
  generalize decide (c=7)=I
  generalize decide (c=8)=J
  generalize decide (c=9)=K
  generalize decide (c=10)=n
  cases B
  case true=>cases a<;>cases v<;>cases A<;>cases p<;>rfl
  cases C
  case true=>cases a<;>cases v<;>cases A<;>cases p<;>rfl
  cases D
  case true=>cases a<;>cases h<;>cases j<;>cases m<;>cases e<;>cases f<;>rfl
  cases E
  case true=>cases a<;>cases h<;>cases j<;>cases m<;>cases e<;>cases f<;>rfl
  cases F
  case true=>cases a<;>cases h<;>cases j<;>cases m<;>cases e<;>cases f<;>rfl
  cases H
  case true=>cases a<;>cases h<;>cases j<;>cases m<;>cases e<;>cases f<;>rfl
  cases I
  case true=>cases a<;>cases k<;>cases A<;>cases p<;>cases e<;>rfl
  cases J
  case true=>cases a<;>cases k<;>cases A<;>cases r<;>cases e<;>cases f<;>rfl
  cases K
  case true=>cases a<;>cases k<;>cases A<;>cases r<;>cases e<;>cases f<;>rfl
  cases n
  case true=>cases a<;>cases k<;>cases A<;>cases r<;>cases e<;>cases f<;>rfl
  cases a<;>rfl
 ·cases g
noncomputable def Pf κ:=(V2 κ).aV 175 (g49 κ)
theorem e49 κ:aF (Pf κ):=(e59 _).aV (m59 _) (p49 _)
theorem m49 κ:aj (Pf κ):=(m59 _).aV
structure dt where
 xs:List AV
 more:List AV
 rel:ByteArray
 hl:List AV
 bl:List AV
 line:Int
 i:Int
abbrev aw(a:dt):AV:= .agg [.agg [.lit (.string a.rel), .ad 38 a.hl], .ad 80 a.bl, .int a.line]
abbrev DK a:=sp 69 [(0, .bJ 0),(1, .ptr 1 0 [] 0),(25, .ad 38 a.hl),(26, .int a.hl.length),(27, .int a.i)] [.ext (some a.xs), .box 48 (aw a)]
abbrev Od a:=sp 69 [(0, .bJ 0),(57, .ad 80 a.bl),(58, .int a.bl.length),(59, .int a.i)] [.ext (some a.xs), .box 48 (aw a)]
def nt(κ:Kp)(l:List Bool):List AV:=l.map fun b=> .aK [.lit (az κ b)]
def BH κ(a:dt):=a.hl.length<=aU/\0<=a.i/\a.i<=a.hl.length/\a.xs=nt κ ((ae (a.hl.drop a.i.toNat)).map (tp a.bl.length))++a.more
def HI κ(a:dt):=a.bl.length<=aU/\0<=a.i/\a.i<=a.bl.length/\a.xs=nt κ ((dB (a.bl.drop a.i.toNat)).map iM)
def Fx(a:dt):Out (Exit×S):= .all (fun _=>True) fun b=> .an b (.one (.exit 0,sp 69 [(0, .bJ 0),(1, .ptr 1 0 [] 0)] [.ext (some a.more), .box 48 (aw a)]))
 (.one (.ret,sp 69 [] [.ext none, .box 48 (aw a)]))
def MO(a:dt):Out (Exit×S):= .all (fun _=>True) fun b=> .an b (.one (.exit 2,sp 69 [] [.ext (some []), .box 48 (aw a)]))
 (.one (.ret,sp 69 [] [.ext none, .box 48 (aw a)]))
theorem aj9(κ:Kp)(a:dt)(I:Nat->S->Prop)(n:Nat)(K:Exit->S->Prop):(vc (Pf κ) 12 171 none 2 (ah (Pr κ).toProgram 171 2) (DK a) (bh (Pf κ) 171 2 2 I n K))=(
 letI b:=AV.int
 letI c:=Obj.box
 letI d:=Obj.ext
 letI f:=IntKind.wrap IntKind.i64 (a.i+(1:Int))
 letI g:=sp 69 [] [d none,c 48 (aw a)]
 letI h:=af (nth a.hl a.i.toNat) 0
 letI e:=a.hl.length
 letI i:=∃(e1:List AV),a.xs=AV.aK [AV.lit (Value.iface 273 (Value.pointer (some (Kp.tree κ))))]::e1/\(∃(e0:Nat),e0<n/\I e0 (sp 69 [(0,AV.bJ
  0),(1,AV.ptr 1 0 [] 0),(25,AV.ad 38 a.hl),(26,b (↑e:Int)),(27,b f)] [d (some e1),c 48 (aw a)]))/\K Exit.ret g
 an (decide (a.i<(↑e:Int))) (aG (decide ((0:Int)<=a.i)&&decide (a.i<(↑e:Int))) (an (toInt h != (4:Int)) (an (!lQ (toInt h)) (an (toInt h !=
 (1:Int)) (∃(e1:List AV),a.xs=AV.aK [AV.lit Value.nilIface]::e1/\(∃(e0:Nat),e0<n/\I e0 (sp 69 [(0,AV.bJ 0),(1,AV.ptr 1 0 [] 0),(25,AV.ad
 38 a.hl),(26,b (↑e:Int)),(27,b f)] [d (some e1),c 48 (aw a)]))/\K Exit.ret g) (∃(e1:List AV),a.xs=AV.aK [AV.lit (az κ
 (decide ((↑(a.bl.length):Int)>(0:Int))))]::e1/\(∃(e0:Nat),e0<n/\I e0 (sp 69 [(0,AV.bJ 0),(1,AV.ptr 1 0 [] 0),(25,AV.ad 38 a.hl),(26,
 b (↑e:Int)),(27,b f)] [d (some e1),c 48 (aw a)]))/\K Exit.ret g)) i) i)) (K (Exit.exit 0) (sp 69 [(0,AV.bJ 0),(1,AV.ptr 1 0
 [] 0)] [d (some a.xs),c 48 (aw a)]))):=by kernel_rfl
theorem ag0 κ:aP (Pf κ) 12 171 2 (aI 2 DK (BH κ) Fx):=by
 refine aD (fun a=>a.hl.length - a.i.toNat) ?_;rintro⟨xs,d,g,e,l,c,i⟩ K ⟨q,r,t,h⟩ p;simp only at q r t h;rw[show(Pf κ).P=Pr κ from rfl,aj9];have v:Value.iface 273 (.pointer (some κ.tree))=az κ false:=rfl;have u:Value.nilIface=az κ true:=rfl;have j:=p true trivial;have k:=p false trivial;simp only[Out.run,an] at j k;simp only[v,u];simp only[aU] at q;simp only[ag,ai,an2,an4,an3];refine⟨fun s=>⟨⟨r,s⟩,?_⟩,fun s=>?_⟩
 ·rw[eg e i.toNat (by omega)] at h
  have o:(bX (nth e i.toNat)).op=toInt (af (nth e i.toNat) 0):=by rw[cF];rfl
  simp only[ao9,nt,tp,o,List.cons_append] at h;rw[ay (n:=i+1) (by omega) (by omega)];have w: ∀b,b=(!decide (toInt (af (nth e i.toNat) 0)=4)&& !lQ (toInt (af (nth e i.toNat) 0))&&(!decide (toInt (af (nth e i.toNat) 0)=1)||decide (0<l.length)))->
    ∃f,xs=AV.aK [AV.lit (az κ b)]::f/\(∃m,m<e.length - i.toNat/\gq DK (BH κ) Fx (fun a=>a.hl.length - a.i.toNat) K m (DK ⟨f,d,g,e,l,c,i+1⟩))/\K Exit.ret (sp 69 [] [.ext none, .box 48 (aw ⟨xs,d,g,e,l,c,i⟩)]):=by
   rintro b rfl;refine⟨_,h,⟨_,?_,⟨_,d,g,e,l,c,i+1⟩,rfl,⟨by simpa[aU] using q,by simp only;omega,by simp only;omega,?_⟩,rfl,p⟩,k⟩
   ·simp only;omega
   ·simp only[nt,show(i+1).toNat=i.toNat+1 by omega]
  simp only[Gz,Bool.not_eq_true',ao4,an2,an4]
  grind [decide_eq_true,decide_eq_false]
 ·rw[ao0 (by omega)] at h
  simp only[ae,nt,List.map_nil,List.nil_append] at h;subst h;exact j
noncomputable def Ac κ:=(Pf κ).aq 171 2 (aI 2 DK (BH κ) Fx)
theorem ad3 κ:aF (Ac κ):=(e49 _).aq (m49 _) (ag0 _)
theorem Xg κ:aj (Ac κ):=(m49 _).aq a0
theorem ak0(κ:Kp)(a:dt)(I:Nat->S->Prop)(n:Nat)(K:Exit->S->Prop):(vc (Ac κ) 12 171 none 2 (ah (Pr κ).toProgram 171 7) (Od a) (bh (Ac κ) 171 7 2 I n K))=(
 letI b:=nth a.bl a.i.toNat
 letI c:=AV.agg [AV.agg [AV.str a.rel,AV.ad 38 a.hl],AV.ad 80 a.bl,AV.int a.line]
 letI d:=a.i<(↑(a.bl.length):Int)
 an (decide d) (aG (decide ((0:Int)<=a.i)&&decide d) (∃(e1:List AV),a.xs=AV.aK [AV.lit (az κ (iM {op:=toInt (af b 0),a:={rel:=toStr (af (af b 1) 0),l:=ae (aa (af (af b 1) 1))},x:=Tm.mk (toInt (af (af b 2) 0)) (toStr (af (af b 2) 1)) (toInt (af (af b 2) 2)) (ae (aa (af (af b 2) 3))),y:=Tm.mk (toInt (af (af b 3) 0)) (toStr (af (af b 3) 1)) (toInt (af (af b 3) 2)) (ae (aa (af (af b 3) 3)))}))]::e1/\(∃(e0:Nat),e0<n/\I e0 (sp 69 [(0,AV.bJ 0),(57,AV.ad 80 a.bl),(58,AV.int (↑(a.bl.length):Int)),(59,AV.int (IntKind.wrap IntKind.i64 (a.i+(1:Int))))] [Obj.ext (some e1),Obj.box 48 c]))/\K Exit.ret (sp 69 [] [Obj.ext none,Obj.box 48 c]))) (K (Exit.exit 2) (sp 69 [] [Obj.ext (some a.xs),Obj.box 48 c]))):=by kernel_rfl
theorem ag1 κ:aP (Ac κ) 12 171 7 (aI 2 Od (HI κ) MO):=by
 refine aD (fun a=>a.bl.length - a.i.toNat) ?_;rintro⟨xs,c,h,p,k,d,i⟩ K ⟨g,m,o,b⟩ j;simp only at g m o b;rw[show(Ac κ).P=Pr κ from rfl,ak0];have e:=j true trivial;have f:=j false trivial;simp only[Out.run,an] at e f;simp only[aU] at g;simp only[ag,ai,an2,an4,an3,←lt_eq];refine⟨fun l=>⟨⟨m,l⟩,?_⟩,fun l=>?_⟩
 ·rw[oT k i.toNat (by omega)] at b
  simp only[ao9,nt] at b;rw[ay (n:=i+1) (by omega) (by omega)];refine⟨_,b,⟨_,?_,⟨_,c,h,p,k,d,i+1⟩,rfl,⟨by simpa[aU] using g,by simp only;omega,by simp only;omega,?_⟩,rfl,j⟩,f⟩
  ·simp only;omega
  ·simp only[nt,show(i+1).toNat=i.toNat+1 by omega]
 ·rw[ao0 (by omega)] at b
  simp only[dB,nt,List.map_nil] at b;subst b;exact e
noncomputable def K0 κ:=(Ac κ).aq 171 7 (aI 2 Od (HI κ) MO)
theorem ad4 κ:aF (K0 κ):=(ad3 _).aq (Xg _) (ag1 _)
theorem Xh κ:aj (K0 κ):=(Xg _).aq a0
theorem y45(κ:Kp)(a:dt)(K:AV->List Dn.Obj->Prop):(a8 (K0 κ) 12 171 [.bJ 0, .ptr 1 0 [] 0] [.ext (some a.xs), .box 48 (aw a)] K)=(
 letI b:=AV.int
 letI c:=AV.agg
 letI d:=Obj.box
 letI e:=Obj.ext
 letI f:=AV.aK
 letI g:=AV.ad
 letI h:=c [c [AV.str a.rel,g 38 a.hl],g 80 a.bl,b a.line]
 letI k:=Pg.toProgram (Env.P (Pf κ))
 letI m:=Pg.toProgram (Env.P (Ac κ))
 ∃(e5:List AV),a.xs=f [AV.lit (az κ (bj {rel:=a.rel,l:=ae a.hl}))]::e5/\(∃(e4:List AV),e5=f [AV.lit (az κ (decide ((↑(a.bl.length):Int)<=(20:Int))))]::e4/\(ah k 171 2=ah k 171 2/\∃(e3:dt),letI i:=c [c [AV.str e3.rel,g 38 e3.hl],g 80 e3.bl,b e3.line];sp 69 [(0,AV.bJ 0),(1,AV.ptr 1 0 [] 0),(25,g 38 a.hl),(26,b (↑(a.hl.length):Int)),(27,b 0)] [e (some e4),d 48 h]=sp 69 [(0,AV.bJ 0),(1,AV.ptr 1 0 [] 0),(25,g 38 e3.hl),(26,b (↑(e3.hl.length):Int)),(27,b e3.i)] [e (some e3.xs),d 48 i]/\(e3.hl.length<=9223372036854775807/\(0:Int)<=e3.i/\e3.i<=(↑(e3.hl.length):Int)/\e3.xs=nt κ (List.map (tp e3.bl.length) (ae (List.drop e3.i.toNat e3.hl)))++e3.more)/\∀(e2:Bool),True->an e2 (ah m 171 7=ah m 171 7/\∃(e1:dt),letI j:=c [c [AV.str e1.rel,g 38 e1.hl],g 80 e1.bl,b e1.line];sp 69 [(0,AV.bJ 0),(57,g 80 e3.bl),(58,b (↑(e3.bl.length):Int)),(59,b 0)] [e (some e3.more),d 48 i]=sp 69 [(0,AV.bJ 0),(57,g 80 e1.bl),(58,b (↑(e1.bl.length):Int)),(59,b e1.i)] [e (some e1.xs),d 48 j]/\(e1.bl.length<=9223372036854775807/\(0:Int)<=e1.i/\e1.i<=(↑(e1.bl.length):Int)/\e1.xs=nt κ (List.map iM (dB (List.drop e1.i.toNat e1.bl))))/\∀(e0:Bool),True->an e0 (K (f []) [e (some []),d 48 j]) (K (f []) [e none,d 48 j])) (K (f []) [e none,d 48 i]))/\K (f []) [e none,d 48 h])/\K (f []) [e none,d 48 h]):=by kernel_rfl
def Oc(a:dt):List AV×List Dn.Obj:=([.bJ 0, .ptr 1 0 [] 0],[.ext (some a.xs), .box 48 (aw a)])
def FU κ(a:dt):=a.hl.length<=aU/\a.bl.length<=aU/\a.xs=nt κ (um ⟨⟨a.rel,ae a.hl⟩,dB a.bl⟩)
def MN:dt->Out (AV×List Dn.Obj):=fun _=> .all (fun st'=>uT st') fun st'=> .one (.aK [],st')
theorem c45 κ:bq (K0 κ) 12 171 (aX Oc (FU κ) MN):=by
 refine a7 ?_;rintro⟨xs,e,c,g,d,a,i⟩ K ⟨l,n,k⟩ m;simp only at l n k;simp only[Oc];rw[y45 κ ⟨xs,e,c,g,d,a,i⟩];simp only;have f: ∀b,K (.aK []) [.ext none,b]:=fun b=>m _ trivial
 have o: ∀b,K (.aK []) [.ext (some []),b]:=fun b=>m _ trivial
 subst k;have j:decide ((d.length:Int)<=20)=decide (d.length<=20):=by
  by_cases h:d.length<=20
  ·rw[an8 h,an8 (by omega)]
  ·rw[an6 h,an6 (by omega)]
 rw[j];simp only[um,nt,ao9,AZ];refine⟨_,rfl,⟨_,rfl,⟨trivial,⟨_,nt κ ((dB d).map iM),c,g,d,a,0⟩,rfl,⟨l,by simp only;omega,by simp only;omega,?_⟩,?_⟩,f _⟩,f _⟩
 ·simp[nt,AZ]
 ·intro y _
  cases y
  ·exact f _
  ·refine⟨trivial,⟨_,[],c,g,d,a,0⟩,rfl,⟨n,by simp only;omega,by simp only;omega,by simp[nt]⟩,?_⟩
   intro y _;cases y
   ·exact f _
   ·exact o _
set_option maxRecDepth 20000 in
noncomputable def RB(κ:Kp):Env:=(K0 κ).aB 171 (aX Oc (FU κ) MN)
theorem e45 κ:aF (RB κ):=(ad4 _).aB (Xh _) (c45 _)
theorem m45 κ:aj (RB κ):=(Xh _).aB aZ
noncomputable abbrev T6(κ:Kp)(a:dt)(st:LoopState)(p:Option Code):Dn.Obj:=
 .loop (iE (Pr κ).toProgram 96 3 st p (ig (bL 15) [(0,aw a),(1, .ptr 0 0 [] 0),(2, .bool false),(3, .ptr 1 0 [] 0),(5,aw a),(6, .bp 171 [.ptr 2 0 [] 0])]))
noncomputable abbrev qF κ a:=[.box 48 (aw a), .box 171 (.lit .nilIface), .box 48 (aw a),T6 κ a .ready none]
noncomputable abbrev Gf κ a:=[.box 48 (aw a), .box 171 (.lit .nilIface), .dead,T6 κ a .ready none]
theorem s16 κ a Q:(tidy (Pr κ).toProgram 4 (ei (qF κ a) (dc (qF κ a) [.ptr 2 0 [] 0])) Q)=(
 Q [Obj.box 48 (aw a),Obj.box 171 (AV.lit Value.nilIface),Obj.dead,Dn.Obj.loop (iE Tryz.prog 96 3 LoopState.ready none (ig (bL 15) [(0,aw a),(1,AV.ptr 0 0
 [] 0),(2,AV.bool false),(3,AV.ptr 1 0 [] 0),(5,aw a),(6,AV.bp 171 [AV.ptr 2 0 [] 0])]))]):=by kernel_rfl
theorem r16 κ a u Q(K2:List Dn.Obj->Prop):(jo (vc (RB κ) 12) 3 [.lit u] (Gf κ a) (fun r st''=>match r with| .lit (.bool true)=>tidy (Pr κ).toProgram 4 st'' Q| .lit (.bool false)=>K2 st''|_=>False))=(
 letI b:=Obj.box
 letI c:=ig (bL 15) [(0,aw a),(1,AV.ptr 0 0 [] 0),(2,AV.bool false),(3,AV.ptr 1 0 [] 0),(5,aw a),(6,AV.bp 171 [AV.ptr 2 0 [] 0])]
 aG (aC u) (an (!bM u) (K2 [b 48 (aw a),b 171 (AV.lit u),Obj.dead,Dn.Obj.loop (iE Tryz.prog 96 3 LoopState.done (some (Code.exit 0)) c)]) (Q
 [b 48 (aw a),b 171 (AV.lit Value.nilIface),Obj.dead,Dn.Obj.loop (iE Tryz.prog 96 3 LoopState.ready none c)]))):=by kernel_rfl
noncomputable abbrev U5 κ a:=[.box 48 (aw a), .box 171 (.lit (az κ false)), .dead,T6 κ a .done (some (.exit 0))]
def xQ(a:dt):Rl:=⟨⟨a.rel,ae a.hl⟩,dB a.bl⟩
theorem k16 κ a xs:(AV.bJ 0::gG (kx (dc (qF κ a) [.ptr 2 0 [] 0])) [.ptr 2 0 [] 0],Obj.ext (some xs)::iy (kx (dc (qF κ a) [.ptr 2 0 [] 0])) (iw (qF κ a) (dc (qF κ a) [.ptr 2 0 [] 0])))=Oc {a with xs:=xs}:=by kernel_rfl
theorem o16 κ a:qq (qF κ a) [.ptr 2 0 [] 0]=true:=by kernel_rfl
noncomputable def UG(κ:Kp):fJ:=fun b st K=>∃a,(b,st)=([AV.ptr 2 0 [] 0],qF κ a)/\(a.hl.length<=aU/\a.bl.length<=aU)/\an (ba (xQ a)) (K (Gf κ a)) (K (U5 κ a))
theorem J5 κ:(UG κ).gA:=by
 rintro b st K f g ⟨a,c,d,e⟩;refine⟨a,c,d,?_⟩
 grind [ag]
theorem call45 κ a st K(h:aX Oc (FU κ) MN a st K):(RB κ).call 171 a st K:=h
theorem af0 κ:nc (RB κ) 12 171 (UG κ):=by
 rintro j st K ⟨a,k,g,f⟩;obtain⟨rfl,rfl⟩:=Prod.mk.inj k;rw[ag] at f;refine⟨nt κ (um (xQ a)),fun c st'=>∃l,c=nt κ l/\st'=Gf κ a/\ba (xQ a)=l.all id,⟨o16 κ a,?_,?_,?_,?_⟩⟩
 ·refine call45 κ _ _ _ ?_
  refine⟨{a with xs:=nt κ (um (xQ a))},?_,⟨g.1,g.2,rfl⟩,fun st' h=>h⟩;exact k16 κ a _
 ·rw[show(RB κ).P=Pr κ from rfl,show(qF κ a).length=4 from rfl,s16]
  exact⟨_,rfl,rfl,FO _⟩
 ·rintro m i st' ⟨l,d,rfl,e⟩
  cases l with
  |nil=>cases d
  |cons b l=>
   simp only[nt,ao9,List.cons.injEq,AV.aK.injEq] at d;obtain⟨rfl,rfl⟩:=d;rw[show(RB κ).P=Pr κ from rfl,show(qF κ a).length=4 from rfl];refine Eq.mpr (r16 κ a (az κ b) _ _) ?_;rw[nC,qR];cases b with
   |true=>exact⟨l,rfl,rfl,by rw[e];rfl⟩
   |false=>exact f.2 (by rw[e];rfl)
 ·rintro st' ⟨l,d,rfl,e⟩
  cases l with
  |nil=>exact f.1 (by rw[e];rfl)
  |cons b l=>cases d
def af3:List Nat:=[171]
noncomputable def To κ:=((RB κ).addRange 96 3 171 (UG κ)).dO fun f=>ic f af3
theorem ab9 κ:aF (To κ):=((e45 _).addRange (m45 _) (af0 _)).dO _
theorem ah8 κ:aj (To κ):=((m45 _).addRange (J5 _)).dO _
end Go.Proofs.YtioeffnadipbaaaGreatDoor
namespace Go.Proofs.YtioeffnadipbaaaGreatDoor
open Go Go.Dn Go.Rl Go.Proofs Go.RowKit Go.Extern.Stop Go.Stop Go.Extern
theorem wL v w:(Extern.ReflectliteType.typeOf #[.iface 273 v]).run Tryz.prog w= .ok (.iface 257 (.agg #[.pointer (some ⟨5,273,none⟩)])) w:=by kernel_rfl
theorem nz w:((Extern.ReflectliteType.method fun t=>do Go.Extern.Rtype.noPackHeld "Comparable" t;(fun a=>Value.bool a.comparable)<$>typeInfo t) #[.agg #[.pointer (some ⟨5,273,none⟩)]]).run Tryz.prog w= .ok (.bool true) w:=by kernel_rfl
theorem iK v w:(Go.method 411 257 v "Comparable").run Tryz.prog w= .ok (222,v) w:=by kernel_rfl
theorem E3:(Tryz.prog.info? 273).map (·.comparable)=some true:=by kernel_rfl
theorem E5:(Tryz.prog.info? 299).map (·.size)=some 1:=by kernel_rfl
set_option maxRecDepth 4000 in
theorem G6(a:Addr)(w:World):
  Calls Tryz.prog 108 #[.iface 273 (.pointer (some a)), .iface 273 (.pointer (some a))] w fun e w'=>e= .returned (.bool true)/\w'=w:=by
 obtain⟨i,hi,hcmp⟩:=Option.map_eq_some_iff.1 E3;obtain⟨j,hj,hjs⟩:=Option.map_eq_some_iff.1 E5;have h8:= @run_callFunc_extern Tryz.prog 157 _ Extern.ReflectliteType.typeOf Tryz.func157 (by kernel_rfl) (by kernel_rfl) (by kernel_rfl) (by kernel_rfl);have h32:= @run_callFunc_extern Tryz.prog 222 _ (Extern.ReflectliteType.method fun t=>do Go.Extern.Rtype.noPackHeld "Comparable" t;pure (.bool (←typeInfo t).comparable)) Tryz.func222 (by kernel_rfl) (by kernel_rfl) (by kernel_rfl) (by kernel_rfl);have tT:=wL;have cT:=nz;have mR:=iK;have heq:=run_eql_iface_ptr_same (P:=Tryz.prog) w a Tryz.underlying171 Tryz.underlying273 hi hcmp hj
 go_enter Tryz.func108,Tryz.ntmps108
 go_wp2
 refine wp_loop_rounds 1 ?_;rw[rounds_succ]
 go_wp2
 go_ret
 exact⟨rfl,rfl⟩
theorem L7 b w:
  Calls Tryz.prog 108 #[.nilIface, .iface 273 (.pointer (some b))] w fun e a=>e= .returned (.bool false)/\a=w:=by
 have c:=run_eql_iface_nil_left  w 273 (.pointer (some b)) Tryz.underlying171
 go_wp2
 go_ret
 simp
def gIs:List AV->Option (Bool×AV)
 |[.lit .nilIface, .lit (.iface 273 (.pointer (some _)))]=>some (true, .bool false)
 |[.lit (.iface 273 (.pointer (some a))), .lit (.iface 273 (.pointer (some b)))]=>some (decide (a=b), .bool true)
 |_=>none
theorem ye{C u v c}(h:MT C [.lit u, .lit v] c.toList):c= #[u,v]:=by
 obtain⟨l⟩:=c;match l,h with
 |[a,b],h=>
  simp only[MT] at h;have e:Rel C (.lit u) a:=⟨h.1,h.2.1,h.2.2.1⟩
  have d:Rel C (.lit v) b:=⟨h.2.2.2.1,h.2.2.2.2.1,h.2.2.2.2.2.1⟩
  rw[aL e,aL d]
 |[],h=>simp[MT] at h
 |[_],h=>simp[MT] at h
 |_::_::_::_,h=>simp[MT] at h
theorem qIs κ:fG (Pr κ) 108 gIs:=by
 intro c x i a;unfold gIs at a;split at a
 ·simp only[an5,ao1,true_and] at a
  subst a;refine⟨_,_,Tryz.func108,rfl,rfl,rfl,fun C h f g b=>?_⟩;rw[ye b];refine(callsIn_wide.2 (L7 _ C.w)).mono ?_;rintro e d ⟨rfl,rfl⟩;exact⟨rfl,ik.refl _⟩
 ·simp only[an5,ao1,an2] at a
  obtain⟨rfl,rfl⟩:=a;refine⟨_,_,Tryz.func108,rfl,rfl,rfl,fun C h f g b=>?_⟩;rw[ye b];refine(callsIn_wide.2 (G6 _ C.w)).mono ?_;rintro e d ⟨rfl,rfl⟩;exact⟨rfl,ik.refl _⟩
 ·cases a
end Go.Proofs.YtioeffnadipbaaaGreatDoor
namespace Go.Proofs.YtioeffnadipbaaaGreatDoor
open Go Go.Dn Go.Rl Go.Proofs
attribute [local irreducible] a8 vc
set_option maxRecDepth 20000
noncomputable def Wc κ:=(To κ).aV 108 gIs
theorem eIs κ:aF (Wc κ):=(ab9 _).ej (qIs _)
theorem mIs κ:aj (Wc κ):=(ah8 _).aV
theorem y16 κ a K:(a8 (Wc κ) 12 96 [aw a] [] K)=(
 letI b:=AV.ptr
 letI c:=AV.bool
 letI d:=Obj.box
 ∃(e0:dt),([b 2 0 [] 0],[d 48 (aw a),d 171 (AV.lit Value.nilIface),d 48 (aw a),Dn.Obj.loop (iE Tryz.prog 96 3 LoopState.ready none
 (ig (bL 15) [(0,aw a),(1,b 0 0 [] 0),(2,c false),(3,b 1 0 [] 0),(5,aw a),(6,AV.bp 171 [b 2 0 [] 0])]))])=([b 2 0 [] 0],
 [d 48 (aw e0),d 171 (AV.lit Value.nilIface),d 48 (aw e0),Dn.Obj.loop (iE Tryz.prog 96 3 LoopState.ready none (ig (bL 15) [(0,aw e0),(1,
 b 0 0 [] 0),(2,c false),(3,b 1 0 [] 0),(5,aw e0),(6,AV.bp 171 [b 2 0 [] 0])]))])/\(e0.hl.length<=9223372036854775807/\
 e0.bl.length<=9223372036854775807)/\an (ba (xQ e0)) (K (c true) []) (aG (decide (Kp.tree κ=Kp.tree κ)) (K (c false) []))):=by kernel_rfl
def g16:List AV->Option (Bool×AV)
 |[.agg [.agg [.lit (.string a), .ad 38 c], .ad 80 b, .lit (.int .i64 _)]]=>some (decide (c.length<=aU)&&decide (b.length<=aU), .bool (ba ⟨⟨a,ae c⟩,dB b⟩))
 |_=>none
theorem p16 κ:cg (Wc κ) 12 96 g16:=by
 intro g x c;unfold g16 at c;split at c
 ·rename_i a d f b
  simp only[an5,ao1,an3,an2] at c;obtain⟨⟨i,h⟩,rfl⟩:=c;refine⟨_,rfl,rfl,?_⟩;rw[y16 κ ⟨[],[],a,d,f,b,0⟩];refine⟨⟨[],[],a,d,f,b,0⟩,rfl,⟨i,h⟩,?_⟩;rw[ag];refine⟨fun e=>?_,fun e=>?_⟩
  ·rw[show ba ⟨⟨a,ae d⟩,dB f⟩=true from e]
  ·rw[show ba ⟨⟨a,ae d⟩,dB f⟩=false from e]
   simp[aG]
 ·cases c
noncomputable def ZO κ:=(Wc κ).aV 96 g16
theorem e16 κ:aF (ZO κ):=(eIs _).aV (mIs _) (p16 _)
theorem m16 κ:aj (ZO κ):=(mIs _).aV
def UI(l:List AV):List AV×List Dn.Obj:=([.ad 38 l],[])
def UB n l:=aM (ae l)=n/\n<=100000
def MI(l:List AV):Out (AV×List Dn.Obj):= .one (.ax 0 0 (ar (ae l)).length,[.row 9 (strs (ar (ae l)))])
def QL n:=aX UI (UB n) MI
noncomputable def El κ r:=(ZO κ).aB 155 fun a st K=>∃m,m<r/\QL m a st K
theorem x31 κ r l i xs k I n K:(vc (El κ r) 12 155 none 0 (ah (Pr κ).toProgram 155 3) (sp 27 [(3, .ax 0 0 k),(6, .ad 38 l),(7, .int l.length),(8, .int i)] [.row 9 xs]) (bh (El κ r) 155 3 0 I n K))=(
 letI a:=AV.ad
 letI c:=IntKind.wrap IntKind.i64 (i+(1:Int))
 letI b:=nth l i.toNat
 letI d:=i<(↑(l.length):Int)
 an (decide d) (aG (decide ((0:Int)<=i)&&decide d) (an (toInt (af b 0)==(1:Int)) (aG (decide ((k+1+1)*17<=70368744177664)) (∃(e2:Nat),e2<r/\∃(e1:List AV),letI e:=List.drop 0 (strs (ar (ae e1)));letI f:=List.length (ar (ae e1));letI g:=List.take f e;([a 38 (aa (af b 3))],aO)=([a 38 e1],aO)/\(aM (ae e1)=e2/\e2<=100000)/\aG (decide ((k+1+List.length g+1)*17<=70368744177664)) (∃(e0:Nat),e0<n/\I e0 (sp 27 [(3,AV.ax 0 0 (k+1+List.length g)),(6,a 38 l),(7,AV.int (↑(l.length):Int)),(8,AV.int c)] [Obj.row 9 (List.take (k+1) (List.take k xs++[AV.str (toStr (af b 1))])++List.take f e)])))) (∃(e2:Nat),e2<r/\∃(e1:List AV),letI h:=List.drop 0 (strs (ar (ae e1)));letI j:=List.length (ar (ae e1));letI m:=List.take j h;([a 38 (aa (af b 3))],aO)=([a 38 e1],aO)/\(aM (ae e1)=e2/\e2<=100000)/\aG (decide ((k+List.length m+1)*17<=70368744177664)) (∃(e0:Nat),e0<n/\I e0 (sp 27 [(3,AV.ax 0 0 (k+List.length m)),(6,a 38 l),(7,AV.int (↑(l.length):Int)),(8,AV.int c)] [Obj.row 9 (List.take k xs++List.take j h)]))))) (K (Exit.exit 0) (sp 27 [(3,AV.ax 0 0 k)] [Obj.row 9 xs]))):=by kernel_rfl
abbrev H0(a:List _×Int×List _):=sp 27 [(3, .ax 0 0 a.2.2.length),(6, .ad 38 a.1),(7, .int a.1.length),(8, .int a.2.1)] [.row 9 (strs a.2.2)]
def HE r(a:List _×Int×List ByteArray):=a.1.length<=aU/\0<=a.2.1/\a.2.1<=a.1.length/\aM (ae (a.1.drop a.2.1.toNat))<=r/\a.2.2.length+aM (ae (a.1.drop a.2.1.toNat))<=100000
def xq(a:List AV×Int×List ByteArray):Out (Exit×S):= .one (.exit 0,sp 27 [(3, .ax 0 0 (a.2.2++ar (ae (a.1.drop a.2.1.toNat))).length)] [.row 9 (strs (a.2.2++ar (ae (a.1.drop a.2.1.toNat))))])
theorem GF l i(h:i<l.length):aM (ae (l.drop i))=1+aM (ae (aa (af (nth l i) 3)))+aM (ae (l.drop (i+1))):=by
 grind [eg,aM,cF,Tm.eT]
theorem OP l i(h:i<l.length):ar (ae (l.drop i))=(bif decide (toInt (af (nth l i) 0)=1) then[toStr (af (nth l i) 1)] else[])++ar (ae (aa (af (nth l i) 3)))++ar (ae (l.drop (i+1))):=by
 grind [eg,ar,cF,Tm.vars]
theorem l31 κ r:aP (El κ r) 12 155 3 (aI 0 H0 (HE r) xq):=by
 refine aD (fun a=>a.1.length - a.2.1.toNat) ?_;rintro⟨l,i,c⟩ K ⟨d,f,j,k,m⟩ b;simp only at d f j k m;rw[show(El κ r).P=Pr κ from rfl];refine Eq.mpr (x31 κ r l i (strs c) c.length _ _ K) ?_;simp only[ao2,c6];simp only[aU] at d;simp only[ag,ai,an2,an4,an3,beq_iff_eq,beq_eq_false_iff_ne];refine⟨fun g=>⟨⟨f,g⟩,?_⟩,fun g=>?_⟩
 ·have p:=GF l i.toNat (by omega)
  have h:=OP l i.toNat (by omega);have o:=cU (ae (aa (af (nth l i.toNat) 3)));rw[ay (n:=i+1) (by omega) (by omega)];refine⟨fun e=>⟨by omega,_,?_,aa (af (nth l i.toNat) 3),rfl,⟨rfl,by omega⟩,?_,_,?_,(l,i+1,c++[toStr (af (nth l i.toNat) 1)]++ar (ae (aa (af (nth l i.toNat) 3)))),?_,⟨by simpa[aU] using d,by simp only;omega,by simp only;omega,?_,?_⟩,rfl,?_⟩,
   fun e=>⟨_,?_,aa (af (nth l i.toNat) 3),rfl,⟨rfl,by omega⟩,?_,_,?_,(l,i+1,c++ar (ae (aa (af (nth l i.toNat) 3)))),?_,⟨by simpa[aU] using d,by simp only;omega,by simp only;omega,?_,?_⟩,rfl,?_⟩⟩
  all_goals first
   |omega
   |(simp only[aR];omega)
   |(simp only[show(i+1).toNat=i.toNat+1 by omega,ao6,List.length_cons,List.length_nil];omega)
   |skip
  ·simp only[H0,iz,aR,ao6,List.length_cons,List.length_nil]
   rw[List.take_of_length_le (by simp[aR])];rfl
  ·simp only[xq,Out.run,show(i+1).toNat=i.toNat+1 by omega] at b⊢
   rw[h,an8 e] at b;simpa[List.append_assoc] using b
  ·simp only[H0,iz,aR,ao6]
  ·simp only[xq,Out.run,show(i+1).toNat=i.toNat+1 by omega] at b⊢
   rw[h,an6 e] at b;simpa[List.append_assoc] using b
 ·simp only[xq,Out.run] at b
  rw[ao0 (by omega)] at b;simpa[ae,ar] using b
noncomputable def KU κ r:=(El κ r).aq 155 3 (aI 0 H0 (HE r) xq)
theorem y31 κ r l K:(a8 (KU κ r) 12 155 [.ad 38 l] [] K)=(
 ah (Pg.toProgram (Env.P (El κ r))) 155 3=ah (Pg.toProgram (Env.P (El κ r))) 155 3/\∃(a:List AV×Int×List ByteArray),letI b:=ae (List.drop a.2.1.toNat a.1);sp 27 [(3,AV.ax 0 0 0),(6,AV.ad 38 l),(7,AV.int (↑(l.length):Int)),(8,AV.int 0)] [Obj.row 9 []]=sp 27 [(3,AV.ax 0 0 (List.length a.2.2)),(6,AV.ad 38 a.1),(7,AV.int (↑(a.1.length):Int)),(8,AV.int a.2.1)] [Obj.row 9 (strs a.2.2)]/\(a.1.length<=9223372036854775807/\(0:Int)<=a.2.1/\a.2.1<=(↑(a.1.length):Int)/\aM b<=r/\List.length a.2.2+aM b<=100000)/\K (AV.ax 0 0 (List.length (a.2.2++ar b))) [Obj.row 9 (strs (a.2.2++ar b))]):=by kernel_rfl
theorem J6 n:(QL n).gA:=aZ
theorem ac5 κ r(d: ∀a st K,(∃m,m<r/\QL m a st K)->bt (Pr κ) 155 a st K):aF (KU κ r)/\aj (KU κ r)/\(KU κ r).P=Pr κ:=
 have h:=(e16 _).eX d;have b:=(m16 _).aB fun _ _ _ _ e ⟨m,f,c⟩=>⟨m,f,J6 m _ _ _ _ e c⟩
 ⟨h.aq b (l31 _ r),b.aq a0,rfl⟩
theorem c31 κ r:bq (KU κ r) 12 155 (QL r):=by
 refine a7 ?_;rintro l K ⟨b,c⟩ a;refine Eq.mpr (y31 κ r l K) ?_;have:=eu (ae l)
 rw[dz] at this;refine⟨rfl,(l,0,[]),rfl,⟨by simp only;omega,by simp only;omega,by simp only;omega,?_,?_⟩,?_⟩
 ·grind
 ·grind
 ·exact a
def bE l:=aM (ae l)<=100000
theorem q31 κ: ∀a st K,aX UI bE MI a st K->bt (Pr κ) 155 a st K:=by
 rintro a st K ⟨l,c,d,b⟩;exact aF.nf _ _ (ac5 _) (c31 _) _ _ _ K ⟨l,c,⟨rfl,d⟩,b⟩
noncomputable def O9 κ:=(ZO κ).aB 155 (aX UI bE MI)
theorem e31 κ:aF (O9 κ):=(e16 _).eX (q31 _)
theorem m31 κ:aj (O9 κ):=(m16 _).aB aZ
theorem x23 κ l i es I n K:(vc (O9 κ) 12 112 none 1 (ah (Pr κ).toProgram 112 1) (sp 15 [(0, .mp 0),(6, .ad 9 l),(7, .int l.length),(8, .int i)] [.map 9 4 es]) (bh (O9 κ) 112 1 1 I n K))=(
 letI a:=i<(↑(l.length):Int)
 an (decide a) (aG (decide ((0:Int)<=i)&&decide a) (∃(e0:Nat),e0<n/\I e0 (sp 15 [(0,AV.mp 0),(6,AV.ad 9 l),(7,AV.int (↑(l.length):Int)),(8,
 AV.int (IntKind.wrap IntKind.i64 (i+(1:Int))))] [Dn.Obj.map 9 4 (fw es (Value.string (toStr (nth l i.toNat))) (AV.bool true))]))) (K (Exit.exit 0) (sp 15 []
 [Dn.Obj.map 9 4 es]))):=by kernel_rfl
abbrev Sg(a:List _×Int×List _):=sp 15 [(0, .mp 0),(6, .ad 9 a.1),(7, .int a.1.length),(8, .int a.2.1)] [.map 9 4 a.2.2]
def vD(a:List AV×Int×List (Value×AV)):=a.1.length<=aU/\0<=a.2.1/\a.2.1<=a.1.length
def Bl(a:List AV×Int×List (Value×AV)):Out (Exit×S):= .one (.exit 0,sp 15 [] [.map 9 4 (fU a.2.2 (a.1.drop a.2.1.toNat))])
theorem l23 κ:aP (O9 κ) 12 112 1 (aI 1 Sg vD Bl):=by
 refine aD (fun a=>a.1.length - a.2.1.toNat) ?_;rintro⟨l,i,f⟩ K ⟨b,d,g⟩ c;simp only at b d g;rw[show(O9 κ).P=Pr κ from rfl];refine Eq.mpr (x23 κ l i f _ _ K) ?_;simp only[aU] at b;simp only[ag,ai,an2,an4,an3];refine⟨fun e=>⟨⟨d,e⟩,?_⟩,fun e=>?_⟩
 ·rw[ay (n:=i+1) (by omega) (by omega)]
  refine⟨_,?_,(l,i+1,fw f (.string (toStr (nth l i.toNat))) (.lit (.bool true))),rfl,⟨by simpa[aU] using b,by simp only;omega,by simp only;omega⟩,rfl,?_⟩
  ·simp only;omega
  grind [Bl,Out.run,List.drop_eq_getElem_cons,fU,aJ]
 ·simp only[Bl,Out.run] at c
  rw[ao0 (by omega)] at c;exact c
noncomputable def KS κ:=(O9 κ).aq 112 1 (aI 1 Sg vD Bl)
theorem ac3 κ:aF (KS κ):=(e31 _).aq (m31 _) (l23 _)
theorem W7 κ:aj (KS κ):=(m31 _).aq a0
theorem y23 κ l es K:(a8 (KS κ) 12 112 [.mp 0, .ad 9 l] [.map 9 4 es] K)=(
 letI a:=Dn.Obj.map
 letI b:=Pg.toProgram (Env.P (O9 κ))
 ah b 112 1=ah b 112 1/\∃(e0:List AV×Int×List (Value×AV)),sp 15 [(0,AV.mp 0),(6,AV.ad 9 l),(7,AV.int (↑(l.length):Int)),(8,AV.int 0)]
 [a 9 4 es]=sp 15 [(0,AV.mp 0),(6,AV.ad 9 e0.1),(7,AV.int (↑(e0.1.length):Int)),(8,AV.int e0.2.1)] [a 9 4 e0.2.2]/\(e0.1.length<=
 9223372036854775807/\(0:Int)<=e0.2.1/\e0.2.1<=(↑(e0.1.length):Int))/\K (AV.aK []) [a 9 4 (fU e0.2.2 (List.drop e0.2.1.toNat e0.1))]):=by kernel_rfl
def QY(a:List AV×List (Value×AV)):List AV×List Dn.Obj:=([.mp 0, .ad 9 a.1],[.map 9 4 a.2])
def bm(a:List AV×List (Value×AV)):=a.1.length<=aU
def RU(a:List AV×List (Value×AV)):Out (AV×List Dn.Obj):= .one (.aK [],[.map 9 4 (fU a.2 a.1)])
theorem c23 κ:bq (KS κ) 12 112 (aX QY bm RU):=by
 refine a7 ?_;rintro⟨l,b⟩ K c a;refine Eq.mpr (y23 _ l _ K) ?_;exact⟨rfl,(l,0,b),rfl,⟨c,by simp,by simp⟩,a⟩
noncomputable def O7 κ:=(KS κ).aB 112 (aX QY bm RU)
theorem e23 κ:aF (O7 κ):=(ac3 _).aB (W7 _) (c23 _)
theorem m23 κ:aj (O7 κ):=(W7 _).aB aZ
theorem x41 κ l i es I n K:(vc (O7 κ) 12 161 none 2 (ah (Pr κ).toProgram 161 2) (sp 19 [(0, .ad 9 l),(1, .bp 183 [.ptr 1 0 [] 0]),(7, .int l.length),(8, .int i)] [.map 9 4 es, .box 178 (.mp 0)]) (bh (O7 κ) 161 2 2 I n K))=(
 letI a:=Dn.Obj.map
 letI b:=i<(↑(l.length):Int)
 an (decide b) (aG (decide ((0:Int)<=i)&&decide b) (an (!Dn.toBool (de es (Value.string (toStr (nth l i.toNat))) (AV.bool false))) (K Exit.ret (sp 19 [(4,
 AV.int i)] [a 9 4 es,Obj.box 178 (AV.mp 0)])) (∃(e0:Nat),e0<n/\I e0 (sp 19 [(0,AV.ad 9 l),(1,AV.bp 183 [AV.ptr 1 0 [] 0]),(7,AV.int
 (↑(l.length):Int)),(8,AV.int (IntKind.wrap IntKind.i64 (i+(1:Int))))] [a 9 4 es,Obj.box 178 (AV.mp 0)])))) (K (Exit.exit 0) (sp 19 []
 [a 9 4 es,Obj.box 178 (AV.mp 0)]))):=by kernel_rfl
abbrev OA(a:List (Value×AV)):List Dn.Obj:=[.map 9 4 a, .box 178 (.mp 0)]
abbrev Si(a:List _×Int×List _):=sp 19 [(0, .ad 9 a.1),(1, .bp 183 [.ptr 1 0 [] 0]),(7, .int a.1.length),(8, .int a.2.1)] (OA a.2.2)
def Bn(a:List AV×Int×List (Value×AV)):Out (Exit×S):=
 .an (gB a.2.2 (a.1.drop a.2.1.toNat)) (.one (.exit 0,sp 19 [] (OA a.2.2))) (.all (fun j=>0<=j) fun j=> .one (.ret,sp 19 [(4, .int j)] (OA a.2.2)))
theorem l41 κ:aP (O7 κ) 12 161 2 (aI 2 Si vD Bn):=by
 refine aD (fun a=>a.1.length - a.2.1.toNat) ?_;rintro⟨l,i,c⟩ K ⟨d,f,h⟩ b;simp only at d f h;rw[show(O7 κ).P=Pr κ from rfl];refine Eq.mpr (x41 κ l i c _ _ K) ?_;simp only[aU] at d;simp only[Bn,Out.run,ag] at b;simp only[ag,ai,an2,an4,an3,Bool.not_eq_true',ao4];refine⟨fun g=>⟨⟨f,g⟩,?_⟩,fun g=>?_⟩
 ·rw[ao3 (show i.toNat<l.length by omega),←aJ l i.toNat (by omega)] at b
  simp only[gB,ao8] at b;refine⟨fun e=>?_,fun e=>?_⟩
  ·grind [mu,toStr,nth]
  ·have j:mu c (toStr (nth l i.toNat))=true:=e
   rw[j,ao7] at b;rw[ay (n:=i+1) (by omega) (by omega)];refine⟨_,?_,(l,i+1,c),rfl,⟨by simpa[aU] using d,by simp only;omega,by simp only;omega⟩,rfl,?_⟩
   ·simp only;omega
   ·simp only[Bn,Out.run,ag,show(i+1).toNat=i.toNat+1 by omega]
    exact b
 ·rw[ao0 (by omega)] at b
  exact b.1 rfl
noncomputable def KY κ:=(O7 κ).aq 161 2 (aI 2 Si vD Bn)
theorem ac9 κ:aF (KY κ):=(e23 _).aq (m23 _) (l41 _)
theorem Xc κ:aj (KY κ):=(m23 _).aq a0
theorem y30 κ l es K:(a8 (KY κ) 12 154 [.mp 0, .ad 9 l] [.map 9 4 es] K)=(
 letI b:=Dn.Obj.map
 ah (Pg.toProgram (Env.P (O7 κ))) 161 2=ah (Pg.toProgram (Env.P (O7 κ))) 161 2/\∃(a:List AV×Int×List (Value×AV)),sp 19 [(0,AV.ad 9
 l),(1,AV.bp 183 [AV.ptr 1 0 [] 0]),(7,AV.int (↑(l.length):Int)),(8,AV.int 0)] [b 9 4 es,Obj.box 178 (AV.mp 0)]=sp 19 [(0,AV.ad 9 a.1),
 (1,AV.bp 183 [AV.ptr 1 0 [] 0]),(7,AV.int (↑(a.1.length):Int)),(8,AV.int a.2.1)] [b 9 4 a.2.2,Obj.box 178 (AV.mp 0)]/\(a.1.length<=
 9223372036854775807/\(0:Int)<=a.2.1/\a.2.1<=(↑(a.1.length):Int))/\an (gB a.2.2 (List.drop a.2.1.toNat a.1)) (K (AV.bool true) [b 9 4
 a.2.2]) (∀(y:Int),(0:Int)<=y->K (AV.lit (Value.bool !decide (y>=(0:Int)))) [b 9 4 a.2.2])):=by kernel_rfl
def MH(a:List AV×List (Value×AV)):Out (AV×List Dn.Obj):= .one (.bool (gB a.2 a.1),[.map 9 4 a.2])
theorem c30 κ:bq (KY κ) 12 154 (aX QY bm MH):=by
 refine a7 ?_;rintro⟨l,a⟩ K b c;refine Eq.mpr (y30 κ l a K) ?_;refine⟨rfl,(l,0,a),rfl,⟨b,by simp only;omega,by simp⟩,?_⟩
 grind [MH,Out.run,ag]
noncomputable def O8 κ:=(KY κ).aB 154 (aX QY bm MH)
theorem e30 κ:aF (O8 κ):=(ac9 _).aB (Xc _) (c30 _)
theorem m30 κ:aj (O8 κ):=(Xc _).aB aZ
theorem x62 κ l i vs I n K:(vc (O8 κ) 12 200 none 0 (ah (Pr κ).toProgram 200 3) (sp 23 [(3, .ax 0 0 vs.length),(7, .ad 38 l),(8, .int l.length),(9, .int i)] [.row 9 (strs vs)]) (bh (O8 κ) 200 3 0 I n K))=(
 letI a:=AV.int
 letI b:=nth l i.toNat
 letI c:=IntKind.wrap IntKind.i64 (i+(1:Int))
 letI d:=i<(↑(l.length):Int)
 an (decide d) (aG (decide ((0:Int)<=i)&&decide d) (an (decide (toInt (af b 0)>=(5:Int))) (∃(e1:List AV),letI e:=List.drop 0 (strs (ar (ae e1)));letI f:=List.length (ar (ae e1));letI g:=List.take f e;([AV.ad 38 [AV.agg [a (toInt (af b 0)),AV.str (toStr (af b 1)),a (toInt (af b 2)),AV.ad 38 (aa (af b 3))]]],aO)=([AV.ad 38 e1],aO)/\bE e1/\aG (decide ((vs.length+List.length g+1)*17<=70368744177664)) (∃(e0:Nat),e0<n/\I e0 (sp 23 [(3,AV.ax 0 0 (vs.length+List.length g)),(7,AV.ad 38 l),(8,a (↑(l.length):Int)),(9,a c)] [Obj.row 9 (List.take vs.length (strs vs)++List.take f e)]))) (∃(e0:Nat),e0<n/\I e0 (sp 23 [(3,AV.ax 0 0 vs.length),(7,AV.ad 38 l),(8,a (↑(l.length):Int)),(9,a c)] [Obj.row 9 (strs vs)])))) (K (Exit.exit 0) (sp 23 [(3,AV.ax 0 0 vs.length)] [Obj.row 9 (strs vs)]))):=by kernel_rfl
abbrev Og(a:List _×Int×List _):=sp 23 [(3, .ax 0 0 a.2.2.length),(7, .ad 38 a.1),(8, .int a.1.length),(9, .int a.2.1)] [.row 9 (strs a.2.2)]
def HM(a:List _×Int×List ByteArray):=a.1.length<=aU/\0<=a.2.1/\a.2.1<=a.1.length/\a.2.2.length+aM (ae (a.1.drop a.2.1.toNat))<=100000
def xw(a:List AV×Int×List ByteArray):Out (Exit×S):= .one (.exit 0,sp 23 [(3, .ax 0 0 (a.2.2++dQ (ae (a.1.drop a.2.1.toNat))).length)] [.row 9 (strs (a.2.2++dQ (ae (a.1.drop a.2.1.toNat))))])
theorem l62 κ:aP (O8 κ) 12 200 3 (aI 0 Og HM xw):=by
 refine aD (fun a=>a.1.length - a.2.1.toNat) ?_;rintro⟨l,i,e⟩ K ⟨c,h,k,m⟩ b;simp only at c h k m;rw[show(O8 κ).P=Pr κ from rfl];refine Eq.mpr (x62 κ l i e _ _ K) ?_;simp only[ao2,c6];simp only[aU] at c;simp only[ag,ai,an2,an4,an3];refine⟨fun j=>⟨⟨h,j⟩,?_⟩,fun j=>?_⟩
 ·have g:=No l i.toNat (by omega)
  have p:aM (ae (l.drop i.toNat))=aM [bX (nth l i.toNat)]+aM (ae (l.drop (i.toNat+1))):=by
   rw[eg l i.toNat (by omega)];simp only[aM,Nat.add_zero]
  have o:=cU [bX (nth l i.toNat)];have f:ae [.agg [.int (toInt (af (nth l i.toNat) 0)), .lit (.string (toStr (af (nth l i.toNat) 1))), .int (toInt (af (nth l i.toNat) 2)), .ad 38 (aa (af (nth l i.toNat) 3))]]=[bX (nth l i.toNat)]:=by
   simp only[ae,ao9,List.map_nil];rw[pA,←cF]
  rw[ay (n:=i+1) (by omega) (by omega)];refine⟨fun d=>⟨_,rfl,?_,?_,_,?_,(l,i+1,e++ar [bX (nth l i.toNat)]),?_,⟨by simpa[aU] using c,by simp only;omega,by simp only;omega,?_⟩,rfl,?_⟩,fun d=>⟨_,?_,(l,i+1,e),rfl,⟨by simpa[aU] using c,by simp only;omega,by simp only;omega,?_⟩,rfl,?_⟩⟩
  ·simp only[bE,f];omega
  ·rw[f,aR];omega
  ·simp only;omega
  ·rw[f];simp only[Og,iz,aR,ao6]
  ·simp only[show(i+1).toNat=i.toNat+1 by omega,ao6];omega
  ·simp only[xw,Out.run,show(i+1).toNat=i.toNat+1 by omega] at b⊢
   rw[g,an8 (show 5<=toInt (af (nth l i.toNat) 0) from d)] at b;simpa[List.append_assoc] using b
  ·simp only;omega
  ·simp only[show(i+1).toNat=i.toNat+1 by omega];omega
  ·simp only[xw,Out.run,show(i+1).toNat=i.toNat+1 by omega] at b⊢
   rw[g,an6 (show ¬ 5<=toInt (af (nth l i.toNat) 0) from d)] at b;simpa[List.append_assoc] using b
 ·simp only[xw,Out.run] at b
  rw[ao0 (by omega)] at b;simpa[ae,dQ] using b
noncomputable def K9 κ:=(O8 κ).aq 200 3 (aI 0 Og HM xw)
theorem ae2 κ:aF (K9 κ):=(e30 _).aq (m30 _) (l62 _)
theorem Xn κ:aj (K9 κ):=(m30 _).aq a0
theorem y62 κ s l K:(a8 (K9 κ) 12 200 [.agg [.lit (.string s), .ad 38 l]] [] K)=(
 ah (Pg.toProgram (Env.P (O8 κ))) 200 3=ah (Pg.toProgram (Env.P (O8 κ))) 200 3/\∃(a:List AV×Int×List ByteArray),letI b:=ae (List.drop a.2.1.toNat a.1);sp 23 [(3,AV.ax 0 0 0),(7,AV.ad 38 l),(8,AV.int (↑(l.length):Int)),(9,AV.int 0)] [Obj.row 9 []]=sp 23 [(3,AV.ax 0 0 (List.length a.2.2)),(7,AV.ad 38 a.1),(8,AV.int (↑(a.1.length):Int)),(9,AV.int a.2.1)] [Obj.row 9 (strs a.2.2)]/\(a.1.length<=9223372036854775807/\(0:Int)<=a.2.1/\a.2.1<=(↑(a.1.length):Int)/\List.length a.2.2+aM b<=100000)/\K (AV.ax 0 0 (List.length (a.2.2++dQ b))) [Obj.row 9 (strs (a.2.2++dQ b))]):=by kernel_rfl
def YL(a:ByteArray×List AV):List AV×List Dn.Obj:=([.agg [.lit (.string a.1), .ad 38 a.2]],[])
def kk(a:ByteArray×List _):=aM (ae a.2)<=100000
def RZ(a:ByteArray×List AV):Out (AV×List Dn.Obj):= .one (.ax 0 0 (dQ (ae a.2)).length,[.row 9 (strs (dQ (ae a.2)))])
theorem c62 κ:bq (K9 κ) 12 200 (aX YL kk RZ):=by
 refine a7 ?_;rintro⟨s,l⟩ K a b;simp only[kk] at a;refine Eq.mpr (y62 κ s l K) ?_;have:=eu (ae l)
 rw[dz] at this;refine⟨rfl,(l,0,[]),rfl,⟨by simp only;omega,by simp,by simp only;omega,?_⟩,?_⟩
 ·grind
 ·exact b
noncomputable def V3 κ:=(K9 κ).aB 200 (aX YL kk RZ)
theorem e62 κ:aF (V3 κ):=(ae2 _).aB (Xn _) (c62 _)
theorem m62 κ:aj (V3 κ):=(Xn _).aB aZ
structure LA where
 op:Int
 s:ByteArray
 l:List AV
 o1:Int
 s1:ByteArray
 n1:Int
 l1:List AV
 o2:Int
 s2:ByteArray
 n2:Int
 l2:List AV
abbrev LA.av(a:LA):AV:= .agg [.int a.op, .agg [.lit (.string a.s), .ad 38 a.l], .agg [.int a.o1, .lit (.string a.s1), .int a.n1, .ad 38 a.l1], .agg [.int a.o2, .lit (.string a.s2), .int a.n2, .ad 38 a.l2]]
theorem y21 κ(a:LA) K:(a8 (V3 κ) 12 137 [a.av] [] K)=(
 K (AV.bool (decide (a.op>=(7:Int)))) []):=by kernel_rfl
def g21:List AV->Option (Bool×AV)
 |[.agg [.lit (.int .i64 a), .agg [.lit (.string _), .ad 38 _], .agg [.lit (.int .i64 _), .lit (.string _), .lit (.int .i64 _), .ad 38 _], .agg [.lit (.int .i64 _), .lit (.string _), .lit (.int .i64 _), .ad 38 _]]]=>some (true, .bool (decide (7<=a)))
 |_=>none
theorem p21 κ:cg (V3 κ) 12 137 g21:=by
 intro b x a;unfold g21 at a;split at a
 ·rename_i d s l e s1 f g h s2 i c
  simp only[an5,ao1,true_and] at a;subst a;exact⟨_,rfl,rfl,Eq.mpr (y21 κ ⟨d,s,l,e,s1,f,g,h,s2,i,c⟩ _) rfl⟩
 ·cases a
noncomputable def VY κ:=(V3 κ).aV 137 g21
theorem e21 κ:aF (VY κ):=(e62 _).aV (m62 _) (p21 _)
theorem m21 κ:aj (VY κ):=(m62 _).aV
theorem y40 κ(a:LA) K:(a8 (VY κ) 12 160 [a.av] [] K)=(
 letI b:=AV.ad
 letI c:=∃(e1:List AV),letI d:=ar (ae e1);([b 38 [AV.agg [AV.int a.o1,AV.str a.s1,AV.int a.n1,b 38 a.l1],AV.agg [AV.int a.o2,AV.str a.s2,AV.int a.n2,b 38 a.l2]]],aO)=([b 38 e1],aO)/\bE e1/\∃(e0:List AV),letI e:=List.drop 0 (strs (ar (ae e0)));letI f:=List.length (ar (ae e0));letI g:=List.take f e;([b 38 a.l],aO)=([b 38 e0],aO)/\bE e0/\aG (decide ((List.length d+List.length g+1)*17<=70368744177664)) (K (AV.ax 0 0 (List.length d+List.length g)) [Obj.row 9 (List.take (List.length d) (strs d)++List.take f e)])
 (c/\c/\c/\c)/\(c/\c/\c)/\(c/\c)/\c):=by kernel_rfl
def LA.lt(a:LA):Lt:=⟨a.op,⟨a.s,ae a.l⟩, .mk a.o1 a.s1 a.n1 (ae a.l1), .mk a.o2 a.s2 a.n2 (ae a.l2)⟩
def YH(a:LA):List AV×List Dn.Obj:=([a.av],[])
def gE(a:LA):Prop:=jh a.lt<=100000
def MJ(a:LA):Out (AV×List Dn.Obj):= .one (.ax 0 0 (ew a.lt).length,[.row 9 (strs (ew a.lt))])
theorem c40 κ:bq (VY κ) 12 160 (aX YH gE MJ):=by
 refine a7 ?_;rintro a K c e;refine Eq.mpr (y40 κ a K) ?_;simp only[and_self];simp only[gE,jh,LA.lt] at c;have b:ae [.agg [.int a.o1, .lit (.string a.s1), .int a.n1, .ad 38 a.l1], .agg [.int a.o2, .lit (.string a.s2), .int a.n2, .ad 38 a.l2]]=[.mk a.o1 a.s1 a.n1 (ae a.l1), .mk a.o2 a.s2 a.n2 (ae a.l2)]:=by
  simp only[ae,ao9,List.map_nil];rw[pA,pA];rfl
 have f:=cU (ae a.l);have d:=cU [.mk a.o1 a.s1 a.n1 (ae a.l1), .mk a.o2 a.s2 a.n2 (ae a.l2)];refine⟨_,rfl,?_,_,rfl,?_,?_⟩
 ·simp only[bE,b];omega
 ·simp only[bE];omega
 ·simp only[ao2,c6,b,aR]
  rw[ai,an2]
  grind [MJ,Out.run,ew,LA.lt,iz,List.length_append]
noncomputable def V0 κ:=(VY κ).aB 160 (aX YH gE MJ)
theorem e40 κ:aF (V0 κ):=(e21 _).aB (m21 _) (c40 _)
theorem m40 κ:aj (V0 κ):=(m21 _).aB aZ
structure TA where
 o1:Int
 s1:ByteArray
 n1:Int
 l1:List AV
 o2:Int
 s2:ByteArray
 n2:Int
 l2:List AV
 es:List (Value×AV)
theorem y20 κ(a:TA) K:(a8 (V0 κ) 12 136 [.mp 0, .agg [.int a.o1, .lit (.string a.s1), .int a.n1, .ad 38 a.l1], .agg [.int a.o2, .lit (.string a.s2), .int a.n2, .ad 38 a.l2]] [.map 9 4 a.es] K)=(
 letI b:=Dn.Obj.map
 letI c:=K (AV.bool false) [b 9 4 a.es]
 an (a.o1==(1:Int)) (an (!Dn.toBool (de a.es (Value.string a.s1) (AV.bool false))) (∃(e1:List AV),([AV.ad 38 [AV.agg [AV.int a.o2,AV.str a.s2,AV.int
 a.n2,AV.ad 38 a.l2]]],aO)=([AV.ad 38 e1],aO)/\bE e1/\∃(e0:List AV×List (Value×AV)),([AV.mp 0,AV.ad 9 (List.take (List.length (ar (ae e1)))
 (List.drop 0 (strs (ar (ae e1)))))],[b 9 4 a.es])=([AV.mp 0,AV.ad 9 e0.1],[b 9 4 e0.2])/\bm e0/\K (AV.bool (gB e0.2 e0.1)) [b
 9 4 e0.2]) c) c):=by kernel_rfl
def TA.x(a:TA):Tm:= .mk a.o1 a.s1 a.n1 (ae a.l1)
def TA.y(a:TA):Tm:= .mk a.o2 a.s2 a.n2 (ae a.l2)
def YF(a:TA):List AV×List Dn.Obj:=([.mp 0, .agg [.int a.o1, .lit (.string a.s1), .int a.n1, .ad 38 a.l1], .agg [.int a.o2, .lit (.string a.s2), .int a.n2, .ad 38 a.l2]],[.map 9 4 a.es])
def jr(a:TA):=aM [a.y]<=100000
def RT(a:TA):Out (AV×List Dn.Obj):= .one (.bool (mi a.es a.x a.y),[.map 9 4 a.es])
theorem c20 κ:bq (V0 κ) 12 136 (aX YF jr RT):=by
 refine a7 ?_;rintro a K d i;refine Eq.mpr (y20 κ a K) ?_;have e:ae [.agg [.int a.o2, .lit (.string a.s2), .int a.n2, .ad 38 a.l2]]=[a.y]:=by
  simp only[ae,ao9,List.map_nil];rw[pA];rfl
 have h:=cU [a.y];have b:K (.bool (decide (a.o1=1)&&(!mu a.es a.s1&&gB a.es (strs (ar [a.y]))))) [.map 9 4 a.es]:=i;simp only[jr] at d;simp only[ag,beq_iff_eq,beq_eq_false_iff_ne,Bool.not_eq_true',ao4];refine⟨fun f=>⟨fun g=>?_,fun g=>?_⟩,fun f=>?_⟩
 ·have c:mu a.es a.s1=false:=g
  rw[an8 f,c] at b;refine⟨_,rfl,by simp only[bE,e];exact d,(strs (ar [a.y]),a.es),?_,?_,b⟩
  ·simp only[ao2,c6,e]
  ·simp only[bm,aR,aU];omega
 ·grind [mu,decide_eq_true]
 grind
noncomputable def ZP κ:=(V0 κ).aB 136 (aX YF jr RT)
theorem e20 κ:aF (ZP κ):=(e40 _).aB (m40 _) (c20 _)
theorem m20 κ:aj (ZP κ):=(m40 _).aB aZ
end Go.Proofs.YtioeffnadipbaaaGreatDoor
