import Derived.Test.YtioeffnadipbaaaGreatDoorDoI
import Derived.Test.YtioeffnadipbaaaGreatDoorProg
import Derived.Test.YtioeffnadipbaaaGreatDoorChecked
import Derived.WalkKit
import Derived.LaidEql
import Derived.Stop.Asserts
import Derived.RowKitTokens
namespace Go.Rl
open Go Go.Dn
inductive Tm where
 |mk (op:Int) (s:ByteArray) (n:Int) (l:List Tm)
def Tm.op:Tm->Int| .mk o _ _ _=>o
def Tm.s:Tm->ByteArray| .mk _ s _ _=>s
def Tm.n:Tm->Int| .mk _ _ n _=>n
def Tm.l:Tm->List Tm| .mk _ _ _ l=>l
theorem Oy a k:SizeOf.sizeOf (af a k)<SizeOf.sizeOf a\/af a k= .cP:=by
 cases a with
 | agg l=>
  simp only[af];have: ∀l k,SizeOf.sizeOf (nth l k)<SizeOf.sizeOf l\/nth l k= .cP:=by
   intro l;induction l with
   |nil=>intro k;exact .inr rfl
   |cons a l b=>
    intro k;cases k<;>grind [nth]
  grind
 |_=>exact .inr rfl
theorem Pe{a x}(h:x∈ag a):SizeOf.sizeOf x<SizeOf.sizeOf a:=by
 cases a with
 |ah T l=>
  have:=List.sizeOf_lt_of_mem (show x∈l from h)
  grind
 |_=>grind [ag]
theorem tu{a x k}(h:x∈ag (af a k)):SizeOf.sizeOf x<SizeOf.sizeOf a:=by
 rcases Oy a k with b|b
 ·have:=Pe h;omega
 grind [ag]
def cx(a:AV):Tm:= .mk (toInt (af a 0)) (toStr (af a 1)) (toInt (af a 2)) ((ag (af a 3)).attach.map fun x=>cx x.1)
termination_by SizeOf.sizeOf a
decreasing_by exact tu x.2
def aa(l:List AV):List Tm:=l.map cx
theorem cI a:cx a= .mk (toInt (af a 0)) (toStr (af a 1)) (toInt (af a 2)) (aa (ag (af a 3))):=by
 rw[cx]
 simp_all[aa]
theorem tw a s n T l:cx (.agg [.lit (.int .i64 a), .lit (.string s), .lit (.int .i64 n), .ah T l])= .mk a s n (aa l):=by
 rw[cI];rfl
structure At where
 rel:ByteArray
 l:List Tm
def Oa(a:AV):At:=⟨toStr (af a 0),aa (ag (af a 1))⟩
structure Lt where
 op:Int
 a:At
 x:Tm
 y:Tm
def bQ(a:AV):Lt:=⟨toInt (af a 0),Oa (af a 1),cx (af a 2),cx (af a 3)⟩
structure Rl where
 head:At
 body:List Lt
def dI(l:List AV):List Lt:=l.map bQ
def y1(a:AV):Rl:=⟨Oa (af a 0),dI (ag (af a 1))⟩
def letter(c:Int):=decide (97<=c)&&decide (c<=122)||decide (65<=c)&&decide (c<=90)||decide (c=95)
theorem Bo s p:1<=(Utf8.decode s p).2:=by
 grind [Utf8.decode]
def nameAt(s:ByteArray)(p:Nat):Bool:=
 if h:p<s.size then
  (letter (Utf8.decode s p).1||(!(decide ((p:Int)=0)||decide (((Utf8.decode s p).1:Int)<48)||decide ((57:Int)<(Utf8.decode s p).1))))&&nameAt s (p+(Utf8.decode s p).2)
 else true
termination_by s.size - p
decreasing_by have:=Bo s p;omega
def oT(a b:ByteArray):=a.toList==b.toList
def isName s:=!(oT s (ByteArray.mk #[])||oT s (ByteArray.mk #[95])||decide ((40:Int)<s.size))&&nameAt s 0
def iY(a:Int):=decide (a=5)||decide (a=6)||decide (a=7)
def bare(a:Int) s(n:Int):=
 bif decide (a=1) then isName s&&decide (n=0)
 else bif decide (a=2) then oT s (ByteArray.mk #[])
 else bif decide (a=3) then decide (n=0)
 else bif decide (a=4)||decide (a=0) then oT s (ByteArray.mk #[])&&decide (n=0)
 else false
def au:Nat->Tm->Bool
 |0,_=>false
 |h+1,t=>
  bif decide (t.op=0) then false
  else bif iY t.op then oT t.s (ByteArray.mk #[])&&decide (t.n=0)&&decide (t.l.length=2)&&t.l.all fun x=>!(decide (x.op=3)||decide (x.op=4))&&au h x
  else bare t.op t.s t.n&&decide (t.l.length=0)
def mx h(l:List _):=l.all fun x=>!(decide (x.op=3)||decide (x.op=4))&&au h x
theorem eS l:(aa l).length=l.length:=by simp[aa]
theorem qB h a s n l:au (h+1) (.mk a s n l)=bif decide (a=0) then false
  else bif iY a then oT s (ByteArray.mk #[])&&decide (n=0)&&decide (l.length=2)&&mx h l
  else bare a s n&&decide (l.length=0):=rfl
theorem aV: ∀l i h,nth l i=l[i]
 |[],_,h=>by grind
 |_::_,0,_=>rfl
 |_::l,i+1,h=>by simpa[nth] using aV l i _
theorem fo l i(h:i<l.length):aa (l.drop i)=cx (nth l i)::aa (l.drop (i+1)):=by
 rw[aD6 h,aV l i h];rfl
def aX:Nat:=9223372036854775807
theorem az{n}(a: -9223372036854775808<=n)(b:n<=9223372036854775807):IntKind.wrap .i64 n=n:=by
 grind [IntKind.wrap,IntKind.bits,IntKind.signed]
def bm(a:At):=isName a.rel&& !decide (a.l.length=0)&&decide (a.l.length<=8)&&a.l.all (au 20)
def JK(t:Tm):=decide (t.op=0)&&bare t.op t.s t.n&&decide (t.l.length=0)
def TU(a:At):=oT a.rel (ByteArray.mk #[])&&decide (a.l.length=0)
def TI(t:Tm):=decide (t.op=1)||decide (t.op=2)
theorem Yi(o:Int) s n l:JK (.mk o s n (aa l))=(decide (o=0)&&bare o s n&&decide ((l.length:Int)=0)):=by
 grind [JK,Tm.op,Tm.s,Tm.n,Tm.l,eS]
theorem Yg s l:TU ⟨s,aa l⟩=(oT s (ByteArray.mk #[])&&decide ((l.length:Int)=0)):=by
 grind [TU,eS]
def fX(l:Lt):=
 bif decide (l.op=1)||decide (l.op=2) then bm l.a&&(JK l.x&&JK l.y)
 else bif decide (l.op=3)||decide (l.op=4)||decide (l.op=5)||decide (l.op=6) then TU l.a&& !decide (l.x.op=4)&& !decide (l.y.op=4)&&au 20 l.x&&au 20 l.y
 else bif decide (l.op=7) then bm l.a&&(TI l.x&&JK l.y)&&au 20 l.x
 else bif decide (l.op=8)||decide (l.op=9)||decide (l.op=10) then bm l.a&&(TI l.x&&decide (l.y.op=1))&&au 20 l.x&&au 20 l.y
 else false
theorem Mz b a c s1 d e f s2 g h:fX ⟨b,a, .mk c s1 d e, .mk f s2 g h⟩=
 bif decide (b=1)||decide (b=2) then bm a&&(JK (.mk c s1 d e)&&JK (.mk f s2 g h))
 else bif decide (b=3)||decide (b=4)||decide (b=5)||decide (b=6) then TU a&& !decide (c=4)&& !decide (f=4)&&au 20 (.mk c s1 d e)&&au 20 (.mk f s2 g h)
 else bif decide (b=7) then bm a&&(TI (.mk c s1 d e)&&JK (.mk f s2 g h))&&au 20 (.mk c s1 d e)
 else bif decide (b=8)||decide (b=9)||decide (b=10) then bm a&&(TI (.mk c s1 d e)&&decide (f=1))&&au 20 (.mk c s1 d e)&&au 20 (.mk f s2 g h)
 else false:=rfl
def rA n(t:Tm):=!decide (t.op=4)&& !iY t.op&&(!decide (t.op=1)||decide (0<n))
def ba(r:Rl):=bm r.head&&decide (r.body.length<=20)&&r.head.l.all (rA r.body.length)&&r.body.all fX
def vd(r:Rl):=bm r.head::decide (r.body.length<=20)::(r.head.l.map (rA r.body.length)++r.body.map fX)
theorem HZ r:ba r=(vd r).all id:=by
 simp[ba,vd,Bool.and_assoc]
theorem lt_eq a:bQ a=⟨toInt (af a 0),⟨toStr (af (af a 1) 0),aa (ag (af (af a 1) 1))⟩, .mk (toInt (af (af a 2) 0)) (toStr (af (af a 2) 1)) (toInt (af (af a 2) 2)) (aa (ag (af (af a 2) 3))),
  .mk (toInt (af (af a 3) 0)) (toStr (af (af a 3) 1)) (toInt (af (af a 3) 2)) (aa (ag (af (af a 3) 3)))⟩:=by
 rw[←cI,←cI];rfl
theorem pC l i(h:i<l.length):dI (l.drop i)=bQ (nth l i)::dI (l.drop (i+1)):=by
 rw[aD6 h,aV l i h];rfl
theorem Cl l:(dI l).length=l.length:=by simp[dI]
mutual
def Tm.vars:Tm->List ByteArray
 | .mk op s _ l=>(bif decide (op=1) then[s] else[])++ar l
def ar:List Tm->List ByteArray
 |[]=>[]
 |t::l=>t.vars++ar l
end
mutual
def Tm.nK:Tm->Nat
 | .mk _ _ _ l=>1+bn l
def bn:List Tm->Nat
 |[]=>0
 |t::l=>t.nK+bn l
end
mutual
theorem Tm.Va: ∀t:Tm,t.vars.length<=t.nK
 | .mk op s n l=>by
  have:=cZ l
  simp only[Tm.vars,Tm.nK,aE1];cases decide (op=1)<;>simp<;>omega
theorem cZ: ∀l:List Tm,(ar l).length<=bn l
 |[]=>by simp[ar,bn]
 |t::l=>by
  have h1:=Tm.Va t;have h2:=cZ l;simp only[ar,bn,aE1];omega
end
theorem im: ∀l,l.length<=bn l
 |[]=>by simp
 | .mk _ _ _ m::l=>by
  have:=im l
  grind [bn,Tm.nK]
def strs(l:List ByteArray):List AV:=l.map fun s=> .lit (.string s)
theorem bf l:(strs l).length=l.length:=by simp[strs]
theorem db l:List.take l.length (strs l)=strs l:=List.take_of_length_le (by grind [bf])
theorem jQ l m:strs (l++m)=strs l++strs m:=by simp[strs]
def dV:List Tm->List ByteArray
 |[]=>[]
 |t::l=>(bif decide (5<=t.op) then ar [t] else[])++dV l
theorem Fq: ∀l,(dV l).length<=bn l
 |[]=>by simp[dV]
 |t::l=>by
  have a:=Fq l
  grind [cZ,dV,bn]
theorem Qk l i(h:i<l.length):dV (aa (l.drop i))=(bif decide (5<=toInt (af (nth l i) 0)) then ar [cx (nth l i)] else[])++dV (aa (l.drop (i+1))):=by
 rw[fo l i h];rw[cI];rfl
instance lawS:LawfulBEq ByteArray where
 eq_of_beq h:=(MapKept.bytes_beq _ _).1 h
 rfl:=(MapKept.bytes_beq _ _).2 rfl
theorem BN{a b}:oT a b=true↔a=b:=by
 unfold oT;obtain⟨⟨a⟩⟩:=a;obtain⟨⟨b⟩⟩:=b;simp
theorem XW a b:oT a b=(a==b):=by
 rw[Bool.eq_iff_iff,BN,beq_iff_eq]
def fZ(b:List (Value×AV)):List AV->List (Value×AV)
 |[]=>b
 |a::l=>fZ (fb b (.string (toStr a)) (.lit (.bool true))) l
def zH a s:=Dn.toBool (dj a (.string s) (.lit (.bool false)))
def gG b(l:List _):=l.all fun a=>zH b (toStr a)
def b6 l:=fZ [] (strs l)
theorem Fl: ∀a b c,fZ c (a++b)=fZ (fZ c a) b
 |[],_,_=>rfl
 |x::a,b,c=>by exact Fl a b _
theorem nH a b:fZ (b6 a) (strs b)=b6 (a++b):=by
 grind [b6,jQ,Fl]
theorem Ax{s}: ∀{k},eP (.string s) k=true->k= .string s:=by
 intro k h;cases k<;>try cases h
 rw[eq_of_beq h]
theorem Ju s t: ∀a,zH (fb a (.string s) (.lit (.bool true))) t=(t==s||zH a t)
 |[]=>by
  simp only[zH,fb,dj,eP];cases t==s<;>rfl
 | (b,e)::a=>by
  have d:=Ju s t a;simp only[zH,fb,dj] at d⊢;cases h:eP _ b with
  |true=>
   have c:=Ax h;subst c;simp only[aD2,dj,eP];cases f:t==s<;>rfl
  |false=>
   simp only[aD0,dj]
   grind
theorem Jt t: ∀l a,zH (fZ a (strs l)) t=(zH a t||l.contains t)
 |[],a=>by simp[strs,fZ]
 |s::l,a=>by
  have:=Jt t l (fb a (.string s) (.lit (.bool true)))
  rw[show fZ a _=fZ (fb _ (.string s) _) (strs l) from rfl,this,Ju]
  grind
theorem qq l t:zH (b6 l) t=l.contains t:=by
 unfold b6;rw[Jt];rfl
theorem U8 b s:fb (b6 b) (.string s) (.lit (.bool true))=b6 (b++[s]):=by
 rw[←nH];rfl
def hasB(b l:List ByteArray):=l.all fun s=>b.contains s
theorem fH b l:gG (b6 b) (strs l)=hasB b l:=by
 simp[gG,strs];congr 1;funext s
 exact qq b s
theorem kn{b l}:hasB b l=true↔ ∀s,s∈l->s∈b:=by
 simp[hasB]
def dK(l:Lt):=ar [l.x,l.y]++ar l.a.l
def kt(l:Lt):=bn [l.x,l.y]+bn l.a.l
def mI a(x y:Tm):=decide (x.op=1)&&(!zH a x.s&&gG a (strs (ar [y])))
def gR b(x y:Tm):=decide (x.op=1)&&(!b.contains x.s&&hasB b (ar [y]))
theorem qj b x y:mI (b6 b) x y=gR b x y:=by
 grind [mI,gR,qq,fH]
def kV(a:List ByteArray):List ByteArray->List ByteArray
 |[]=>[]
 |s::l=>bif a.contains s then kV a l else s::kV (a++[s]) l
theorem ym{t}: ∀{l a},t∈kV a l↔t∈l/\t∉a
 |[],a=>by simp[kV]
 | s::l,a=>by
  simp only[kV];cases h:a.contains s with
  |true=>
   rw[aD2,ym]
   grind
  |false=>
   rw[aD0,aE5,ym]
   grind
theorem lB: ∀l a,(kV a l).length<=l.length
 |[],_=>by simp[kV]
 |s::l,a=>by
  simp only[kV];cases a.contains s with
  |true=>have:=lB l a;grind
  |false=>have:=lB l (a++[s]);grind
def eL(r:Rl):=ar r.head.l++r.body.flatMap dK
def bK r:=bif ba r then kV [] (eL r) else[]
theorem qu{r}(h:ba r=true){s}:s∈bK r↔s∈eL r:=by
 grind [bK,ym]
def ay5:Lt:=⟨0,⟨ByteArray.empty,[]⟩, .mk 0 ByteArray.empty 0 [], .mk 0 ByteArray.empty 0 []⟩
def ep(l:List _) k:=l.getD k ay5
def Eb(k:Nat):List Lt->Nat->List ByteArray
 |[],_=>[]
 |l::b,i=>(bif Nat.beq i k then ar [l.x] else dK l)++Eb k b (i+1)
def VA(r:Rl) k:=ar r.head.l++Eb k r.body 0
def eI r k:=(bK r).filter fun v=>(ar (ep r.body k).a.l).contains v&&(VA r k).contains v
def cE r k:=bif decide (7<=(ep r.body k).op) then ar [(ep r.body k).x]++eI r k else dK (ep r.body k)
def mS b r k:=
 bif decide ((ep r.body k).op=1) then hasB b (dV (ep r.body k).a.l)
 else bif decide ((ep r.body k).op=3) then gR b (ep r.body k).x (ep r.body k).y||(gR b (ep r.body k).y (ep r.body k).x||hasB b (dK (ep r.body k)))
 else bif decide ((ep r.body k).op=2)||(decide ((ep r.body k).op=4)||(decide ((ep r.body k).op=5)||decide ((ep r.body k).op=6))) then hasB b (dK (ep r.body k))
 else(decide ((ep r.body k).op=7)||(ar (ep r.body k).a.l).contains (ep r.body k).y.s)&&(hasB b (eI r k)&&hasB b (dV (ep r.body k).a.l))
def fN(l:List _) k:=l.getD k false
def nx(r:Rl)(done:List Bool)(b:List ByteArray):Nat->Nat->Int->Int
 |0,_,a=>a
 |n+1,k,a=>
  bif fN done k|| !mS b r k then nx r done b n (k+1) a
  else bif !decide ((ep r.body k).op=1) then k
  else nx r done b n (k+1) (bif decide (a<0) then(k:Int) else a)
def aF r done b:=nx r done b r.body.length 0 (-1)
def lX(r:Rl):Nat->List Bool->List ByteArray->List Nat
 |0,_,_=>[]
 |n+1,done,b=>bif decide (aF r done b<0) then[] else(aF r done b).toNat::lX r n (done.set (aF r done b).toNat true) (b++cE r (aF r done b).toNat)
def LQ(r:Rl) b k:=
 decide ((ep r.body k).op=3)&&(gR b (ep r.body k).x (ep r.body k).y&&decide ((ep r.body k).y.op>=5)||gR b (ep r.body k).y (ep r.body k).x&&decide ((ep r.body k).x.op>=5))||decide (7<=(ep r.body k).op)
def OS(r:Rl):Nat->List Bool->List ByteArray->Bool
 |0,_,_=>false
 |n+1,done,b=>bif decide (aF r done b<0) then false else LQ r b (aF r done b).toNat||OS r n (done.set (aF r done b).toNat true) (b++cE r (aF r done b).toNat)
def OT r:=OS r r.body.length (List.replicate r.body.length false) []
def c6 r:=lX r r.body.length (List.replicate r.body.length false) []
def eG r(l:List _):=l.flatMap (cE r)
def jZ r:=decide (r.body.length<=(c6 r).length)&&hasB (eG r (c6 r)) (ar r.head.l)
def HD(r:Rl):Int:=bif ba r then bif jZ r then 0 else 60 else 30
def okI r done b(x:Int):=0<=x/\x.toNat<r.body.length/\fN done x.toNat=false/\mS b r x.toNat=true
theorem yr r done b: ∀n k a,k+n=r.body.length->a<0\/okI r done b a->
  nx r done b n k a=a/\a<0\/okI r done b (nx r done b n k a)
 |0,_,a,_,h=>by
  grind [nx]
 | n+1,k,a,g,h=>by
  have e:=fun f h=>yr r done b n (k+1) f (by omega) h
  simp only[nx];cases c:fN done k|| !mS b r k with
  |true=>grind
  |false=>
   simp only[Bool.or_eq_false_iff,aD7] at c;have d:okI r done b (k:Int):=⟨by omega,by simp;omega,by simpa using c.1,by simpa using c.2⟩
   grind
theorem oh r done b:aF r done b= -1\/okI r done b (aF r done b):=by
 rcases yr r _ b r.body.length 0 (-1) (by simp) (by simp) with h|h
 ·exact .inl h.1
 ·exact .inr h
theorem oE r: ∀n done b,done.length=r.body.length->
  (∀k,k∈lX r n done b->k<r.body.length/\fN done k=false)/\(lX r n done b).Nodup/\(lX r n done b).length<=n
 |0,_,_,_=>by simp[lX]
 | n +1,done,b,hd=>by
  simp only[lX];cases h:decide (aF r done b<0) with
  |true=>simp
  | false=>
   have i:0<=aF r done b:=by simpa using h
   rcases oh r done b with e|⟨_,e,g,_⟩
   ·omega
   have d:=oE r n (done.set (aF r done b).toNat true) (b++cE r (aF r done b).toNat) (by simpa using hd);rw[aD0];refine⟨fun k c=>?_,?_,by have:=d.2.2;simp only[List.length_cons];omega⟩
   ·rcases List.mem_cons.1 c with rfl|c
    ·exact⟨e,g⟩
    ·obtain⟨f,a⟩:=d.1 k c
     refine⟨f,?_⟩;simp only[fN,List.getD_eq_getElem?_getD,List.getElem?_set] at a⊢;split at a
     ·split at a
      ·simp at a
      ·simp at a;omega
     ·exact a
   ·refine List.nodup_cons.2 ⟨fun c=>?_,d.2.1⟩
    have:=(d.1 _ c).2
    simp[fN,List.getD_eq_getElem?_getD,hd,e] at this
theorem tF{r k}(h:k∈c6 r):k<r.body.length:=((oE r _ _ _ (by simp)).1 k h).1
theorem F9 r:(c6 r).Nodup:=(oE r _ _ _ (by simp)).2.1
theorem M9 r:(c6 r).length<=r.body.length:=(oE r _ _ _ (by simp)).2.2
def GQ r k:=(bK r).filter fun v=>(eG r ((c6 r).take k)).contains v
theorem tP{a b:Nat}(h:a≠b):Nat.beq a b=false:=by
 grind [Nat.eq_of_beq_eq_true]
theorem II r n done b:lX r (n+1) done b=
  bif decide (aF r done b<0) then[] else(aF r done b).toNat::lX r n (done.set (aF r done b).toNat true) (b++cE r (aF r done b).toNat):=rfl
theorem Hy r done b n k a:nx r done b (n+1) k a=
  bif fN done k|| !mS b r k then nx r done b n (k+1) a
  else bif !decide ((ep r.body k).op=1) then k
  else nx r done b n (k+1) (bif decide (a<0) then k else a):=rfl
def ag6(r:Rl)(l:Lt):Rl:=⟨r.head,r.body++[l]⟩
structure aC4(r:Rl)(l:Lt):Prop where
 right:ba r=true
 more:ba (ag6 r l)=true
 op:l.op=1
 aC5:dV l.a.l=[]
 vars: ∀s,s∈dK l->s∈eG r (c6 r)
def qV(T:TypeId)(a:AV):AV:= .agg [.lit (.int .i64 (toInt (af a 0))), .lit (.string (toStr (af a 1))), .lit (.int .i64 (toInt (af a 2))), .ah T (ag (af a 3))]
def qR(T:TypeId)(a:AV):List AV:= .aH [qV T a]::((ag (af a 3)).attach.flatMap fun x=>qR T x.1)
termination_by SizeOf.sizeOf a
decreasing_by exact tu x.2
def gj T(l:List _):=l.flatMap (qR T)
theorem Dy T a:qR T a= .aH [qV T a]::gj T (ag (af a 3)):=by
 rw[qR]
 simp_all[gj]
theorem zl T l i(h:i<l.length):gj T (l.drop i)=qR T (nth l i)++gj T (l.drop (i+1)):=by
 rw[aD6 h,aV l i h];rfl
def tK T(x:AV):=∃y,x= .aH [qV T y]
theorem n6 T: ∀n a,SizeOf.sizeOf a<n->∀x,x∈qR T a->tK T x
 |0,_,h=>by omega
 | n+1,a,h=>by
  intro x b;rw[Dy,aE5] at b;rcases b with rfl|b
  ·exact⟨a,rfl⟩
  ·unfold gj at b
   rw[List.mem_flatMap] at b;obtain⟨y,d,c⟩:=b;exact n6 T n y (by have:=tu d;omega) x c
theorem Et T l: ∀x,x∈gj T l->tK T x:=by
 intro x a;unfold gj at a;rw[List.mem_flatMap] at a;obtain⟨y,_,b⟩:=a;exact n6 T _ y (Nat.lt_succ_self _) x b
def Au:AV->List ByteArray
 | .aH [t]=>bif decide (toInt (af t 0)=1) then[toStr (af t 1)] else[]
 |_=>[]
theorem x2 T: ∀n a,SizeOf.sizeOf a<n->(qR T a).flatMap Au=(cx a).vars
 |0,_,h=>by omega
 | n+1,a,h=>by
  rw[Dy,cI,Tm.vars,List.flatMap_cons];congr 1
  have: ∀m:List AV,(∀x,x∈m->SizeOf.sizeOf x<SizeOf.sizeOf a)->(gj T m).flatMap Au=ar (aa m):=by
   intro m;induction m with
   |nil=>intro _;rfl
   |cons x m d=>
    intro c;have e:=x2 T n x (by have:=c x (by simp);omega)
    grind [qR,gj,Au,cx,ar,aa]
  exact this _ fun x b=>tu b
theorem vr T: ∀l,(gj T l).flatMap Au=ar (aa l)
 |[]=>rfl
 |x::l=>by
  show(qR T x++gj T l).flatMap _=(cx x).vars++ar (aa l)
  rw[List.flatMap_append,x2 T _ x (Nat.lt_succ_self _),vr T l]
def bp T(c b:List _):=c++b.flatMap fun a=>[qV T (af a 2),qV T (af a 3)]++ag (af (af a 1) 1)
theorem tx T a:cx (qV T a)=cx a:=by rw[cI,cI];rfl
theorem u6: ∀l m,ar (l++m)=ar l++ar m
 |[],_=>rfl
 |t::l,m=>by simp[ar,u6 l m]
theorem jw T c d b:ar (aa (bp T d b))=eL ⟨⟨c,aa d⟩,dI b⟩:=by
 unfold bp eL aa;rw[List.map_append,u6];congr 1
 induction b with
 |nil=>rfl
 |cons a b e=>
  simp only[List.flatMap_cons,List.map_append,u6];congr 1
  simp[dK,bQ,Oa,aa,List.map_nil,tx]
theorem iv: ∀l i x,(bP l i x).length=l.length
 |[],_,_=>rfl
 |_::_,0,_=>rfl
 |_::l,i+1,x=>by simp[bP,iv l i x]
theorem uL: ∀l i x,i<l.length->(bP l i x).take (i+1)=l.take i++[x]
 |[],_,_,h=>by grind
 |_::_,0,_,_=>rfl
 |a::l,i+1,x,h=>by
  have:=uL l i x (by grind)
  grind [bP]
theorem uK: ∀l i j x,i<j->(bP l i x).drop j=l.drop j
 |[],_,_,_,_=>rfl
 |_::_,0,j+1,_,_=>rfl
 |a::l,i+1,j+1,x,h=>by
  have:=uK l i j x (by omega)
  grind [bP]
theorem zk l i h:nth (strs l) i= .lit (.string l[i]):=by
 grind [aV,strs]
theorem kg{R j a l}(h:R.drop j=a::l):j<R.length/\nth R j=a/\R.drop (j+1)=l:=by
 grind [List.drop_eq_nil_of_le,List.drop_eq_getElem_cons,aV]
def xx(a:ByteArray->Bool)(b:List _)(j:Int):=0<=j/\∃h,(∀s,s∈b.take j.toNat->a s=true)/\a b[j.toNat]=false
theorem so{a b j}(h:xx a b j):b.filter a=b.take j.toNat++(b.drop (j.toNat+1)).filter a:=by
 obtain⟨_,c,e,d⟩:=h
 conv=>lhs;rw[←List.take_append_drop j.toNat b]
 rw[List.filter_append,aD6 c,List.filter_cons]
 simp_all
theorem pc: ∀R lo n z,(dt R lo n z).take lo=R.take lo
 |[],_,_,_=>rfl
 |_::_,0,_,_=>by rfl
 |a::R,lo+1,n,z=>by simp[dt,pc R _ n z]
def gu(s:ByteArray):List AV->Int->Int
 |[],_=> -1
 |a::l,i=>bif oT s (toStr a) then i else gu s l (i+1)
theorem AZ s: ∀l i,0<=i->decide (gu s (strs l) i>=0)=l.contains s
 |[],i,_=>rfl
 |a::l,i,h=>by
  have b:=AZ s l (i+1) (by omega);show decide ((bif oT s a then i else gu s (strs l) _)>=0)=_
  grind [XW]
mutual
def Tm.size:Tm->Int->Int
 | .mk _ s _ l,left=>bif decide ((1000:Int)<s.size) then -1 else jO l (left - 1)
def jO:List Tm->Int->Int
 |[],left=>left
 |t::l,left=>bif decide (0<=left) then jO l (t.size left) else left
end
def dJ(a:At) b:=bif decide ((1000:Int)<a.rel.size) then -1 else jO a.l b
def sizeLt(l:Lt) b:=
 bif decide (0<=dJ l.a (b - 1)) then bif decide (0<=l.x.size (dJ l.a (b - 1))) then l.y.size (l.x.size (dJ l.a (b - 1))) else l.x.size (dJ l.a (b - 1)) else dJ l.a (b - 1)
def mB:List Lt->Int->Int
 |[],a=>a
 |l::b,a=>bif decide (0<=a) then mB b (sizeLt l a) else a
def oP(r:Rl) a:=mB r.body (dJ r.head (a - 1))
def oO:List Rl->Int->Int
 |[],a=>a
 |r::l,a=>bif decide (0<=a) then oO l (oP r a) else a
mutual
theorem Tm.size_le: ∀(t:Tm) (left:Int),0<=left-> -1<=t.size left/\t.size left<left\/t.size left= -1
 | .mk _ s _ l,left,h=>by
  unfold Tm.size;cases decide ((1000:Int)<s.size) with
  |true=>exact .inr rfl
  | false=>
   rw[aD0];by_cases h1:0<=left - 1
   ·have:=pV l (left - 1) (by omega)
    omega
   ·have:=pV l (left - 1) (by omega)
    omega
theorem pV: ∀(l:List Tm) (left:Int), -1<=left-> -1<=jO l left/\jO l left<=left
 |[],left,h=>by unfold jO;omega
 | t::l,left,h=>by
  unfold jO;by_cases h1:0<=left
  ·rw[aD1 h1,aD2]
   have h2:=Tm.size_le t left h1;have h3:=pV l (t.size left) (by omega);omega
  ·rw[aC9 h1,aD0];omega
end
theorem pU a b(h: -1<=b): -1<=dJ a b/\(dJ a b<=b\/dJ a b= -1):=by
 unfold dJ;cases decide ((1000:Int)<a.rel.size)<;>simp_all[pV]
theorem uR l b(h:0<=b): -1<=sizeLt l b/\sizeLt l b<b:=by
 unfold sizeLt;have e:=pU l.a (b - 1) (by omega);by_cases c:0<=dJ l.a (b - 1)
 ·rw[aD1 c,aD2]
  have f:=Tm.size_le l.x _ c;by_cases d:0<=l.x.size (dJ l.a (b - 1))
  ·rw[aD1 d,aD2]
   have g:=Tm.size_le l.y _ d;omega
  grind
 grind
theorem FG: ∀b a, -1<=a-> -1<=mB b a/\mB b a<=a
 |[],a,h=>by grind [mB]
 | l::b,a,h=>by
  unfold mB;by_cases c:0<=a
  ·rw[aD1 c,aD2]
   have e:=uR l _ c;have d:=FG b (sizeLt l a) (by omega);omega
  grind
theorem zb r a(h:0<=a): -1<=oP r a/\oP r a<a:=by
 unfold oP;have c:=pU r.head (a - 1) (by omega);have b:=FG r.body (dJ r.head (a - 1)) (by omega);omega
theorem FH: ∀l a, -1<=a-> -1<=oO l a/\oO l a<=a
 |[],a,h=>by grind [oO]
 | r::b,a,h=>by
  unfold oO;by_cases c:0<=a
  ·rw[aD1 c,aD2]
   have e:=zb r _ c;have d:=FH b (oP r a) (by omega);omega
  grind
mutual
theorem Tm.xp: ∀(t:Tm) (left:Int),0<=t.size left->t.nK+t.size left<=left
 | .mk _ s _ l,left,h=>by
  unfold Tm.size at h⊢;cases e:decide ((1000:Int)<s.size) with
  |true=>rw[e] at h;simp at h
  |false=>
   rw[e,aD0] at h;rw[aD0,Tm.nK];have:=tU l (left - 1) h
   omega
theorem tU: ∀(l:List Tm) (left:Int),0<=jO l left->bn l+jO l left<=left
 |[],left,h=>by unfold jO bn;omega
 | t::l,left,h=>by
  unfold jO at h⊢;by_cases h1:0<=left
  ·rw[aD1 h1,aD2] at h⊢
   have h3:=tU l (t.size left) h;have h4:0<=t.size left:=by
    have h2:=Tm.size_le t left h1;have:=pV l (t.size left) (by omega)
    omega
   have h2:=Tm.xp t left h4;unfold bn;omega
  ·rw[aC9 h1,aD0] at h;omega
end
theorem Bc a b(h:0<=dJ a b):bn a.l+dJ a b<=b:=by
 unfold dJ at h⊢;cases e:decide ((1000:Int)<a.rel.size)<;>simp_all[tU]
theorem It l b(g:0<=b)(h:0<=sizeLt l b):1+kt l+sizeLt l b<=b:=by
 unfold sizeLt at h⊢;by_cases c:0<=dJ l.a (b - 1)
 ·rw[aD1 c,aD2] at h⊢
  have f:=Bc l.a (b - 1) c;by_cases d:0<=l.x.size (dJ l.a (b - 1))
  ·rw[aD1 d,aD2] at h⊢
   have i:=Tm.xp l.x _ d;have e:=Tm.xp l.y _ h
   grind [kt,bn]
  grind
 grind
theorem Bd: ∀b a, -1<=a->0<=mB b a->b.length+(b.map kt).sum+mB b a<=a
 |[],a,_,h=>by unfold mB;simp
 | l::b,a,d,h=>by
  unfold mB at h⊢;by_cases c:0<=a
  ·rw[aD1 c,aD2] at h⊢
   have f:=uR l a c;have g:=Bd b _ (by omega) h;have e:=It l a c (by omega)
   grind
  grind
def A9(r:Rl):=bn r.head.l+(r.body.map kt).sum
theorem MF r a(c:0<=a)(h:0<=oP r a):A9 r+r.body.length+1+oP r a<=a:=by
 unfold oP at h⊢;have d:=pU r.head (a - 1) (by omega);have e:=Bd _ _ (by omega) h;have b:=Bc r.head (a - 1) (by omega)
 grind [A9]
theorem Be: ∀l a, -1<=a->0<=oO l a->∀r,r∈l->(A9 r+r.body.length:Nat)<=a
 |[],_,_,_,r,b=>by simp at b
 | d::l,a,f,h,r,b=>by
  unfold oO at h;by_cases c:0<=a
  ·rw[aD1 c,aD2] at h
   have g:=zb d a c;have e:=FH l (oP d a) (by omega);rcases List.mem_cons.1 b with rfl|b
   ·have:=MF r a c (by omega)
    omega
   ·have:=Be l _ (by omega) h r b
    omega
  grind
theorem H5 T d f c:bn (aa (bp T f c))=A9 ⟨⟨d,aa f⟩,dI c⟩:=by
 have b: ∀l m,bn (l++m)=bn l+bn m:=by
  intro l;induction l with
  |nil=>simp[bn]
  |cons t l e=>simp only[List.cons_append,bn,e];omega
 unfold bp A9 aa;rw[List.map_append,b];congr 1
 induction c with
 |nil=>rfl
 |cons a c e=>
  simp only[List.flatMap_cons,List.map_append,b,dI,aE4];congr 1
  simp only[kt,bQ,Oa,aa,List.map_nil,tx]
def AD(l:List _):=l.any fun a=>decide ((1000:Int)<(toStr a).size)
def Ld a:=decide ((1000:Int)<(toStr (af a 0)).size)||AD (ag (af a 1))
def oA(ds a:List _):=!ds.any Ld&&(decide (0<=oO (a.map y1) 2000)&&(decide (ds.length<=100)&&decide (a.length<=300)))
def sx:ByteArray:=ByteArray.mk #[120]
def sy:ByteArray:=ByteArray.mk #[121]
def s0:ByteArray:=ByteArray.mk #[]
def ti(n:Int):Tm:= .mk 2 s0 n []
end Go.Rl
namespace Go.Proofs.YtioeffnadipbaaaGreatDoor
open Go Go.Dn Go.Rl Go.Proofs
attribute [local irreducible] a8 vc
set_option maxRecDepth 20000
def ad5:=[
 (3,[(17,[(1,none),(2,none),(5,none),(6,none),(8,none),(10,none),(11,none),(12,none)]),(18004,[(1,none),(2,none),(5,none),(6,none),(8,none)]),(18001,[(4,none)]),(8,[(1,none),(2,none),(5,none),(6,none),(8,none)]),(9002,[(1,none),(2,none),(5,none),(6,none)]),(9001,[(4,none)])]),
 (6,[(10,[(2,none),(7,none),(8,none),(10,none),(11,none),(12,none),(13,none)]),(11002,[(2,none),(7,none),(8,none),(10,none),(11,none),(12,none)])]),
 (7,[(13,[(7,none),(9,none),(11,none),(13,none)]),(14002,[(7,none)]),(14001,[(6,none)])]),
 (8,[(17,[(2,none),(5,none),(6,none),(13,none)]),(18004,[(5,none)]),(18001,[(4,none)]),(11,[(1,none),(2,none),(5,none),(6,none),(10,none)]),(12002,[(2,none),(5,none),(6,none)]),(12001,[(4,none)])]),
 (10,[(6,[(1,none),(2,none),(3,none),(7,none),(8,none),(9,none)]),(7002,[(1,none),(2,none),(3,none),(7,none),(8,none)])]),
 (12,[(22,[(1,none),(8,none),(9,none),(10,none)]),(23008,[(1,none),(8,none),(9,none)]),(23001,[(4,none)]),(16,[(1,none),(8,none),(9,none)]),(17006,[]),(17001,[(4,none)]),(8,[(1,none),(2,none),(5,none),(6,none),(7,none)]),(9004,[(1,none),(2,none),(5,none),(6,none)]),(4,[(1,none),(2,none),(5,none)]),(5002,[(1,none)]),(5001,[(4,none)])]),
 (16,[(9,[(0,none),(1,none),(5,none),(6,none)]),(10004,[(0,none),(1,none),(5,none)]),(10001,[(4,none)]),(4,[(0,none),(1,none),(5,none)]),(5002,[]),(5001,[(4,none)])]),
 (18,[(15,[(7,none),(10,none),(11,none),(13,none),(49,none),(50,none),(51,none)]),(16004,[(7,none),(10,none),(11,none),(13,none)]),(11,[(7,none),(10,some 35),(11,none),(12,none)]),(12002,[(10,none)])]),
 (19,[(17,[(2,none),(3,none),(11,none),(15,none),(50,none),(51,none),(52,none)]),(18007,[(2,none),(3,none),(11,none),(50,none),(51,none),(52,none)]),(15,[(2,none),(3,none),(11,none),(50,none),(51,none),(52,none)]),(16005,[(2,none),(11,none)]),(10,[(2,none),(3,none),(8,none),(11,some 51),(38,none),(39,none),(40,none)]),(11003,[(2,none),(3,none),(8,none),(11,none)])]),
 (20,[(4,[(0,none),(1,none),(5,none)]),(5002,[]),(5001,[(4,none)])]),
 (21,[(5,[(1,none),(3,none),(4,none)]),(6004,[(1,none),(3,none)]),(6001,[(2,none)]),(2,[(1,none),(3,none)]),(3002,[]),(3001,[(2,none)])]),
 (23,[(4,[(2,none),(18,none),(19,none),(20,none)]),(5002,[]),(5001,[(4,none)])]),
 (25,[(2,[(0,none),(1,none),(6,none)]),(3002,[]),(3001,[(4,none),(5,none)])]),
 (26,[(10,[(1,none),(2,none),(6,none),(7,none)]),(11004,[(1,none),(2,none),(6,none)]),(11001,[(4,none)]),(5,[(1,none),(2,none),(6,none)]),(6002,[]),(6001,[(4,none)])]),
 (29,[(8,[(1,none),(3,none),(5,none)]),(9004,[(1,none),(3,none)]),(3,[(1,none),(3,none),(4,none)]),(4002,[(1,none),(3,none)]),(4001,[(2,none)])]),
 (30,[(2,[(0,none),(3,none)]),(3002,[]),(3001,[(2,none)])]),
 (31,[(5,[(20,none),(21,none),(22,none)]),(6002,[]),(6001,[(2,none),(3,none)])]),
 (32,[(5,[(2,none),(3,none),(4,none),(7,none),(35,none),(36,none),(37,none)]),(6002,[(4,none),(7,none)])]),
 (35,[(4,[(2,none),(3,none),(6,some 72),(26,none),(27,none),(28,none)]),(5002,[(3,none),(6,none)])]),
 (37,[(2,[(0,none),(3,none)]),(3002,[]),(3001,[(2,none)])]),
 (42,[(8,[(3,none),(45,none),(46,none)]),(9004,[(3,none)])]),
 (43,[(2,[(0,none),(3,none),(11,none),(12,none),(13,none)]),(3002,[]),(3001,[(4,none),(5,none)])]),
 (44,[(6,[(0,none),(1,none),(5,none),(11,none),(12,none),(25,none)]),(7004,[(5,none)]),(7003,[(0,none),(1,none),(11,none),(12,none)]),(2,[(0,none),(1,none),(11,none),(12,none)]),(3002,[]),(3001,[(4,none)])]),
 (45,[(3,[(0,none),(1,none),(5,some 3),(11,none),(12,none)]),(4002,[(5,none)])]),
 (46,[(3,[(1,none),(2,none),(3,none),(4,none),(9,none),(16,none),(17,none),(18,none)]),(4002,[(9,none)]),(4001,[(8,none)])]),
 (47,[(3,[(3,none),(6,none),(7,none),(8,none)]),(4002,[(3,none)])]),
 (49,[(7,[(1,none),(2,none),(9,none),(10,none),(11,none),(21,none),(22,none),(23,none)]),(8004,[(1,none),(2,none),(9,none),(10,none),(11,none)]),(8001,[(4,none)]),(2,[(1,none),(2,none),(9,none),(10,none),(11,none)]),(3002,[(1,none)]),(3001,[(4,none)])]),
 (51,[(2,[(0,none),(3,none)]),(3002,[]),(3001,[(2,none)])]),
 (53,[(3,[(0,none),(1,none),(2,none),(8,none),(9,none),(10,none)]),(4002,[(0,none),(1,none),(2,none),(8,none),(9,none)])]),
 (55,[(3,[(3,some 70),(6,none),(7,none),(8,none)]),(4002,[(3,none)])]),
 (59,[(2,[(0,none),(3,none)]),(3002,[]),(3001,[(2,none)])]),
 (60,[(3,[(1,none),(2,none),(5,none)]),(4002,[(1,none)])]),
 (61,[(11,[(1,none),(38,none),(39,none),(40,none)]),(12004,[]),(12001,[(2,none),(3,none)]),(4,[(1,none),(16,none),(17,none),(18,none)]),(5002,[(1,none)]),(5001,[(2,none),(3,none)])]),
 (64,[(3,[(3,some 38),(6,none),(7,none),(8,none)]),(4002,[(3,none)])]),
 (65,[(8,[(2,none),(8,none),(32,none),(33,none),(34,none)]),(9003,[(2,none),(8,none)])]),
 (69,[(4,[(1,none),(2,none),(15,none),(16,none),(17,none)]),(5002,[]),(5001,[(6,none)])]),
 (71,[(4,[(1,none),(2,none),(15,none),(16,none),(17,none)]),(5002,[]),(5001,[(6,none)])]),
 (80,[(9,[(0,none),(1,none),(5,none),(6,none),(7,none)]),(10004,[(0,none),(5,none)]),(4,[(0,none),(1,none),(5,none)]),(5002,[(0,none)]),(5001,[(4,none)])]),
 (82,[(0,[(0,none),(1,none),(2,none)]),(1002,[]),(1001,[])]),
 (86,[(3,[(0,none),(5,none),(6,some 3)]),(4002,[(5,none)])]),
 (94,[(4,[(1,none),(31,none),(32,none),(33,none)]),(5002,[]),(5001,[(2,none)])]),
 (98,[(4,[(2,none),(3,none),(6,some 72),(26,none),(27,none),(28,none)]),(5002,[(3,none),(6,none)])]),
 (99,[(2,[(0,none),(1,none),(5,none)]),(3002,[(0,none),(1,none)]),(3001,[(4,none)])]),
 (100,[(2,[(0,none),(1,none),(2,none),(11,none),(12,none),(13,none)]),(3002,[(0,none),(1,none)]),(3001,[(6,none)])]),
 (104,[(4,[(1,none),(2,none),(5,none)]),(5002,[(1,none)])]),
 (105,[(5,[(1,none),(2,none),(5,none)]),(6002,[(1,none)])]),
 (106,[(11,[(6,none),(8,some 3),(36,none),(37,none),(38,none)]),(12004,[(8,none)]),(12001,[(4,none),(5,none)]),(4,[(3,none),(6,none)]),(5002,[(3,none),(6,none)]),(5001,[(4,none),(5,none)])]),
 (109,[(2,[(0,none),(1,none),(7,none),(8,none)]),(3002,[]),(3001,[(4,none)])]),
 (112,[(1,[(0,none),(6,none),(7,none),(8,none)]),(2002,[])]),
 (114,[(5,[(0,none),(1,none),(5,none),(6,none)]),(6002,[(0,none),(5,none)])]),
 (119,[(2,[(0,none),(1,none),(7,none),(8,none)]),(3002,[]),(3001,[(4,none)])]),
 (120,[(4,[(0,none),(1,none),(12,none),(13,none)]),(5002,[]),(5001,[(4,none)])]),
 (121,[(4,[(0,none),(1,none),(12,none),(13,none)]),(5002,[]),(5001,[(4,none)])]),
 (122,[(17,[(0,none),(3,none),(5,none),(10,none),(11,none),(44,none),(45,none),(46,none),(72,none),(73,none),(74,none)]),(18008,[(0,none),(3,none),(5,none),(11,none),(44,none),(45,none),(46,none)]),(18005,[(0,none),(3,none),(5,none),(44,none),(45,none),(46,none)]),(12,[(0,none),(3,none),(5,none),(10,none),(11,none),(44,none),(45,none),(46,none),(52,none),(53,none),(54,none)]),(13006,[(0,none),(3,none),(5,none),(10,none),(11,none),(44,none),(45,none),(46,none)]),(8,[(0,none),(3,none),(5,none),(44,none),(45,none),(46,none)]),(9004,[]),(9001,[]),(3,[(0,none),(1,none),(2,none),(3,none),(5,none),(6,some 72),(25,none),(26,none),(27,none)]),(4002,[(0,none),(1,none),(2,none),(3,none),(5,none),(6,none)])]),
 (123,[(7,[(1,none),(2,none),(7,none),(8,none),(10,none),(18,none),(19,none),(20,none),(26,none),(27,none),(28,none)]),(8004,[(1,none),(2,none),(7,none),(8,none),(10,none),(18,none),(19,none),(20,none)]),(8003,[(1,none),(2,none),(7,none),(8,none),(18,none),(19,none),(20,none)]),(4,[(1,none),(2,none),(7,none),(8,some 70),(18,none),(19,none),(20,none)]),(5002,[(8,none)])]),
 (126,[(5,[(0,none),(3,none),(4,none)]),(6002,[(3,none)])]),
 (127,[(5,[(0,none),(3,none),(4,none)]),(6002,[(3,none)])]),
 (128,[(9,[(0,none),(1,none),(2,none),(6,none),(7,none),(8,none)]),(10006,[(0,none),(1,none),(2,none),(6,none),(7,none)]),(7,[(0,none),(1,none),(2,none),(6,none)]),(8004,[]),(2,[(0,none),(1,none),(2,none),(6,none),(7,none),(8,none)]),(3002,[(0,none),(1,none),(2,none),(6,none),(7,none)])]),
 (129,[(5,[(0,none),(1,none),(5,none),(12,none),(13,none),(14,none),(28,none),(29,none),(30,none)]),(6004,[(0,none),(1,none),(12,none),(13,none),(14,none)]),(6001,[]),(1,[(0,none),(1,none),(12,none),(13,none),(14,none)]),(2002,[]),(2001,[])]),
 (131,[(2,[(0,none),(1,none),(7,none),(8,none)]),(3002,[]),(3001,[(4,none)])]),
 (138,[(4,[(18,none)]),(5002,[]),(5001,[(2,none)])]),
 (147,[(13,[(11,none),(45,none),(46,none),(47,none)]),(14005,[(11,none)])]),
 (152,[(3,[(0,none),(5,none),(14,none),(15,none),(16,none)]),(4002,[(5,none)]),(4001,[(4,none)])]),
 (155,[(3,[(3,some 9),(6,none),(7,none),(8,none)]),(4002,[(3,none)])]),
 (156,[(12,[(6,none),(26,none),(27,none),(28,none)]),(13004,[(6,none)]),(3,[(0,none),(3,none),(9,none),(10,none),(11,none)]),(4002,[(0,none),(3,none)])]),
 (158,[(17,[(1,none),(2,none),(43,none),(44,none),(45,none)]),(18005,[]),(18001,[(6,none)]),(1,[(0,none),(1,none),(2,none)]),(2001,[(6,none)])]),
 (159,[(4,[(1,none),(2,none),(5,none),(17,none),(18,none),(19,none)]),(5002,[(1,none),(2,none),(5,none)])]),
 (161,[(2,[(0,none),(1,none),(7,none),(8,none)]),(3002,[]),(3001,[(4,none)])]),
 (166,[(4,[(0,none),(1,none),(2,none),(3,none),(8,none),(9,none)]),(5004,[(0,none),(1,none),(2,none),(3,none),(8,none)]),(1,[(0,none),(1,none),(2,none),(3,none),(8,none)]),(2002,[])]),
 (167,[(33,[(0,none),(1,none),(2,none),(3,none),(4,none),(18,none),(19,none),(20,none),(21,none),(22,none)]),(34010,[(0,none),(1,none),(2,none),(3,none),(4,none),(18,none),(19,none),(20,none)]),(21,[(0,none),(14,none),(17,none)]),(22008,[]),(15,[(0,none),(2,none),(4,none),(14,none),(15,none)]),(16006,[(0,none),(2,none),(14,none)]),(9,[(0,none),(10,none),(13,none)]),(10004,[]),(3,[(0,none),(1,none),(4,none),(10,none),(11,none)]),(4002,[(0,none),(1,none),(10,none)])]),
 (168,[(2,[(0,none),(1,none),(7,none),(8,none)]),(3002,[]),(3001,[(4,none)])]),
 (169,[(3,[(0,none),(1,none),(3,none),(4,none),(13,none),(14,none)]),(4002,[]),(4001,[])]),
 (170,[(3,[(1,none),(2,none),(3,none),(7,none),(11,none),(12,none),(13,none)]),(4002,[(7,none)]),(4001,[(6,none)])]),
 (171,[(7,[(0,none),(57,none),(58,none),(59,none)]),(8004,[]),(8001,[]),(2,[(0,none),(1,none),(25,none),(26,none),(27,none)]),(3002,[(0,none),(1,none)]),(3001,[])]),
 (172,[(4,[(24,none),(25,none),(26,none)]),(5002,[]),(5001,[(2,none)])]),
 (176,[(5,[(0,none),(2,none),(3,none),(6,none),(7,none),(10,none),(11,none),(12,none),(18,none),(19,none),(20,none)]),(6004,[(0,none),(2,none),(3,none),(7,none),(10,none),(11,none),(12,none)]),(6003,[(0,none),(2,none),(3,none),(10,none),(11,none),(12,none)]),(1,[(0,none),(2,none),(3,none),(10,none),(11,none),(12,none)]),(2002,[]),(2001,[])]),
 (178,[(2,[(0,none),(1,none),(5,none)]),(3002,[(0,none),(1,none)]),(3001,[(4,none)])]),
 (179,[(1,[(0,none),(2,none),(3,none)]),(2002,[])]),
 (180,[(7,[(0,none),(5,none),(40,none),(41,none),(42,none)]),(8003,[]),(8001,[(4,none)])]),
 (185,[(8,[(2,none),(32,none),(33,none),(34,none)]),(9004,[]),(9001,[]),(3,[(2,none),(3,some 38),(14,none),(15,none),(16,none)]),(4002,[(2,none),(3,none)])]),
 (188,[(1,[(0,none),(6,none),(7,none),(8,none)]),(2002,[]),(2001,[])]),
 (189,[(2,[(0,none),(1,none),(7,none),(8,none)]),(3002,[]),(3001,[(4,none)])]),
 (190,[(2,[(0,none),(2,none),(4,none),(10,none),(11,none)]),(3002,[(0,none),(2,none),(4,none),(10,none)])]),
 (192,[(10,[(1,none),(49,none),(50,none),(51,none)]),(11003,[]),(11001,[(4,none)])]),
 (193,[(2,[(5,none),(6,none),(7,none)]),(3002,[]),(3001,[(2,none)])]),
 (196,[(2,[(0,none),(2,none),(4,none),(12,none),(13,none),(14,none)]),(3002,[(0,none),(2,none),(4,none)]),(3001,[(6,none)])]),
 (198,[(3,[(2,none),(11,none),(12,none),(13,none)]),(4002,[]),(4001,[])]),
 (199,[(1,[(0,none),(1,none),(2,none),(3,none),(10,none)]),(2002,[])]),
 (200,[(3,[(3,some 9),(7,none),(8,none),(9,none)]),(4002,[(3,none)])])
 ]
def lk2(k:Nat):List (Nat×List (Nat×Option Nat))->List (Nat×Option Nat)
 |[]=>[]
 |(j,l)::r=>bif Nat.beq j k then l else lk2 k r
def lk1(f k:Nat):List (Nat×List (Nat×List (Nat×Option Nat)))->List (Nat×Option Nat)
 |[]=>[]
 |(g,l)::r=>bif Nat.beq g f then lk2 k l else lk1 f k r
def live(f k:Nat):List (Nat×Option TypeId):=lk1 f k ad5
structure Kp where
 tree:Addr
 stuck:Addr
 T1:TypeId
 T2:TypeId
 z1:Nat×Nat
 z2:Nat×Nat
 gh:Addr
 arity:Addr
 type:Addr
 T3:TypeId
 T4:TypeId
 T5:TypeId
 z3:Nat×Nat
 z4:Nat×Nat
 z5:Nat×Nat
 c3:Array Value
 c4:Array Value
 c5:Array Value
 t3:TypeId
 t4:TypeId
 t5:TypeId
 d1:gh≠arity
 d2:gh≠type
 d3:arity≠type
 n3: ∀g,g∈[1,0,3,4,2]->gh.block≠g
 n4: ∀g,g∈[1,0,3,4,2]->arity.block≠g
 n5: ∀g,g∈[1,0,3,4,2]->type.block≠g
def ar4(κ:Kp):Value:= .iface 273 (.pointer (some κ.tree))
def ni(κ:Kp):Value:= .iface 273 (.pointer (some κ.stuck))
def Aw(κ:Kp)(b:Nat):Option Go.Obj:=
 bif Nat.beq b 1 then some (.cells #[.iface 273 (.pointer (some κ.tree))] κ.T1 κ.z1)
 else bif Nat.beq b 0 then some (.cells #[.iface 273 (.pointer (some κ.stuck))] κ.T2 κ.z2)
 else bif Nat.beq b 3 then some (.cells #[.iface 273 (.pointer (some κ.gh))] κ.T3 κ.z3)
 else bif Nat.beq b 4 then some (.cells #[.iface 273 (.pointer (some κ.arity))] κ.T4 κ.z4)
 else bif Nat.beq b 2 then some (.cells #[.iface 273 (.pointer (some κ.type))] κ.T5 κ.z5)
 else bif Nat.beq b κ.gh.block then some (.cells κ.c3 κ.t3 (0,0))
 else bif Nat.beq b κ.arity.block then some (.cells κ.c4 κ.t4 (0,0))
 else bif Nat.beq b κ.type.block then some (.cells κ.c5 κ.t5 (0,0))
 else none
def aB(κ:Kp)(a:Bool):Value:=bif a then .nilIface else .iface 273 (.pointer (some κ.tree))
theorem nZ κ b:aD (aB κ b)=true:=by cases b<;>rfl
theorem rB κ b:bU (aB κ b)=b:=by cases b<;>rfl
theorem pH κ b:bj (aB κ b)=true:=by cases b<;>rfl
noncomputable abbrev Pr(κ:Kp):Pg:={toProgram:=Tryz.prog,kept:=Aw κ}
theorem A0:rn Tryz.prog:=Ub (by rfl)
def ax1:=[139,182,161,183,187,162,186,135,184,116,92,109,93,67,119,95,110,133,168,134,84,132,111,163,118,999999,999999]
def ay7:=[114,170,999999,999999,999999,999999,999999]
def YA:=[174,138,201,194,195,173,192,172,175,193,96,164,189,137,999999,999999,999999,29,105,104,60,59,999999,999999,999999,999999,999999,999999,999999,999999,999999,999999,999999,999999,999999,999999,999999,999999,999999,999999,94,48,999999,999999,999999,999999,999999,999999,999999,153,130,90,88,85,131,999999,999999,999999,999999,999999,999999]
def X2:=[155,200,160,115,106,999999]
def ac1:=[86]
noncomputable def E0 κ:=((Env.none (Pr κ) live (fun f=>jr f ax1) (fun f=>jr f ay7) fun f=>jr f YA).kb fun f=>jr f X2).jR fun f=>jr f ac1
theorem e0 κ:aE (E0 κ):=((aE.none A0).kb _).jR _
theorem m0 κ:aj (E0 κ):=(aj.none.kb _).jR _
theorem y48 κ op K:(a8 (E0 κ) 12 174 [.int op] [] K)=(
 aq (op==5) (K (AV.bool true) []) (aq (op==6) (K (AV.bool true) []) (K (AV.bool (op==7)) []))):=by kernel_rfl
def g48:List AV->Option (Bool×AV)
 |[.lit (.int .i64 a)]=>some (true, .bool (iY a))
 |_=>none
theorem p48 κ:cm (E0 κ) 12 174 g48:=by
 intro a x h;unfold g48 at h;split at h
 ·simp   at h
  subst h;refine⟨_,rfl,rfl,?_⟩
  grind [y48,iY,ae]
 grind
noncomputable def Sx κ:=(E0 κ).aO 174 g48
theorem e48 κ:aE (Sx κ):=(e0 _).aO (m0 _) (p48 _)
theorem m48 κ:aj (Sx κ):=(m0 _).aO
theorem x57 κ s p I n K:(vc (Sx κ) 12 138 none 0 (ad (Pr κ).toProgram 138 4) (sp 55 [(18, .ptr 0 0 [] 0)] [.dD s p]) (bg (Sx κ) 138 4 0 I n K))=(
 letI b:=∃e0,e0<n/\I e0 (sp 55 [(18,.ptr 0 0 [] 0)] [.dD s (p+Prod.snd (Utf8.decode s p))])
 letI a:=Prod.fst (Utf8.decode s p)
 letI c:=K .ret (sp 55 [(2,AV.bool false)] [])
 letI d:=aq (!↑a==(95:Int)) (aq (↑p==(0:Int)) c (aq (decide (↑a<(48:Int))) c (aq (decide (↑a>(57:Int)))
  c b))) b
 letI e:=aq (decide (↑a>=(65:Int))) (aq (decide (↑a<=(90:Int))) b d) d
 aq (Nat.blt p (ByteArray.size s)) (aq (decide (↑a>=(97:Int))) (aq (decide (↑a<=(122:Int))) b e) e) (K (.exit 0) (sp 55 [] []))):=by kernel_rfl
abbrev YS(a:ByteArray×Nat):=sp 55 [(18, .ptr 0 0 [] 0)] [.dD a.1 a.2]
noncomputable def EW(a:ByteArray×Nat):Out (Exit×S):=
 .aq (nameAt a.1 a.2) (.one (.exit 0,sp 55 [] [])) (.one (.ret,sp 55 [(2, .bool false)] []))
theorem l57 κ:aU (Sx κ) 12 138 4 (aG 0 YS (fun _=>True) EW):=by
 refine aC (fun a=>a.1.size - a.2) ?_;rintro⟨s,p⟩ K - f;rw[show(Sx κ).P=Pr κ from rfl,x57];simp only[EW,Out.run,ae] at f;have b: ∀c:Int,c=(Utf8.decode s p).1->p<s.size->(letter c||(!(decide ((p:Int)=0)||decide (c<48)||decide ((57:Int)<c))))=true->
   ∃m,m<s.size - p/\eW YS (fun _=>True) EW (fun a=>a.1.size - a.2) K m (sp 55 [(18, .ptr 0 0 [] 0)] [.dD s (p+(Utf8.decode s p).2)]):=by
  rintro c rfl d g;have:=Bo s p
  refine⟨s.size - (p+(Utf8.decode s p).2),by omega,(s,p+(Utf8.decode s p).2),rfl,trivial,rfl,?_⟩;rw[nameAt,dif_pos d,g,aE2] at f;simpa only[EW,Out.run,ae] using f
 have e: ∀c:Int,c=(Utf8.decode s p).1->p<s.size->(letter c||(!(decide ((p:Int)=0)||decide (c<48)||decide ((57:Int)<c))))=false->K Exit.ret (sp 55 [(2, .bool false)] []):=by
  rintro c rfl d g;rw[nameAt,dif_pos d,g,Bool.false_and] at f;exact f.2 rfl
 have b:=b _ rfl;have e:=e _ rfl;generalize ((Utf8.decode s p).1:Int)=c at*
 simp only[ae,Nat.blt_eq,at3,aC7,beq_iff_eq,beq_eq_false_iff_ne,Bool.not_eq_true',aD7,bne_iff_ne];refine⟨fun d=>?_,fun d=>f.1 ?_⟩
 ·have b:=b d
  have e:=e d;simp only[letter,aD9,aC6,Bool.not_eq_true',Bool.or_eq_false_iff,Bool.and_eq_false_iff,aD7,at3,aC7] at b e
  simp_all
 ·have d: ¬ p<s.size:=fun h=>by rw[show Nat.blt p s.size=true from by rw[Nat.blt_eq];exact h] at d;cases d
  rw[nameAt,dif_neg d]
noncomputable def NM κ:=(Sx κ).an 138 4 (aG 0 YS (fun _=>True) EW)
theorem av7 κ:aE (NM κ):=(e48 _).an (m48 _) (l57 _)
theorem af9 κ:aj (NM κ):=(m48 _).an aK
theorem y57 κ s K:(a8 (NM κ) 12 138 [.lit (.string s)] [] K)=(
 letI a:=K (AV.bool false) []
 letI b:=Pg.toProgram (Env.P (Sx κ))
 aq (ByteArray.toList s==ByteArray.toList {data:= #[]}) a (aq (ByteArray.toList s==ByteArray.toList {data:= #[OfNat.ofNat 95]}) a (aq (decide ((↑(ByteArray.size s))>(40:Int))) a (ad b 138 4=ad b 138 4/\∃(e0:ByteArray×Nat),sp 55 [(18,.ptr 0 0 [] 0)] [.dD s 0]=sp 55 [(18,.ptr 0 0 [] 0)] [.dD e0.1 e0.2]/\True/\aq (nameAt e0.1 e0.2) (K (AV.bool true) []) a)))):=by kernel_rfl
def g57:List AV->Option (Bool×AV)
 |[.lit (.string s)]=>some (true, .bool (isName s))
 |_=>none
theorem p57 κ:cm (NM κ) 12 138 g57:=by
 intro c x h;unfold g57 at h;split at h
 ·rename_i s
  simp only[aC8,aD4,true_and] at h;subst h;refine⟨_,rfl,rfl,?_⟩;rw[y57];unfold isName oT;simp only[ae,at3,aC7];refine⟨fun a=>by rw[a];rfl,fun a=>⟨fun b=>by rw[a,b];rfl,fun b=>⟨fun d=>?_,fun d=>⟨trivial,⟨s,0⟩,rfl,trivial,fun e=>?_,fun e=>?_⟩⟩⟩⟩
  ·rw[a,b,aD1 (show(40:Int)<s.size from d)];rfl
  ·simp_all
  grind
 ·cases h
noncomputable def Z7 κ:=(NM κ).aO 138 g57
theorem e57 κ:aE (Z7 κ):=(av7 _).aO (af9 _) (p57 _)
theorem m57 κ:aj (Z7 κ):=(af9 _).aO
theorem y64 κ op s n l K:(a8 (Z7 κ) 12 201 [.agg [.int op, .lit (.string s), .int n, .ah 38 l]] [] K)=(
 letI a:=K (AV.bool (n==0)) []
 letI b:=K (AV.bool false) []
 letI c:=ByteArray.toList s==ByteArray.toList {data:= #[]}
 aq (op==1) (aq (isName s) a b) (aq (op==2) (K (AV.bool c) []) (aq (op==3) a (aq (op==4) (aq c a b) (aq (op==0) (aq (ByteArray.toList s==ByteArray.toList {data:= #[]}) a b) b))))):=by kernel_rfl
def g64:List AV->Option (Bool×AV)
 |[.agg [.lit (.int .i64 a), .lit (.string s), .lit (.int .i64 n), .ah 38 _]]=>some (true, .bool (bare a s n))
 |_=>none
theorem p64 κ:cm (Z7 κ) 12 201 g64:=by
 intro b x h;unfold g64 at h;split at h
 ·rename_i a s n l
  simp only[aC8,aD4,true_and] at h;subst h;refine⟨_,rfl,rfl,?_⟩;rw[y64];have e: ∀k:Int,(a==k)=decide (a=k):=fun k=>by by_cases h:a=k<;>simp[h]
  simp only[e];cases d:isName s<;>cases f:(ByteArray.toList s==ByteArray.toList (ByteArray.mk #[]))<;>
  by_cases g:a=1<;>by_cases i:a=2<;>by_cases j:a=3<;>by_cases m:a=4<;>by_cases c:a=0<;>
  (simp only[aq,bare,oT,d,f,g,i,j,m,c];rfl)
 ·cases h
noncomputable def SD κ:=(Z7 κ).aO 201 g64
theorem e64 κ:aE (SD κ):=(e57 _).aO (m57 _) (p64 _)
theorem m64 κ:aj (SD κ):=(m57 _).aO
theorem ad4(l:List AV):((l.length:Int)==0)=decide ((l.length:Int)=0):=rfl
theorem y60 κ op s n l K:(a8 (SD κ) 12 194 [.agg [.int op, .lit (.string s), .int n, .ah 38 l]] [] K)=(
 aq (op==0) (aq (bare op s n) (K (AV.bool (↑(l.length)==(0:Int))) []) (K (AV.bool false) [])) (K (AV.bool false) [])):=by kernel_rfl
theorem y61 κ s l K:(a8 (SD κ) 12 195 [.agg [.lit (.string s), .ah 38 l]] [] K)=(
 aq (ByteArray.toList s==ByteArray.toList {data:= #[]}) (K (AV.bool (↑(l.length)==(0:Int))) []) (K (AV.bool false) [])):=by kernel_rfl
theorem y47 κ b K:(a8 (SD κ) 12 173 [.bool b] [] K)=(
 aq b (K (.lit .nilIface) []) (K (.lit (.iface 273 (.pointer (some (Kp.tree κ))))) [])):=by kernel_rfl
def g60:List AV->Option (Bool×AV)
 |[.agg [.lit (.int .i64 a), .lit (.string s), .lit (.int .i64 n), .ah 38 l]]=>some (true, .bool (decide (a=0)&&bare a s n&&decide ((l.length:Int)=0)))
 |_=>none
theorem p60 κ:cm (SD κ) 12 194 g60:=by
 intro a x h;unfold g60 at h;split at h
 ·simp only[aC8,aD4,true_and] at h
  subst h;refine⟨_,rfl,rfl,?_⟩
  simp_all[y60,ad4,ae]
 grind
def g61:List AV->Option (Bool×AV)
 |[.agg [.lit (.string s), .ah 38 l]]=>some (true, .bool (oT s (ByteArray.mk #[])&&decide ((l.length:Int)=0)))
 |_=>none
theorem p61 κ:cm (SD κ) 12 195 g61:=by
 intro a x h;unfold g61 at h;split at h
 ·simp[aC8,aD4,true_and] at h
  subst h;refine⟨_,rfl,rfl,?_⟩
  simp_all[y61,oT,ad4,ae]
 grind
def g47(κ:Kp):List AV->Option (Bool×AV)
 |[.lit (.bool b)]=>some (true, .lit (aB κ b))
 |_=>none
theorem p47 κ:cm (SD κ) 12 173 (g47 κ):=by
 intro a x h;unfold g47 at h;split at h
 ·rename_i b
  simp   at h;subst h;refine⟨_,rfl,pH _ b,?_⟩;rw[y47];cases b<;>rfl
 grind
noncomputable def E47 κ:=(((SD κ).aO 194 g60).aO 195 g61).aO 173 (g47 κ)
theorem e47 κ:aE (E47 κ):=(((e64 _).fg (nB (e64 κ) (m64 κ) (p60 κ))).fg (nB (e64 _) (m64 _) (p61 κ))).fg (nB (e64 κ) (m64 κ) (p47 κ))
theorem m47 κ:aj (E47 κ):=(m64 _).aO.aO.aO
def ZF(κ:Kp):List AV->Option (Bool×AV)
 |[.agg [.lit (.int .i64 a), .lit (.string s), .lit (.int .i64 n), .ah 38 l], .lit (.int .i64 h)]=>some (decide (0<=h)&&decide (h<=1000), .lit (aB κ (au h.toNat (.mk a s n (aa l)))))
 |_=>none
def Nc:List AV->Nat
 |[_, .lit (.int .i64 h)]=>h.toNat
 |_=>0
noncomputable def Gw κ n:=(E47 κ).aO 192 (below (ZF κ) Nc n)
theorem x58 κ r h l i I n K:(vc (Gw κ r) 12 192 none 0 (ad (Pr κ).toProgram 192 10) (sp 72 [(1, .int h),(49, .ah 38 l),(50, .int l.length),(51, .int i)] []) (bg (Gw κ r) 192 10 0 I n K))=(
 letI a:=IntKind.wrap .i64
 letI b:=AV.int
 letI c:=nth l i.toNat
 letI f:=K .ret (sp 72 [(4,.lit (.iface 273 (.pointer (some (Kp.tree κ)))))] [])
 letI g:=i<↑(l.length)
 letI d:=h - 1
 letI j:=a d
 letI e:=aB κ (au (Int.toNat j) (.mk (toInt (af c 0)) (toStr (af c 1)) (toInt (af c 2)) (aa (ag (af c 3)))))
 aq (decide g) (aW (decide (0<=i)&&decide g) (aq (toInt (af c 0)==3) f (aq (toInt (af c 0)==4) f (aW (decide (0<=
 a d)&&decide (a d<=1000)&&Nat.blt (Nc [.agg [b (toInt (af c 0)),AV.str (toStr (af c 1)),
 b (toInt (af c 2)),.ah 38 (ag (af c 3))],b j]) r) (aW (aD e) (aq (!bU e) (K .ret (sp 72 [(4,.lit e)] [])) (∃e0,e0<n/\I
 e0 (sp 72 [(1,b h),(49,.ah 38 l),(50,b ↑(l.length)),(51,b (a (i+1)))] [])))))))) (K (.exit
 1) (sp 72 [] []))):=by kernel_rfl
abbrev an5(a:Int×List _×Int):=sp 72 [(1, .int a.1),(49, .ah 38 a.2.1),(50, .int a.2.1.length),(51, .int a.2.2)] []
def Qw r(a:Int×List AV×Int):=1<=a.1/\a.1<=1000/\a.1.toNat<=r/\a.2.1.length<=aX/\0<=a.2.2/\a.2.2<=a.2.1.length
noncomputable def JR(κ:Kp)(a:Int×List AV×Int):Out (Exit×S):=
 .aq (mx (a.1 - 1).toNat (aa (a.2.1.drop a.2.2.toNat))) (.one (.exit 1,sp 72 [] [])) (.one (.ret,sp 72 [(4, .lit (aB κ false))] []))
theorem l58 κ r:aU (Gw κ r) 12 192 10 (aG 0 an5 (Qw r) (JR κ)):=by
 refine aC (fun a=>a.2.1.length - a.2.2.toNat) ?_;rintro⟨h,l,i⟩ K ⟨k,m,p,f,q,s⟩ b;simp only at k m p f q s;rw[show(Gw κ r).P=Pr κ from rfl,x58];simp only[JR,Out.run,ae] at b;rw[az (n:=h - 1) (by omega) (by omega)];simp only[aX] at f;simp only[nZ,rB];simp only[←cI];simp only[ae,ai,at3,aC7,aC6,beq_iff_eq,beq_eq_false_iff_ne,Bool.not_eq_true',aD7,Nc,Nat.blt_eq];refine⟨fun o=>⟨⟨q,o⟩,?_⟩,fun o=>b.1 ?_⟩
 ·have e:=fo l i.toNat (by omega)
  rw[e] at b;have d:(cx (nth l i.toNat)).op=toInt (af (nth l i.toNat) 0):=by rw[cI];rfl
  simp only[mx,aE3,d] at b;refine⟨fun g=>b.2 (by simp[g]),fun g=>⟨fun j=>b.2 (by simp[j]),fun j=>⟨⟨⟨by omega,by omega⟩,by omega⟩,trivial,fun c=>?_,fun c=>?_⟩⟩⟩
  ·rw[c];exact b.2 (by rw[c];simp)
  ·rw[az (n:=i+1) (by omega) (by omega)]
   refine⟨_,?_,(h,l,i+1),rfl,⟨k,m,p,by simpa[aX] using f,by simp only;omega,by simp only;omega⟩,rfl,?_⟩
   ·simp only;omega
   ·rw[c] at b
    simp only[JR,Out.run,ae,mx];rw[show(i+1).toNat=i.toNat+1 by omega];simpa[g,j] using b
 ·rw[aD3 (by omega)];rfl
noncomputable def NN κ r:=(Gw κ r).an 192 10 (aG 0 an5 (Qw r) (JR κ))
theorem y58 κ r op s n l h K:(a8 (NN κ r) 12 192 [.agg [.int op, .lit (.string s), .int n, .ah 38 l], .int h] [] K)=(
 letI a:=AV.int
 letI b:=K (.lit (.iface 273 (.pointer (some (Kp.tree κ))))) []
 letI c:=Pg.toProgram (Env.P (Gw κ r))
 letI d:=K (.lit .nilIface) []
 aq (h==0) b (aq (op==0) b (aq (!iY op) (aq (!bare op s n) b (aq (decide (↑(l.length)>(0:Int))) b d)) (aq (!ByteArray.toList s==ByteArray.toList {data:= #[]}) b (aq (n != 0) b (aq (↑(l.length) != (2:Int)) b (ad c 192 10=ad c 192 10/\∃(e0:Int×List AV×Int),sp 72 [(1,a h),(49,.ah 38 l),(50,a ↑(l.length)),(51,a 0)] []=sp 72 [(1,a e0.1),(49,.ah 38 e0.2.1),(50,a ↑(e0.2.1.length)),(51,a e0.2.2)] []/\(1<=e0.1/\e0.1<=1000/\e0.1.toNat<=r/\e0.2.1.length<=9223372036854775807/\0<=e0.2.2/\e0.2.2<=↑(e0.2.1.length))/\aq (mx (Int.toNat (e0.1 - 1)) (aa (List.drop (Int.toNat e0.2.2) e0.2.1))) d b))))))):=by kernel_rfl
theorem av8 κ r(b:gW (Pr κ) 192 (below (ZF κ) Nc r)):aE (NN κ r)/\aj (NN κ r)/\(NN κ r).P=Pr κ:=
 have h:=(e47 _).fg b;have a:=(m47 _).aO
 ⟨h.an a (l58 _ r),a.an aK,rfl⟩
theorem p58 κ r:cm (NN κ r) 12 192 fun xs=>bif Nat.beq (Nc xs) r then ZF κ xs else none:=by
 intro d x b;cases f:Nat.beq (Nc d) r with
 |false=>simp only[f] at b;cases b
 | true=>
  simp only[f,aD2] at b;unfold ZF at b;split at b
  ·rename_i t s n l h
   simp only[aC8,aD4,aC6,at3] at b;obtain⟨⟨u,o⟩,rfl⟩:=b;have v:h.toNat=r:=Nat.eq_of_beq_eq_true f;refine⟨_,rfl,pH κ _,?_⟩;rw[y58];have p:AV.lit (.iface 273 (.pointer (some κ.tree)))= .lit (aB κ false):=rfl;have j:AV.lit .nilIface= .lit (aB κ true):=rfl;rw[p,j];by_cases i:h=0
   ·subst i;rfl
   ·obtain⟨m,k⟩: ∃m,h.toNat=m+1:=⟨h.toNat - 1,by omega⟩
    rw[k,qB,eS];unfold oT;generalize (ByteArray.toList s==ByteArray.toList (ByteArray.mk #[]))=z
    simp only[ae,beq_iff_eq,beq_eq_false_iff_ne,Bool.not_eq_true',aD7,at3,aC7,bne_iff_ne,bne_eq_false_iff_eq];refine⟨fun e=>absurd e i,fun _=>⟨fun e=>by rw[aD1 e];rfl,fun e=>?_⟩⟩;rw[aC9 e,aD0];refine⟨fun g=>?_,fun g=>?_⟩
    ·rw[g,aD0]
     refine⟨fun a=>by rw[a];rfl,fun a=>⟨fun c=>?_,fun c=>?_⟩⟩
     ·rw[aC9 (show ¬ l.length=0 by omega),Bool.and_false]
     ·rw[a,aD1 (show l.length=0 by omega)];rfl
    ·rw[g,aD2]
     refine⟨fun a=>by rw[a];rfl,fun a=>⟨fun c=>by rw[a,aC9 c];rfl,fun c=>⟨fun q=>?_,fun q=>?_⟩⟩⟩
     ·rw[aC9 (show ¬ l.length=2 by omega)];simp
     ·refine⟨trivial,(h,l,0),rfl,⟨by simp only;omega,o,by simp only;omega,by simp only;omega,by simp only;omega,by simp only;omega⟩,?_⟩
      rw[a,aD1 c,aD1 (show l.length=2 by omega)];simp only[show(h - 1).toNat=m by omega,Int.toNat_zero,aD5,aE2];exact⟨fun e=>by rw[e],fun e=>by rw[e]⟩
  ·cases b
theorem q58 κ:gW (Pr κ) 192 (ZF κ):=aE.w7 _ _ _ (av8 _) (p58 _)
noncomputable def SC κ:=(E47 κ).aO 192 (ZF κ)
theorem e58 κ:aE (SC κ):=(e47 _).fg (q58 _)
theorem m58 κ:aj (SC κ):=(m47 _).aO
theorem x46 κ l i I n K:(vc (SC κ) 12 172 none 0 (ad (Pr κ).toProgram 172 4) (sp 36 [(24, .ah 38 l),(25, .int l.length),(26, .int i)] []) (bg (SC κ) 172 4 0 I n K))=(
 letI a:=nth l i.toNat
 letI b:=aB κ (au 20 (.mk (toInt (af a 0)) (toStr (af a 1)) (toInt (af a 2)) (aa (ag (af a 3)))))
 letI c:=i<↑(l.length)
 aq (decide c) (aW (decide (0<=i)&&decide c) (aW (aD b) (aq (!bU b) (K .ret (sp 36 [(2,.lit b)] [])) (∃e0,e0<n/\I e0 (sp 36
 [(24,.ah 38 l),(25,AV.int ↑(l.length)),(26,AV.int (IntKind.wrap .i64 (i+1)))] []))))) (K (.exit 0) (sp 36 [] []))):=by kernel_rfl
abbrev an3(a:List _×Int):=sp 36 [(24, .ah 38 a.1),(25, .int a.1.length),(26, .int a.2)] []
def Qu(a:List AV×Int):=a.1.length<=aX/\0<=a.2/\a.2<=a.1.length
noncomputable def JP(κ:Kp)(a:List AV×Int):Out (Exit×S):=
 .aq ((aa (a.1.drop a.2.toNat)).all (au 20)) (.one (.exit 0,sp 36 [] [])) (.one (.ret,sp 36 [(2, .lit (aB κ false))] []))
theorem l46 κ:aU (SC κ) 12 172 4 (aG 0 an3 Qu (JP κ)):=by
 refine aC (fun a=>a.1.length - a.2.toNat) ?_;rintro⟨l,i⟩ K ⟨d,e,g⟩ b;simp only at d e g;rw[show(SC κ).P=Pr κ from rfl,x46];simp only[JP,Out.run,ae] at b;simp only[aX] at d;simp only[nZ,rB,←cI];simp only[ae,ai,at3,aC7,aC6,beq_iff_eq,beq_eq_false_iff_ne,Bool.not_eq_true',aD7];refine⟨fun f=>⟨⟨e,f⟩,trivial,fun c=>?_,fun c=>?_⟩,fun f=>b.1 ?_⟩
 ·rw[c]
  rw[fo l i.toNat (by omega),aE3,c,Bool.false_and] at b;exact b.2 rfl
 ·rw[az (n:=i+1) (by omega) (by omega)]
  refine⟨_,?_,(l,i+1),rfl,⟨by simpa[aX] using d,by simp only;omega,by simp only;omega⟩,rfl,?_⟩
  ·simp only;omega
  ·rw[fo l i.toNat (by omega),aE3,c,aE2] at b
   grind [JP,Out.run,ae]
 ·rw[aD3 (by omega)];rfl
noncomputable def NH κ:=(SC κ).an 172 4 (aG 0 an3 Qu (JP κ))
theorem av3 κ:aE (NH κ):=(e58 _).an (m58 _) (l46 _)
theorem af6 κ:aj (NH κ):=(m58 _).an aK
theorem y46 κ s l K:(a8 (NH κ) 12 172 [.agg [.lit (.string s), .ah 38 l]] [] K)=(
 letI a:=K (.lit (.iface 273 (.pointer (some (Kp.tree κ))))) []
 letI b:=Pg.toProgram (Env.P (SC κ))
 aq (!isName s) a (aq (↑(l.length)==(0:Int)) a (aq (decide (↑(l.length)>(8:Int))) a (ad b 172 4=ad b 172 4/\∃(e0:List AV×
 Int),sp 36 [(24,.ah 38 l),(25,AV.int ↑(l.length)),(26,AV.int 0)] []=sp 36 [(24,.ah 38 e0.1),(25,AV.int ↑(e0.1.length)),(26,
 AV.int e0.2)] []/\(e0.1.length<=9223372036854775807/\0<=e0.2/\e0.2<=↑(e0.1.length))/\aq (List.all (aa (List.drop e0.2.toNat e0.1)) (au
 20)) (K (.lit .nilIface) []) a)))):=by kernel_rfl
def g46(κ:Kp):List AV->Option (Bool×AV)
 |[.agg [.lit (.string s), .ah 38 l]]=>some (true, .lit (aB κ (bm ⟨s,aa l⟩)))
 |_=>none
theorem p46 κ:cm (NH κ) 12 172 (g46 κ):=by
 intro b x a;unfold g46 at a;split at a
 ·rename_i s l
  simp only[aC8,aD4,true_and] at a;subst a;refine⟨_,rfl,pH κ _,?_⟩;rw[y46];have c:AV.lit (.iface 273 (.pointer (some κ.tree)))= .lit (aB κ false):=rfl;have d:AV.lit .nilIface= .lit (aB κ true):=rfl;rw[c,d];simp only[bm,eS];simp only[ae,beq_iff_eq,beq_eq_false_iff_ne,Bool.not_eq_true',aD7,at3,aC7];refine⟨fun e=>by rw[e];rfl,fun e=>⟨fun g=>by rw[aD1 (show l.length=0 by omega)];simp,fun g=>⟨fun f=>by rw[aC9 (show ¬ l.length<=8 by omega)];simp,fun f=>⟨trivial,(l,0),rfl,⟨by simp only;omega,by simp only;omega,by simp only;omega⟩,?_⟩⟩⟩⟩
  grind [decide_eq_false,decide_eq_true]
 ·cases a
noncomputable def R6 κ:=(NH κ).aO 172 (g46 κ)
theorem e46 κ:aE (R6 κ):=(av3 _).aO (af6 _) (p46 _)
theorem m46 κ:aj (R6 κ):=(af6 _).aO
noncomputable def Gx κ:=(R6 κ).an 193 2 (lW (R6 κ) 12 193 2 5)
theorem av9 κ:aE (Gx κ):=(e46 _).an (m46 _) (u5 (m46 _) 5)
theorem ag0 κ:aj (Gx κ):=(m46 _).an (mE (m46 _) 5)
theorem aB3 κ u1 u2 K:(a8 (Gx κ) 12 193 [.ah 171 [.lit u1, .lit u2]] [] K)=(
 letI a:=Pg.toProgram (Env.P (R6 κ))
 ad a 193 2=ad a 193 2/\aW (aD u1) (aq (!bU u1) (K (.lit u1) []) (aW (aD u2) (aq (!bU u2) (K (.lit u2) []) (K (.lit .nilIface) []))))):=by kernel_rfl
theorem aB4 κ u1 u2 u3 K:(a8 (Gx κ) 12 193 [.ah 171 [.lit u1, .lit u2, .lit u3]] [] K)=(
 letI a:=Pg.toProgram (Env.P (R6 κ))
 ad a 193 2=ad a 193 2/\aW (aD u1) (aq (!bU u1) (K (.lit u1) []) (aW (aD u2) (aq (!bU u2) (K (.lit u2) []) (aW (aD u3) (aq (!bU u3) (K (.lit u3) [])
 (K (.lit .nilIface) []))))))):=by kernel_rfl
theorem aB5 κ u1 u2 u3 u4 K:(a8 (Gx κ) 12 193 [.ah 171 [.lit u1, .lit u2, .lit u3, .lit u4]] [] K)=(
 letI a:=AV.lit
 letI b:=Pg.toProgram (Env.P (R6 κ))
 ad b 193 2=ad b 193 2/\aW (aD u1) (aq (!bU u1) (K (a u1) []) (aW (aD u2) (aq (!bU u2) (K (a u2) []) (aW (aD u3) (aq (!bU u3) (K (a u3) [])
 (aW (aD u4) (aq (!bU u4) (K (a u4) []) (K (a .nilIface) []))))))))):=by kernel_rfl
def bG u v:=bif bU u then v else u
theorem Ha κ a b:bG (aB κ a) (aB κ b)=aB κ (a&&b):=by cases a<;>rfl
theorem Hz{u}(h:aD u=true)(a:bU u=true):u= .nilIface:=by grind [bU]
def g59:List AV->Option (Bool×AV)
 |[.ah 171 [.lit b, .lit a]]=>some (aD b&&aD a&&(bj b&&bj a), .lit (bG b a))
 |[.ah 171 [.lit b, .lit a, .lit c]]=>some (aD b&&(aD a&&aD c)&&(bj b&&(bj a&&bj c)), .lit (bG b (bG a c)))
 |[.ah 171 [.lit b, .lit a, .lit c, .lit d]]=>some (aD b&&(aD a&&(aD c&&aD d))&&(bj b&&(bj a&&(bj c&&bj d))), .lit (bG b (bG a (bG c d))))
 |_=>none
theorem p59 κ:cm (Gx κ) 12 193 g59:=by
 intro k x a;unfold g59 at a;split at a
 ·rename_i b c
  simp only[aC8,aD4,aC6] at a;obtain⟨⟨⟨f,d⟩,e,m⟩,rfl⟩:=a;refine⟨_,rfl,by unfold bG;cases bU b<;>assumption,?_⟩;rw[aB3,f,d];refine⟨rfl,?_⟩;unfold bG;cases i:bU b
  ·rfl
  ·cases h:bU c
   ·rfl
   ·rw[Hz d h];rfl
 ·rename_i b c g
  simp only[aC8,aD4,aC6] at a;obtain⟨⟨⟨f,d,e⟩,m,n,q⟩,rfl⟩:=a;refine⟨_,rfl,by unfold bG;cases bU b<;>cases bU c<;>assumption,?_⟩;rw[aB4,f,d,e];refine⟨rfl,?_⟩;unfold bG;cases i:bU b
  ·rfl
  ·cases h:bU c
   ·rfl
   ·cases j:bU g
    ·rfl
    ·rw[Hz e j];rfl
 ·rename_i b c g p
  simp only[aC8,aD4,aC6] at a;obtain⟨⟨⟨f,d,e,l⟩,m,n,q,r⟩,rfl⟩:=a;refine⟨_,rfl,by unfold bG;cases bU b<;>cases bU c<;>cases bU g<;>assumption,?_⟩;rw[aB5,f,d,e,l];refine⟨rfl,?_⟩;unfold bG;cases i:bU b
  ·rfl
  ·cases h:bU c
   ·rfl
   ·cases j:bU g
    ·rfl
    ·cases o:bU p
     ·rfl
     ·rw[Hz l o];rfl
 ·cases a
noncomputable def Z8 κ:=(Gx κ).aO 193 g59
theorem e59 κ:aE (Z8 κ):=(av9 _).aO (ag0 _) (p59 _)
theorem m59 κ:aj (Z8 κ):=(ag0 _).aO
theorem y49(κ:Kp)(op:Int) s(l:List AV)(o1:Int) s1(n1:Int)(l1:List AV)(o2:Int) s2(n2:Int)(l2:List AV) K:(a8 (Z8 κ) 12 175 [.agg [.int op, .agg [.lit (.string s), .ah 38 l], .agg [.int o1, .lit (.string s1), .int n1, .ah 38 l1], .agg [.int o2, .lit (.string s2), .int n2, .ah 38 l2]]] [] K)=(
 letI a:=AV.lit
 letI d:=aB κ (au 20 (Tm.mk o1 s1 n1 (aa l1)))
 letI q:=aB κ (au 20 (Tm.mk o2 s2 n2 (aa l2)))
 letI b:=aB κ (bm {rel:=s,l:=aa l})
 letI i:=aB κ (decide (o2=(0:Int))&&bare o2 s2 n2&&decide ((↑(l2.length):Int)=(0:Int)))
 letI y:=Value.iface 273 (Value.pointer (some (Kp.tree κ)))
 letI w:=aB κ (o2==(1:Int))
 letI c:=aB κ (bm {rel:=s,l:=aa l})
 letI g:=K (a (bG b (bG w (bG d q)))) []
 letI e:=aD d&&aD q
 letI f:=bj d&&bj q
 letI k:=K (a (bG b y)) []
 letI x:=aq (decide (o1=(0:Int))&&bare o1 s1 n1&&decide ((↑(l1.length):Int)=(0:Int))) (aW (aD b&&aD i&&(bj b&&bj i)) (K (a (bG b
  i)) [])) (aW (aD b&&true&&(bj b&&true)) k)
 letI r:=aW (aD b&&(true&&e)&&(bj b&&(true&&f))) k
 letI m:=aB κ (o2 != (4:Int))
 letI h:=o1==(2:Int)
 letI n:=K (a y) []
 letI t:=aW (true&&e&&(true&&f)) n
 letI j:=aq (oT s {data:= #[]}&&decide ((↑(l.length):Int)=(0:Int))) (aq (o1 != (4:Int)) (aW (aD m&&e&&(bj m&&f)) (K (a (bG m (bG d q))) [])) t) t
 letI u:=bj b&&(bj i&&bj d)
 letI o:=aD w&&e
 letI p:=bj w&&f
 letI z:=aD b&&o&&(bj b&&p)
 letI v:=aW z (K (a (bG c (bG w (bG d q)))) [])
 aq (o1==(1:Int)) (aq (op==(1:Int)) x (aq (op==(2:Int)) x (aq (op==(3:Int)) j (aq (op==(4:Int)) j (aq (op==(5:Int)) j (aq (op==(6
 :Int)) j (aq (op==(7:Int)) (aW (aD b&&(aD i&&aD d)&&u) (K (a (bG b (bG i d))) [])) (aq (op==(8:Int)) (aW z g) (aq (op==(9:
 Int)) (aW (aD c&&o&&(bj b&&p)) g) (aq (op==(10:Int)) v n)))))))))) (aq (op==(1:Int)) x (aq (op==(2:Int)) x (aq (op==(3:
 Int)) j (aq (op==(4:Int)) j (aq (op==(5:Int)) j (aq (op==(6:Int)) j (aq (op==(7:Int)) (aq h (aW (aD c&&(aD i&&aD d)&&u) (K
 (a (bG c (bG i d))) [])) (aW (aD b&&(true&&aD d)&&(bj b&&(true&&bj d))) (K (a (bG c y)) []))) (aq (op==(8:Int)) (aq h (aW
 z g) r) (aq (op==(9:Int)) (aq h (aW (aD b&&o&&(bj c&&p)) g) (aW (aD b&&(true&&e)&&(bj c&&(true&&f))) k)) (aq (op==
 (10:Int)) (aq h v r) n))))))))))):=by kernel_rfl
theorem S7 κ b x y r:aq b (AV.lit (aB κ x)=AV.lit (aB κ r)) (AV.lit (aB κ y)=AV.lit (aB κ r))↔AV.lit (aB κ (bif b then x else y))=AV.lit (aB κ r):=by
 cases b<;>rfl
theorem S5(a b:Int):(a==b)=decide (a=b):=rfl
theorem I5(a b:Int):(a != b)= !decide (a=b):=rfl
def g49(κ:Kp):List AV->Option (Bool×AV)
 |[.agg [.lit (.int .i64 a), .agg [.lit (.string s), .ah 38 l], .agg [.lit (.int .i64 b), .lit (.string s1), .lit (.int .i64 c), .ah 38 d], .agg [.lit (.int .i64 e), .lit (.string s2), .lit (.int .i64 f), .ah 38 g]]]=>
  some (true, .lit (aB κ (fX ⟨a,⟨s,aa l⟩, .mk b s1 c (aa d), .mk e s2 f (aa g)⟩)))
 |_=>none
theorem p49 κ:cm (Z8 κ) 12 175 (g49 κ):=by
 intro u x g;unfold g49 at g;split at g
 ·rename_i c s l d s1 o q i s2 t w
  simp only[aC8,aD4,true_and] at g;subst g;refine⟨_,rfl,pH κ _,?_⟩;rw[y49];have y:Value.iface 273 (.pointer (some κ.tree))=aB κ false:=rfl;rw[y];simp only[nZ,pH,Ha,Bool.and_true,Bool.and_self,aW];simp only[←Yi,←Yg,S5,I5,S7];refine congrArg (fun b=>AV.lit (aB κ b)) ?_;have z:TI (.mk d s1 o (aa q))=(decide (d=1)||decide (d=2)):=rfl;rw[Mz,z];generalize bm ⟨s,aa l⟩=A
  generalize TU ⟨s,aa l⟩=h
  generalize JK (.mk d s1 o (aa q))=v
  generalize JK (.mk i s2 t (aa w))=p
  generalize au 20 (.mk d s1 o (aa q))=e
  generalize au 20 (.mk i s2 t (aa w))=f
  generalize decide (d=1)=a
  generalize decide (d=2)=k
  generalize decide (d=4)=j
  generalize decide (i=4)=m
  generalize decide (i=1)=r
  generalize decide (c=1)=B
  generalize decide (c=2)=C
  generalize decide (c=3)=D
  generalize decide (c=4)=E
  generalize decide (c=5)=F
  generalize decide (c=6)=H
  generalize decide (c=7)=I
  generalize decide (c=8)=J
  generalize decide (c=9)=K
  generalize decide (c=10)=n
  cases B
  case true=>cases a<;>cases v<;>cases A<;>cases p<;>rfl
  cases C
  case true=>cases a<;>cases v<;>cases A<;>cases p<;>rfl
  cases D
  case true=>cases a<;>cases h<;>cases j<;>cases m<;>cases e<;>cases f<;>rfl
  cases E
  case true=>cases a<;>cases h<;>cases j<;>cases m<;>cases e<;>cases f<;>rfl
  cases F
  case true=>cases a<;>cases h<;>cases j<;>cases m<;>cases e<;>cases f<;>rfl
  cases H
  case true=>cases a<;>cases h<;>cases j<;>cases m<;>cases e<;>cases f<;>rfl
  cases I
  case true=>cases a<;>cases k<;>cases A<;>cases p<;>cases e<;>rfl
  cases J
  case true=>cases a<;>cases k<;>cases A<;>cases r<;>cases e<;>cases f<;>rfl
  cases K
  case true=>cases a<;>cases k<;>cases A<;>cases r<;>cases e<;>cases f<;>rfl
  cases n
  case true=>cases a<;>cases k<;>cases A<;>cases r<;>cases e<;>cases f<;>rfl
  cases a<;>rfl
 ·cases g
noncomputable def Sy κ:=(Z8 κ).aO 175 (g49 κ)
theorem e49 κ:aE (Sy κ):=(e59 _).aO (m59 _) (p49 _)
theorem m49 κ:aj (Sy κ):=(m59 _).aO
structure dx where
 xs:List AV
 more:List AV
 rel:ByteArray
 hl:List AV
 bl:List AV
 line:Int
 i:Int
abbrev aw(a:dx):AV:= .agg [.agg [.lit (.string a.rel), .ah 38 a.hl], .ah 80 a.bl, .int a.line]
abbrev FO a:=sp 69 [(0, .cn 0),(1, .ptr 1 0 [] 0),(25, .ah 38 a.hl),(26, .int a.hl.length),(27, .int a.i)] [.ext (some a.xs), .box 48 (aw a)]
abbrev Ri a:=sp 69 [(0, .cn 0),(57, .ah 80 a.bl),(58, .int a.bl.length),(59, .int a.i)] [.ext (some a.xs), .box 48 (aw a)]
def nT(κ:Kp)(l:List Bool):List AV:=l.map fun b=> .aH [.lit (aB κ b)]
def Dd κ(a:dx):=a.hl.length<=aX/\0<=a.i/\a.i<=a.hl.length/\a.xs=nT κ ((aa (a.hl.drop a.i.toNat)).map (rA a.bl.length))++a.more
def Km κ(a:dx):=a.bl.length<=aX/\0<=a.i/\a.i<=a.bl.length/\a.xs=nT κ ((dI (a.bl.drop a.i.toNat)).map fX)
def HH(a:dx):Out (Exit×S):= .all (fun _=>True) fun b=> .aq b (.one (.exit 0,sp 69 [(0, .cn 0),(1, .ptr 1 0 [] 0)] [.ext (some a.more), .box 48 (aw a)]))
 (.one (.ret,sp 69 [] [.ext none, .box 48 (aw a)]))
def PQ(a:dx):Out (Exit×S):= .all (fun _=>True) fun b=> .aq b (.one (.exit 2,sp 69 [] [.ext (some []), .box 48 (aw a)]))
 (.one (.ret,sp 69 [] [.ext none, .box 48 (aw a)]))
theorem aA7(κ:Kp)(a:dx)(I:Nat->S->Prop)(n:Nat)(K:Exit->S->Prop):(vc (Sy κ) 12 171 none 2 (ad (Pr κ).toProgram 171 2) (FO a) (bg (Sy κ) 171 2 2 I n K))=(
 letI b:=AV.int
 letI c:=Obj.box
 letI d:=Obj.ext
 letI f:=IntKind.wrap IntKind.i64 (a.i+(1:Int))
 letI g:=sp 69 [] [d none,c 48 (aw a)]
 letI h:=af (nth a.hl a.i.toNat) 0
 letI e:=a.hl.length
 letI i:=∃(e1:List AV),a.xs=AV.aH [AV.lit (Value.iface 273 (Value.pointer (some (Kp.tree κ))))]::e1/\(∃(e0:Nat),e0<n/\I e0 (sp 69 [(0,AV.cn
  0),(1,AV.ptr 1 0 [] 0),(25,AV.ah 38 a.hl),(26,b (↑e:Int)),(27,b f)] [d (some e1),c 48 (aw a)]))/\K Exit.ret g
 aq (decide (a.i<(↑e:Int))) (aW (decide ((0:Int)<=a.i)&&decide (a.i<(↑e:Int))) (aq (toInt h != (4:Int)) (aq (!iY (toInt h)) (aq (toInt h !=
 (1:Int)) (∃(e1:List AV),a.xs=AV.aH [AV.lit Value.nilIface]::e1/\(∃(e0:Nat),e0<n/\I e0 (sp 69 [(0,AV.cn 0),(1,AV.ptr 1 0 [] 0),(25,AV.ah
 38 a.hl),(26,b (↑e:Int)),(27,b f)] [d (some e1),c 48 (aw a)]))/\K Exit.ret g) (∃(e1:List AV),a.xs=AV.aH [AV.lit (aB κ
 (decide ((↑(a.bl.length):Int)>(0:Int))))]::e1/\(∃(e0:Nat),e0<n/\I e0 (sp 69 [(0,AV.cn 0),(1,AV.ptr 1 0 [] 0),(25,AV.ah 38 a.hl),(26,
 b (↑e:Int)),(27,b f)] [d (some e1),c 48 (aw a)]))/\K Exit.ret g)) i) i)) (K (Exit.exit 0) (sp 69 [(0,AV.cn 0),(1,AV.ptr 1 0
 [] 0)] [d (some a.xs),c 48 (aw a)]))):=by kernel_rfl
theorem ax7 κ:aU (Sy κ) 12 171 2 (aG 2 FO (Dd κ) HH):=by
 refine aC (fun a=>a.hl.length - a.i.toNat) ?_;rintro⟨xs,d,g,e,l,c,i⟩ K ⟨q,r,t,h⟩ p;simp only at q r t h;rw[show(Sy κ).P=Pr κ from rfl,aA7];have v:Value.iface 273 (.pointer (some κ.tree))=aB κ false:=rfl;have u:Value.nilIface=aB κ true:=rfl;have j:=p true trivial;have k:=p false trivial;simp only[Out.run,aq] at j k;simp only[v,u];simp only[aX] at q;simp only[ae,ai,at3,aC7,aC6];refine⟨fun s=>⟨⟨r,s⟩,?_⟩,fun s=>?_⟩
 ·rw[fo e i.toNat (by omega)] at h
  have o:(cx (nth e i.toNat)).op=toInt (af (nth e i.toNat) 0):=by rw[cI];rfl
  simp only[aE4,nT,rA,o,List.cons_append] at h;rw[az (n:=i+1) (by omega) (by omega)];have w: ∀b,b=(!decide (toInt (af (nth e i.toNat) 0)=4)&& !iY (toInt (af (nth e i.toNat) 0))&&(!decide (toInt (af (nth e i.toNat) 0)=1)||decide (0<l.length)))->
    ∃f,xs=AV.aH [AV.lit (aB κ b)]::f/\(∃m,m<e.length - i.toNat/\eW FO (Dd κ) HH (fun a=>a.hl.length - a.i.toNat) K m (FO ⟨f,d,g,e,l,c,i+1⟩))/\K Exit.ret (sp 69 [] [.ext none, .box 48 (aw ⟨xs,d,g,e,l,c,i⟩)]):=by
   rintro b rfl;refine⟨_,h,⟨_,?_,⟨_,d,g,e,l,c,i+1⟩,rfl,⟨by simpa[aX] using q,by simp only;omega,by simp only;omega,?_⟩,rfl,p⟩,k⟩
   ·simp only;omega
   ·simp only[nT,show(i+1).toNat=i.toNat+1 by omega]
  simp only[I5,Bool.not_eq_true',aD7,at3,aC7]
  grind [decide_eq_true,decide_eq_false]
 ·rw[aD3 (by omega)] at h
  simp only[aa,nT,List.map_nil,List.nil_append] at h;subst h;exact j
noncomputable def Bs κ:=(Sy κ).an 171 2 (aG 2 FO (Dd κ) HH)
theorem av1 κ:aE (Bs κ):=(e49 _).an (m49 _) (ax7 _)
theorem af4 κ:aj (Bs κ):=(m49 _).an aK
theorem aA8(κ:Kp)(a:dx)(I:Nat->S->Prop)(n:Nat)(K:Exit->S->Prop):(vc (Bs κ) 12 171 none 2 (ad (Pr κ).toProgram 171 7) (Ri a) (bg (Bs κ) 171 7 2 I n K))=(
 letI b:=nth a.bl a.i.toNat
 letI c:=AV.agg [AV.agg [AV.str a.rel,AV.ah 38 a.hl],AV.ah 80 a.bl,AV.int a.line]
 letI d:=a.i<(↑(a.bl.length):Int)
 aq (decide d) (aW (decide ((0:Int)<=a.i)&&decide d) (∃(e1:List AV),a.xs=AV.aH [AV.lit (aB κ (fX {op:=toInt (af b 0),a:={rel:=toStr (af (af b 1) 0),l:=aa (ag (af (af b 1) 1))},x:=Tm.mk (toInt (af (af b 2) 0)) (toStr (af (af b 2) 1)) (toInt (af (af b 2) 2)) (aa (ag (af (af b 2) 3))),y:=Tm.mk (toInt (af (af b 3) 0)) (toStr (af (af b 3) 1)) (toInt (af (af b 3) 2)) (aa (ag (af (af b 3) 3)))}))]::e1/\(∃(e0:Nat),e0<n/\I e0 (sp 69 [(0,AV.cn 0),(57,AV.ah 80 a.bl),(58,AV.int (↑(a.bl.length):Int)),(59,AV.int (IntKind.wrap IntKind.i64 (a.i+(1:Int))))] [Obj.ext (some e1),Obj.box 48 c]))/\K Exit.ret (sp 69 [] [Obj.ext none,Obj.box 48 c]))) (K (Exit.exit 2) (sp 69 [] [Obj.ext (some a.xs),Obj.box 48 c]))):=by kernel_rfl
theorem ax8 κ:aU (Bs κ) 12 171 7 (aG 2 Ri (Km κ) PQ):=by
 refine aC (fun a=>a.bl.length - a.i.toNat) ?_;rintro⟨xs,c,h,p,k,d,i⟩ K ⟨g,m,o,b⟩ j;simp only at g m o b;rw[show(Bs κ).P=Pr κ from rfl,aA8];have e:=j true trivial;have f:=j false trivial;simp only[Out.run,aq] at e f;simp only[aX] at g;simp only[ae,ai,at3,aC7,aC6,←lt_eq];refine⟨fun l=>⟨⟨m,l⟩,?_⟩,fun l=>?_⟩
 ·rw[pC k i.toNat (by omega)] at b
  simp only[aE4,nT] at b;rw[az (n:=i+1) (by omega) (by omega)];refine⟨_,b,⟨_,?_,⟨_,c,h,p,k,d,i+1⟩,rfl,⟨by simpa[aX] using g,by simp only;omega,by simp only;omega,?_⟩,rfl,j⟩,f⟩
  ·simp only;omega
  ·simp only[nT,show(i+1).toNat=i.toNat+1 by omega]
 ·rw[aD3 (by omega)] at b
  simp only[dI,nT,List.map_nil] at b;subst b;exact e
noncomputable def NG κ:=(Bs κ).an 171 7 (aG 2 Ri (Km κ) PQ)
theorem av2 κ:aE (NG κ):=(av1 _).an (af4 _) (ax8 _)
theorem af5 κ:aj (NG κ):=(af4 _).an aK
theorem y45(κ:Kp)(a:dx)(K:AV->List Dn.Obj->Prop):(a8 (NG κ) 12 171 [.cn 0, .ptr 1 0 [] 0] [.ext (some a.xs), .box 48 (aw a)] K)=(
 letI b:=AV.int
 letI c:=AV.agg
 letI d:=Obj.box
 letI e:=Obj.ext
 letI f:=AV.aH
 letI g:=AV.ah
 letI h:=c [c [AV.str a.rel,g 38 a.hl],g 80 a.bl,b a.line]
 letI k:=Pg.toProgram (Env.P (Sy κ))
 letI m:=Pg.toProgram (Env.P (Bs κ))
 ∃(e5:List AV),a.xs=f [AV.lit (aB κ (bm {rel:=a.rel,l:=aa a.hl}))]::e5/\(∃(e4:List AV),e5=f [AV.lit (aB κ (decide ((↑(a.bl.length):Int)<=(20:Int))))]::e4/\(ad k 171 2=ad k 171 2/\∃(e3:dx),letI i:=c [c [AV.str e3.rel,g 38 e3.hl],g 80 e3.bl,b e3.line];sp 69 [(0,AV.cn 0),(1,AV.ptr 1 0 [] 0),(25,g 38 a.hl),(26,b (↑(a.hl.length):Int)),(27,b 0)] [e (some e4),d 48 h]=sp 69 [(0,AV.cn 0),(1,AV.ptr 1 0 [] 0),(25,g 38 e3.hl),(26,b (↑(e3.hl.length):Int)),(27,b e3.i)] [e (some e3.xs),d 48 i]/\(e3.hl.length<=9223372036854775807/\(0:Int)<=e3.i/\e3.i<=(↑(e3.hl.length):Int)/\e3.xs=nT κ (List.map (rA e3.bl.length) (aa (List.drop e3.i.toNat e3.hl)))++e3.more)/\∀(e2:Bool),True->aq e2 (ad m 171 7=ad m 171 7/\∃(e1:dx),letI j:=c [c [AV.str e1.rel,g 38 e1.hl],g 80 e1.bl,b e1.line];sp 69 [(0,AV.cn 0),(57,g 80 e3.bl),(58,b (↑(e3.bl.length):Int)),(59,b 0)] [e (some e3.more),d 48 i]=sp 69 [(0,AV.cn 0),(57,g 80 e1.bl),(58,b (↑(e1.bl.length):Int)),(59,b e1.i)] [e (some e1.xs),d 48 j]/\(e1.bl.length<=9223372036854775807/\(0:Int)<=e1.i/\e1.i<=(↑(e1.bl.length):Int)/\e1.xs=nT κ (List.map fX (dI (List.drop e1.i.toNat e1.bl))))/\∀(e0:Bool),True->aq e0 (K (f []) [e (some []),d 48 j]) (K (f []) [e none,d 48 j])) (K (f []) [e none,d 48 i]))/\K (f []) [e none,d 48 h])/\K (f []) [e none,d 48 h]):=by kernel_rfl
def Rh(a:dx):List AV×List Dn.Obj:=([.cn 0, .ptr 1 0 [] 0],[.ext (some a.xs), .box 48 (aw a)])
def H8 κ(a:dx):=a.hl.length<=aX/\a.bl.length<=aX/\a.xs=nT κ (vd ⟨⟨a.rel,aa a.hl⟩,dI a.bl⟩)
def PO:dx->Out (AV×List Dn.Obj):=fun _=> .all (fun st'=>tv st') fun st'=> .one (.aH [],st')
theorem c45 κ:bd (NG κ) 12 171 (aM Rh (H8 κ) PO):=by
 refine aQ ?_;rintro⟨xs,e,c,g,d,a,i⟩ K ⟨l,n,k⟩ m;simp only at l n k;simp only[Rh];rw[y45 κ ⟨xs,e,c,g,d,a,i⟩];simp only;have f: ∀b,K (.aH []) [.ext none,b]:=fun b=>m _ trivial
 have o: ∀b,K (.aH []) [.ext (some []),b]:=fun b=>m _ trivial
 subst k;have j:decide ((d.length:Int)<=20)=decide (d.length<=20):=by
  by_cases h:d.length<=20
  ·rw[aD1 h,aD1 (by omega)]
  ·rw[aC9 h,aC9 (by omega)]
 rw[j];simp only[vd,nT,aE4,Cl];refine⟨_,rfl,⟨_,rfl,⟨trivial,⟨_,nT κ ((dI d).map fX),c,g,d,a,0⟩,rfl,⟨l,by simp only;omega,by simp only;omega,?_⟩,?_⟩,f _⟩,f _⟩
 ·simp[nT,Cl]
 ·intro y _
  cases y
  ·exact f _
  ·refine⟨trivial,⟨_,[],c,g,d,a,0⟩,rfl,⟨n,by simp only;omega,by simp only;omega,by simp[nT]⟩,?_⟩
   intro y _;cases y
   ·exact f _
   ·exact o _
set_option maxRecDepth 20000 in
noncomputable def Vk(κ:Kp):Env:=(NG κ).ax 171 (aM Rh (H8 κ) PO)
theorem e45 κ:aE (Vk κ):=(av2 _).ax (af5 _) (c45 _)
theorem m45 κ:aj (Vk κ):=(af5 _).ax aJ
noncomputable abbrev Yc(κ:Kp)(a:dx)(st:LoopState)(p:Option Code):Dn.Obj:=
 .loop (jq (Pr κ).toProgram 96 3 st p (iO (bR 15) [(0,aw a),(1, .ptr 0 0 [] 0),(2, .bool false),(3, .ptr 1 0 [] 0),(5,aw a),(6, .bo 171 [.ptr 2 0 [] 0])]))
noncomputable abbrev rl κ a:=[.box 48 (aw a), .box 171 (.lit .nilIface), .box 48 (aw a),Yc κ a .ready none]
noncomputable abbrev IC κ a:=[.box 48 (aw a), .box 171 (.lit .nilIface), .dead,Yc κ a .ready none]
theorem s16 κ a Q:(tidy (Pr κ).toProgram 4 (dF (rl κ a) (b7 (rl κ a) [.ptr 2 0 [] 0])) Q)=(
 Q [.box 48 (aw a),.box 171 (.lit .nilIface),.dead,.loop (jq Tryz.prog 96 3 .ready none (iO (bR 15) [(0,aw a),(1,.ptr 0 0
 [] 0),(2,AV.bool false),(3,.ptr 1 0 [] 0),(5,aw a),(6,.bo 171 [.ptr 2 0 [] 0])]))]):=by kernel_rfl
theorem r16 κ a u Q(K2:List Dn.Obj->Prop):(gx (vc (Vk κ) 12) 3 [.lit u] (IC κ a) (fun r st''=>match r with| .lit (.bool true)=>tidy (Pr κ).toProgram 4 st'' Q| .lit (.bool false)=>K2 st''|_=>False))=(
 letI b:=Obj.box
 letI c:=iO (bR 15) [(0,aw a),(1,.ptr 0 0 [] 0),(2,AV.bool false),(3,.ptr 1 0 [] 0),(5,aw a),(6,.bo 171 [.ptr 2 0 [] 0])]
 aW (aD u) (aq (!bU u) (K2 [b 48 (aw a),b 171 (.lit u),.dead,.loop (jq Tryz.prog 96 3 .done (some (.exit 0)) c)]) (Q
 [b 48 (aw a),b 171 (.lit .nilIface),.dead,.loop (jq Tryz.prog 96 3 .ready none c)]))):=by kernel_rfl
noncomputable abbrev Ze κ a:=[.box 48 (aw a), .box 171 (.lit (aB κ false)), .dead,Yc κ a .done (some (.exit 0))]
def y3(a:dx):Rl:=⟨⟨a.rel,aa a.hl⟩,dI a.bl⟩
theorem k16 κ a xs:(.cn 0::gf (iX (b7 (rl κ a) [.ptr 2 0 [] 0])) [.ptr 2 0 [] 0],.ext (some xs)::gJ (iX (b7 (rl κ a) [.ptr 2 0 [] 0])) (gF (rl κ a) (b7 (rl κ a) [.ptr 2 0 [] 0])))=Rh {a with xs:=xs}:=by kernel_rfl
theorem o16 κ a:mi (rl κ a) [.ptr 2 0 [] 0]=true:=by kernel_rfl
noncomputable def YK(κ:Kp):eO:=fun b st K=>∃a,(b,st)=([AV.ptr 2 0 [] 0],rl κ a)/\(a.hl.length<=aX/\a.bl.length<=aX)/\aq (ba (y3 a)) (K (IC κ a)) (K (Ze κ a))
theorem MG κ:(YK κ).gl:=by
 rintro b st K f g ⟨a,c,d,e⟩;refine⟨a,c,d,?_⟩
 grind [ae]
theorem call45 κ a st K(h:aM Rh (H8 κ) PO a st K):(Vk κ).call 171 a st K:=h
theorem aw7 κ:jf (Vk κ) 12 171 (YK κ):=by
 rintro j st K ⟨a,k,g,f⟩;obtain⟨rfl,rfl⟩:=Prod.mk.inj k;rw[ae] at f;refine⟨nT κ (vd (y3 a)),fun c st'=>∃l,c=nT κ l/\st'=IC κ a/\ba (y3 a)=l.all id,⟨o16 κ a,?_,?_,?_,?_⟩⟩
 ·refine call45 κ _ _ _ ?_
  refine⟨{a with xs:=nT κ (vd (y3 a))},?_,⟨g.1,g.2,rfl⟩,fun st' h=>h⟩;exact k16 κ a _
 ·rw[show(Vk κ).P=Pr κ from rfl,show(rl κ a).length=4 from rfl,s16]
  exact⟨_,rfl,rfl,HZ _⟩
 ·rintro m i st' ⟨l,d,rfl,e⟩
  cases l with
  |nil=>cases d
  |cons b l=>
   simp only[nT,aE4,List.cons.injEq,AV.aH.injEq] at d;obtain⟨rfl,rfl⟩:=d;rw[show(Vk κ).P=Pr κ from rfl,show(rl κ a).length=4 from rfl];refine Eq.mpr (r16 κ a (aB κ b) _ _) ?_;rw[nZ,rB];cases b with
   |true=>exact⟨l,rfl,rfl,by rw[e];rfl⟩
   |false=>exact f.2 (by rw[e];rfl)
 ·rintro st' ⟨l,d,rfl,e⟩
  cases l with
  |nil=>exact f.1 (by rw[e];rfl)
  |cons b l=>cases d
def ax0:List Nat:=[171]
noncomputable def Xp κ:=((Vk κ).addRange 96 3 171 (YK κ)).dc fun f=>jr f ax0
theorem at5 κ:aE (Xp κ):=((e45 _).addRange (m45 _) (aw7 _)).dc _
theorem ay4 κ:aj (Xp κ):=((m45 _).addRange (MG _)).dc _
end Go.Proofs.YtioeffnadipbaaaGreatDoor
namespace Go.Proofs.YtioeffnadipbaaaGreatDoor
open Go Go.Dn Go.Rl Go.Proofs Go.RowKit Go.Extern.Stop Go.Stop Go.Extern
theorem x1 v w:(Extern.ReflectliteType.typeOf #[.iface 273 v]).run Tryz.prog w= .ok (.iface 257 (.agg #[.pointer (some ⟨5,273,none⟩)])) w:=by kernel_rfl
theorem nY w:((Extern.ReflectliteType.method fun t=>do Go.Extern.Rtype.noPackHeld "Comparable" t;(fun a=>.bool a.comparable)<$>typeInfo t) #[.agg #[.pointer (some ⟨5,273,none⟩)]]).run Tryz.prog w= .ok (.bool true) w:=by kernel_rfl
theorem jo v w:(Go.method 411 257 v "Comparable").run Tryz.prog w= .ok (222,v) w:=by kernel_rfl
theorem Hh:(Tryz.prog.info? 273).map (·.comparable)=some true:=by kernel_rfl
theorem Hj:(Tryz.prog.info? 299).map (·.size)=some 1:=by kernel_rfl
set_option maxRecDepth 4000 in
theorem Jx(a:Addr)(w:World):
  Calls Tryz.prog 108 #[.iface 273 (.pointer (some a)), .iface 273 (.pointer (some a))] w fun e w'=>e= .returned (.bool true)/\w'=w:=by
 obtain⟨i,hi,hcmp⟩:=Option.map_eq_some_iff.1 Hh;obtain⟨j,hj,hjs⟩:=Option.map_eq_some_iff.1 Hj;have h8:= @run_callFunc_extern Tryz.prog 157 _ Extern.ReflectliteType.typeOf Tryz.func157 (by kernel_rfl) (by kernel_rfl) (by kernel_rfl) (by kernel_rfl);have h32:= @run_callFunc_extern Tryz.prog 222 _ (Extern.ReflectliteType.method fun t=>do Go.Extern.Rtype.noPackHeld "Comparable" t;pure (.bool (←typeInfo t).comparable)) Tryz.func222 (by kernel_rfl) (by kernel_rfl) (by kernel_rfl) (by kernel_rfl);have tT:=x1;have cT:=nY;have mR:=jo;have heq:=run_eql_iface_ptr_same (P:=Tryz.prog) w a Tryz.underlying171 Tryz.underlying273 hi hcmp hj
 go_enter Tryz.func108,Tryz.ntmps108
 go_wp2
 refine wp_loop_rounds 1 ?_;rw[rounds_succ]
 go_wp2
 go_ret
 exact⟨rfl,rfl⟩
theorem OW b w:
  Calls Tryz.prog 108 #[.nilIface, .iface 273 (.pointer (some b))] w fun e a=>e= .returned (.bool false)/\a=w:=by
 have c:=run_eql_iface_nil_left  w 273 (.pointer (some b)) Tryz.underlying171
 go_wp2
 go_ret
 simp
def gIs:List AV->Option (Bool×AV)
 |[.lit .nilIface, .lit (.iface 273 (.pointer (some _)))]=>some (true, .bool false)
 |[.lit (.iface 273 (.pointer (some a))), .lit (.iface 273 (.pointer (some b)))]=>some (decide (a=b), .bool true)
 |_=>none
theorem zp{C u v c}(h:MT C [.lit u, .lit v] c.toList):c= #[u,v]:=by
 obtain⟨l⟩:=c;match l,h with
 |[a,b],h=>
  simp only[MT] at h;have e:Rel C (.lit u) a:=⟨h.1,h.2.1,h.2.2.1⟩
  have d:Rel C (.lit v) b:=⟨h.2.2.2.1,h.2.2.2.2.1,h.2.2.2.2.2.1⟩
  rw[a0 e,a0 d]
 |[],h=>simp[MT] at h
 |[_],h=>simp[MT] at h
 |_::_::_::_,h=>simp[MT] at h
theorem qIs κ:gW (Pr κ) 108 gIs:=by
 intro c x i a;unfold gIs at a;split at a
 ·simp only[aC8,aD4,true_and] at a
  subst a;refine⟨_,_,Tryz.func108,rfl,rfl,rfl,fun C h f g b=>?_⟩;rw[zp b];refine(callsIn_wide.2 (OW _ C.w)).mono ?_;rintro e d ⟨rfl,rfl⟩;exact⟨rfl,iQ.refl _⟩
 ·simp only[aC8,aD4,at3] at a
  obtain⟨rfl,rfl⟩:=a;refine⟨_,_,Tryz.func108,rfl,rfl,rfl,fun C h f g b=>?_⟩;rw[zp b];refine(callsIn_wide.2 (Jx _ C.w)).mono ?_;rintro e d ⟨rfl,rfl⟩;exact⟨rfl,iQ.refl _⟩
 ·cases a
end Go.Proofs.YtioeffnadipbaaaGreatDoor
namespace Go.Proofs.YtioeffnadipbaaaGreatDoor
open Go Go.Dn Go.Rl Go.Proofs
attribute [local irreducible] a8 vc
set_option maxRecDepth 20000
noncomputable def EIs κ:=(Xp κ).aO 108 gIs
theorem eIs κ:aE (EIs κ):=(at5 _).fg (qIs _)
theorem mIs κ:aj (EIs κ):=(ay4 _).aO
theorem y16 κ a K:(a8 (EIs κ) 12 96 [aw a] [] K)=(
 letI b:=AV.ptr
 letI c:=AV.bool
 letI d:=Obj.box
 ∃e0,([b 2 0 [] 0],[d 48 (aw a),d 171 (.lit .nilIface),d 48 (aw a),.loop (jq Tryz.prog 96 3 .ready none
 (iO (bR 15) [(0,aw a),(1,b 0 0 [] 0),(2,c false),(3,b 1 0 [] 0),(5,aw a),(6,.bo 171 [b 2 0 [] 0])]))])=([b 2 0 [] 0],
 [d 48 (aw e0),d 171 (.lit .nilIface),d 48 (aw e0),.loop (jq Tryz.prog 96 3 .ready none (iO (bR 15) [(0,aw e0),(1,
 b 0 0 [] 0),(2,c false),(3,b 1 0 [] 0),(5,aw e0),(6,.bo 171 [b 2 0 [] 0])]))])/\(e0.hl.length<=9223372036854775807/\
 e0.bl.length<=9223372036854775807)/\aq (ba (y3 e0)) (K (c true) []) (aW (decide (Kp.tree κ=Kp.tree κ)) (K (c false) []))):=by kernel_rfl
def g16:List AV->Option (Bool×AV)
 |[.agg [.agg [.lit (.string a), .ah 38 c], .ah 80 b, .lit (.int .i64 _)]]=>some (decide (c.length<=aX)&&decide (b.length<=aX), .bool (ba ⟨⟨a,aa c⟩,dI b⟩))
 |_=>none
theorem p16 κ:cm (EIs κ) 12 96 g16:=by
 intro g x c;unfold g16 at c;split at c
 ·rename_i a d f b
  simp only[aC8,aD4,aC6,at3] at c;obtain⟨⟨i,h⟩,rfl⟩:=c;refine⟨_,rfl,rfl,?_⟩;rw[y16 κ ⟨[],[],a,d,f,b,0⟩];refine⟨⟨[],[],a,d,f,b,0⟩,rfl,⟨i,h⟩,?_⟩;rw[ae];refine⟨fun e=>?_,fun e=>?_⟩
  ·rw[show ba ⟨⟨a,aa d⟩,dI f⟩=true from e]
  ·rw[show ba ⟨⟨a,aa d⟩,dI f⟩=false from e]
   simp[aW]
 ·cases c
noncomputable def E16 κ:=(EIs κ).aO 96 g16
theorem e16 κ:aE (E16 κ):=(eIs _).aO (mIs _) (p16 _)
theorem m16 κ:aj (E16 κ):=(mIs _).aO
def YQ(l:List AV):List AV×List Dn.Obj:=([.ah 38 l],[])
def YF n l:=bn (aa l)=n/\n<=100000
def PK(l:List AV):Out (AV×List Dn.Obj):= .one (.ak 0 0 (ar (aa l)).length,[.row 9 (strs (ar (aa l)))])
def Un n:=aM YQ (YF n) PK
noncomputable def Gs κ r:=(E16 κ).ax 155 fun a st K=>∃m,m<r/\Un m a st K
theorem x31 κ r l i xs k I n K:(vc (Gs κ r) 12 155 none 0 (ad (Pr κ).toProgram 155 3) (sp 27 [(3, .ak 0 0 k),(6, .ah 38 l),(7, .int l.length),(8, .int i)] [.row 9 xs]) (bg (Gs κ r) 155 3 0 I n K))=(
 letI a:=AV.ah
 letI c:=IntKind.wrap .i64 (i+1)
 letI b:=nth l i.toNat
 letI d:=i<↑(l.length)
 aq (decide d) (aW (decide (0<=i)&&decide d) (aq (toInt (af b 0)==1) (aW (decide ((k+1+1)*17<=70368744177664)) (∃e2,e2<r/\∃e1,letI e:=List.drop 0 (strs (ar (aa e1)));letI f:=List.length (ar (aa e1));letI g:=List.take f e;([a 38 (ag (af b 3))],aR)=([a 38 e1],aR)/\(bn (aa e1)=e2/\e2<=100000)/\aW (decide ((k+1+List.length g+1)*17<=70368744177664)) (∃e0,e0<n/\I e0 (sp 27 [(3,.ak 0 0 (k+1+List.length g)),(6,a 38 l),(7,AV.int ↑(l.length)),(8,AV.int c)] [.row 9 (List.take (k+1) (List.take k xs++[AV.str (toStr (af b 1))])++List.take f e)])))) (∃e2,e2<r/\∃e1,letI h:=List.drop 0 (strs (ar (aa e1)));letI j:=List.length (ar (aa e1));letI m:=List.take j h;([a 38 (ag (af b 3))],aR)=([a 38 e1],aR)/\(bn (aa e1)=e2/\e2<=100000)/\aW (decide ((k+List.length m+1)*17<=70368744177664)) (∃e0,e0<n/\I e0 (sp 27 [(3,.ak 0 0 (k+List.length m)),(6,a 38 l),(7,AV.int ↑(l.length)),(8,AV.int c)] [.row 9 (List.take k xs++List.take j h)]))))) (K (.exit 0) (sp 27 [(3,.ak 0 0 k)] [.row 9 xs]))):=by kernel_rfl
abbrev KH(a:List _×Int×List _):=sp 27 [(3, .ak 0 0 a.2.2.length),(6, .ah 38 a.1),(7, .int a.1.length),(8, .int a.2.1)] [.row 9 (strs a.2.2)]
def Ki r(a:List _×Int×List ByteArray):=a.1.length<=aX/\0<=a.2.1/\a.2.1<=a.1.length/\bn (aa (a.1.drop a.2.1.toNat))<=r/\a.2.2.length+bn (aa (a.1.drop a.2.1.toNat))<=100000
def yC(a:List AV×Int×List ByteArray):Out (Exit×S):= .one (.exit 0,sp 27 [(3, .ak 0 0 (a.2.2++ar (aa (a.1.drop a.2.1.toNat))).length)] [.row 9 (strs (a.2.2++ar (aa (a.1.drop a.2.1.toNat))))])
theorem Ti l i(h:i<l.length):bn (aa (l.drop i))=1+bn (aa (ag (af (nth l i) 3)))+bn (aa (l.drop (i+1))):=by
 grind [fo,bn,cI,Tm.nK]
theorem RX l i(h:i<l.length):ar (aa (l.drop i))=(bif decide (toInt (af (nth l i) 0)=1) then[toStr (af (nth l i) 1)] else[])++ar (aa (ag (af (nth l i) 3)))++ar (aa (l.drop (i+1))):=by
 grind [fo,ar,cI,Tm.vars]
theorem l31 κ r:aU (Gs κ r) 12 155 3 (aG 0 KH (Ki r) yC):=by
 refine aC (fun a=>a.1.length - a.2.1.toNat) ?_;rintro⟨l,i,c⟩ K ⟨d,f,j,k,m⟩ b;simp only at d f j k m;rw[show(Gs κ r).P=Pr κ from rfl];refine Eq.mpr (x31 κ r l i (strs c) c.length _ _ K) ?_;simp only[aD5,db];simp only[aX] at d;simp only[ae,ai,at3,aC7,aC6,beq_iff_eq,beq_eq_false_iff_ne];refine⟨fun g=>⟨⟨f,g⟩,?_⟩,fun g=>?_⟩
 ·have p:=Ti l i.toNat (by omega)
  have h:=RX l i.toNat (by omega);have o:=cZ (aa (ag (af (nth l i.toNat) 3)));rw[az (n:=i+1) (by omega) (by omega)];refine⟨fun e=>⟨by omega,_,?_,ag (af (nth l i.toNat) 3),rfl,⟨rfl,by omega⟩,?_,_,?_,(l,i+1,c++[toStr (af (nth l i.toNat) 1)]++ar (aa (ag (af (nth l i.toNat) 3)))),?_,⟨by simpa[aX] using d,by simp only;omega,by simp only;omega,?_,?_⟩,rfl,?_⟩,
   fun e=>⟨_,?_,ag (af (nth l i.toNat) 3),rfl,⟨rfl,by omega⟩,?_,_,?_,(l,i+1,c++ar (aa (ag (af (nth l i.toNat) 3)))),?_,⟨by simpa[aX] using d,by simp only;omega,by simp only;omega,?_,?_⟩,rfl,?_⟩⟩
  all_goals first
   |omega
   |(simp only[bf];omega)
   |(simp only[show(i+1).toNat=i.toNat+1 by omega,aE1,List.length_cons,List.length_nil];omega)
   |skip
  ·simp only[KH,jQ,bf,aE1,List.length_cons,List.length_nil]
   rw[List.take_of_length_le (by simp[bf])];rfl
  ·simp only[yC,Out.run,show(i+1).toNat=i.toNat+1 by omega] at b⊢
   rw[h,aD1 e] at b;simpa[List.append_assoc] using b
  ·simp only[KH,jQ,bf,aE1]
  ·simp only[yC,Out.run,show(i+1).toNat=i.toNat+1 by omega] at b⊢
   rw[h,aC9 e] at b;simpa[List.append_assoc] using b
 ·simp only[yC,Out.run] at b
  rw[aD3 (by omega)] at b;simpa[aa,ar] using b
noncomputable def Nz κ r:=(Gs κ r).an 155 3 (aG 0 KH (Ki r) yC)
theorem y31 κ r l K:(a8 (Nz κ r) 12 155 [.ah 38 l] [] K)=(
 ad (Pg.toProgram (Env.P (Gs κ r))) 155 3=ad (Pg.toProgram (Env.P (Gs κ r))) 155 3/\∃(a:List AV×Int×List ByteArray),letI b:=aa (List.drop a.2.1.toNat a.1);sp 27 [(3,.ak 0 0 0),(6,.ah 38 l),(7,AV.int ↑(l.length)),(8,AV.int 0)] [.row 9 []]=sp 27 [(3,.ak 0 0 (List.length a.2.2)),(6,.ah 38 a.1),(7,AV.int ↑(a.1.length)),(8,AV.int a.2.1)] [.row 9 (strs a.2.2)]/\(a.1.length<=9223372036854775807/\0<=a.2.1/\a.2.1<=↑(a.1.length)/\bn b<=r/\List.length a.2.2+bn b<=100000)/\K (.ak 0 0 (List.length (a.2.2++ar b))) [.row 9 (strs (a.2.2++ar b))]):=by kernel_rfl
theorem MH n:(Un n).gl:=aJ
theorem au3 κ r(d: ∀a st K,(∃m,m<r/\Un m a st K)->cf (Pr κ) 155 a st K):aE (Nz κ r)/\aj (Nz κ r)/\(Nz κ r).P=Pr κ:=
 have h:=(e16 _).fQ d;have b:=(m16 _).ax fun _ _ _ _ e ⟨m,f,c⟩=>⟨m,f,MH m _ _ _ _ e c⟩
 ⟨h.an b (l31 _ r),b.an aK,rfl⟩
theorem c31 κ r:bd (Nz κ r) 12 155 (Un r):=by
 refine aQ ?_;rintro l K ⟨b,c⟩ a;refine Eq.mpr (y31 κ r l K) ?_;have:=im (aa l)
 rw[eS] at this;refine⟨rfl,(l,0,[]),rfl,⟨by simp only;omega,by simp only;omega,by simp only;omega,?_,?_⟩,?_⟩
 ·grind
 ·grind
 ·exact a
def bH l:=bn (aa l)<=100000
theorem q31 κ: ∀a st K,aM YQ bH PK a st K->cf (Pr κ) 155 a st K:=by
 rintro a st K ⟨l,c,d,b⟩;exact aE.qh _ _ (au3 _) (c31 _) _ _ _ K ⟨l,c,⟨rfl,d⟩,b⟩
noncomputable def Sq κ:=(E16 κ).ax 155 (aM YQ bH PK)
theorem e31 κ:aE (Sq κ):=(e16 _).fQ (q31 _)
theorem m31 κ:aj (Sq κ):=(m16 _).ax aJ
theorem x23 κ l i es I n K:(vc (Sq κ) 12 112 none 1 (ad (Pr κ).toProgram 112 1) (sp 15 [(0, .mp 0),(6, .ah 9 l),(7, .int l.length),(8, .int i)] [.map 9 4 es]) (bg (Sq κ) 112 1 1 I n K))=(
 letI a:=i<↑(l.length)
 aq (decide a) (aW (decide (0<=i)&&decide a) (∃e0,e0<n/\I e0 (sp 15 [(0,.mp 0),(6,.ah 9 l),(7,AV.int ↑(l.length)),(8,
 AV.int (IntKind.wrap .i64 (i+1)))] [.map 9 4 (fb es (.string (toStr (nth l i.toNat))) (AV.bool true))]))) (K (.exit 0) (sp 15 []
 [.map 9 4 es]))):=by kernel_rfl
abbrev We(a:List _×Int×List _):=sp 15 [(0, .mp 0),(6, .ah 9 a.1),(7, .int a.1.length),(8, .int a.2.1)] [.map 9 4 a.2.2]
def wR(a:List AV×Int×List (Value×AV)):=a.1.length<=aX/\0<=a.2.1/\a.2.1<=a.1.length
def CK(a:List AV×Int×List (Value×AV)):Out (Exit×S):= .one (.exit 0,sp 15 [] [.map 9 4 (fZ a.2.2 (a.1.drop a.2.1.toNat))])
theorem l23 κ:aU (Sq κ) 12 112 1 (aG 1 We wR CK):=by
 refine aC (fun a=>a.1.length - a.2.1.toNat) ?_;rintro⟨l,i,f⟩ K ⟨b,d,g⟩ c;simp only at b d g;rw[show(Sq κ).P=Pr κ from rfl];refine Eq.mpr (x23 κ l i f _ _ K) ?_;simp only[aX] at b;simp only[ae,ai,at3,aC7,aC6];refine⟨fun e=>⟨⟨d,e⟩,?_⟩,fun e=>?_⟩
 ·rw[az (n:=i+1) (by omega) (by omega)]
  refine⟨_,?_,(l,i+1,fb f (.string (toStr (nth l i.toNat))) (.lit (.bool true))),rfl,⟨by simpa[aX] using b,by simp only;omega,by simp only;omega⟩,rfl,?_⟩
  ·simp only;omega
  grind [CK,Out.run,List.drop_eq_getElem_cons,fZ,aV]
 ·simp only[CK,Out.run] at c
  rw[aD3 (by omega)] at c;exact c
noncomputable def Nx κ:=(Sq κ).an 112 1 (aG 1 We wR CK)
theorem au1 κ:aE (Nx κ):=(e31 _).an (m31 _) (l23 _)
theorem ae5 κ:aj (Nx κ):=(m31 _).an aK
theorem y23 κ l es K:(a8 (Nx κ) 12 112 [.mp 0, .ah 9 l] [.map 9 4 es] K)=(
 letI a:=Dn.Obj.map
 letI b:=Pg.toProgram (Env.P (Sq κ))
 ad b 112 1=ad b 112 1/\∃(e0:List AV×Int×List (Value×AV)),sp 15 [(0,.mp 0),(6,.ah 9 l),(7,AV.int ↑(l.length)),(8,AV.int 0)]
 [a 9 4 es]=sp 15 [(0,.mp 0),(6,.ah 9 e0.1),(7,AV.int ↑(e0.1.length)),(8,AV.int e0.2.1)] [a 9 4 e0.2.2]/\(e0.1.length<=
 9223372036854775807/\0<=e0.2.1/\e0.2.1<=↑(e0.1.length))/\K (.aH []) [a 9 4 (fZ e0.2.2 (List.drop e0.2.1.toNat e0.1))]):=by kernel_rfl
def Ut(a:List AV×List (Value×AV)):List AV×List Dn.Obj:=([.mp 0, .ah 9 a.1],[.map 9 4 a.2])
def bt(a:List AV×List (Value×AV)):=a.1.length<=aX
def VG(a:List AV×List (Value×AV)):Out (AV×List Dn.Obj):= .one (.aH [],[.map 9 4 (fZ a.2 a.1)])
theorem c23 κ:bd (Nx κ) 12 112 (aM Ut bt VG):=by
 refine aQ ?_;rintro⟨l,b⟩ K c a;refine Eq.mpr (y23 _ l _ K) ?_;exact⟨rfl,(l,0,b),rfl,⟨c,by simp,by simp⟩,a⟩
noncomputable def Sn κ:=(Nx κ).ax 112 (aM Ut bt VG)
theorem e23 κ:aE (Sn κ):=(au1 _).ax (ae5 _) (c23 _)
theorem m23 κ:aj (Sn κ):=(ae5 _).ax aJ
theorem x41 κ l i es I n K:(vc (Sn κ) 12 161 none 2 (ad (Pr κ).toProgram 161 2) (sp 19 [(0, .ah 9 l),(1, .bo 183 [.ptr 1 0 [] 0]),(7, .int l.length),(8, .int i)] [.map 9 4 es, .box 178 (.mp 0)]) (bg (Sn κ) 161 2 2 I n K))=(
 letI a:=Dn.Obj.map
 letI b:=i<↑(l.length)
 aq (decide b) (aW (decide (0<=i)&&decide b) (aq (!Dn.toBool (dj es (.string (toStr (nth l i.toNat))) (AV.bool false))) (K .ret (sp 19 [(4,
 AV.int i)] [a 9 4 es,.box 178 (.mp 0)])) (∃e0,e0<n/\I e0 (sp 19 [(0,.ah 9 l),(1,.bo 183 [.ptr 1 0 [] 0]),(7,AV.int
 ↑(l.length)),(8,AV.int (IntKind.wrap .i64 (i+1)))] [a 9 4 es,.box 178 (.mp 0)])))) (K (.exit 0) (sp 19 []
 [a 9 4 es,.box 178 (.mp 0)]))):=by kernel_rfl
abbrev RJ(a:List (Value×AV)):List Dn.Obj:=[.map 9 4 a, .box 178 (.mp 0)]
abbrev Wg(a:List _×Int×List _):=sp 19 [(0, .ah 9 a.1),(1, .bo 183 [.ptr 1 0 [] 0]),(7, .int a.1.length),(8, .int a.2.1)] (RJ a.2.2)
def CM(a:List AV×Int×List (Value×AV)):Out (Exit×S):=
 .aq (gG a.2.2 (a.1.drop a.2.1.toNat)) (.one (.exit 0,sp 19 [] (RJ a.2.2))) (.all (fun j=>0<=j) fun j=> .one (.ret,sp 19 [(4, .int j)] (RJ a.2.2)))
theorem l41 κ:aU (Sn κ) 12 161 2 (aG 2 Wg wR CM):=by
 refine aC (fun a=>a.1.length - a.2.1.toNat) ?_;rintro⟨l,i,c⟩ K ⟨d,f,h⟩ b;simp only at d f h;rw[show(Sn κ).P=Pr κ from rfl];refine Eq.mpr (x41 κ l i c _ _ K) ?_;simp only[aX] at d;simp only[CM,Out.run,ae] at b;simp only[ae,ai,at3,aC7,aC6,Bool.not_eq_true',aD7];refine⟨fun g=>⟨⟨f,g⟩,?_⟩,fun g=>?_⟩
 ·rw[aD6 (show i.toNat<l.length by omega),←aV l i.toNat (by omega)] at b
  simp only[gG,aE3] at b;refine⟨fun e=>?_,fun e=>?_⟩
  ·grind [zH,toStr,nth]
  ·have j:zH c (toStr (nth l i.toNat))=true:=e
   rw[j,aE2] at b;rw[az (n:=i+1) (by omega) (by omega)];refine⟨_,?_,(l,i+1,c),rfl,⟨by simpa[aX] using d,by simp only;omega,by simp only;omega⟩,rfl,?_⟩
   ·simp only;omega
   ·simp only[CM,Out.run,ae,show(i+1).toNat=i.toNat+1 by omega]
    exact b
 ·rw[aD3 (by omega)] at b
  exact b.1 rfl
noncomputable def ND κ:=(Sn κ).an 161 2 (aG 2 Wg wR CM)
theorem au7 κ:aE (ND κ):=(e23 _).an (m23 _) (l41 _)
theorem af0 κ:aj (ND κ):=(m23 _).an aK
theorem y30 κ l es K:(a8 (ND κ) 12 154 [.mp 0, .ah 9 l] [.map 9 4 es] K)=(
 letI b:=Dn.Obj.map
 ad (Pg.toProgram (Env.P (Sn κ))) 161 2=ad (Pg.toProgram (Env.P (Sn κ))) 161 2/\∃(a:List AV×Int×List (Value×AV)),sp 19 [(0,.ah 9
 l),(1,.bo 183 [.ptr 1 0 [] 0]),(7,AV.int ↑(l.length)),(8,AV.int 0)] [b 9 4 es,.box 178 (.mp 0)]=sp 19 [(0,.ah 9 a.1),
 (1,.bo 183 [.ptr 1 0 [] 0]),(7,AV.int ↑(a.1.length)),(8,AV.int a.2.1)] [b 9 4 a.2.2,.box 178 (.mp 0)]/\(a.1.length<=
 9223372036854775807/\0<=a.2.1/\a.2.1<=↑(a.1.length))/\aq (gG a.2.2 (List.drop a.2.1.toNat a.1)) (K (AV.bool true) [b 9 4
 a.2.2]) (∀y,0<=y->K (.lit (.bool !decide (y>=(0:Int)))) [b 9 4 a.2.2])):=by kernel_rfl
def PJ(a:List AV×List (Value×AV)):Out (AV×List Dn.Obj):= .one (.bool (gG a.2 a.1),[.map 9 4 a.2])
theorem c30 κ:bd (ND κ) 12 154 (aM Ut bt PJ):=by
 refine aQ ?_;rintro⟨l,a⟩ K b c;refine Eq.mpr (y30 κ l a K) ?_;refine⟨rfl,(l,0,a),rfl,⟨b,by simp only;omega,by simp⟩,?_⟩
 grind [PJ,Out.run,ae]
noncomputable def Sp κ:=(ND κ).ax 154 (aM Ut bt PJ)
theorem e30 κ:aE (Sp κ):=(au7 _).ax (af0 _) (c30 _)
theorem m30 κ:aj (Sp κ):=(af0 _).ax aJ
theorem x62 κ l i vs I n K:(vc (Sp κ) 12 200 none 0 (ad (Pr κ).toProgram 200 3) (sp 23 [(3, .ak 0 0 vs.length),(7, .ah 38 l),(8, .int l.length),(9, .int i)] [.row 9 (strs vs)]) (bg (Sp κ) 200 3 0 I n K))=(
 letI a:=AV.int
 letI b:=nth l i.toNat
 letI c:=IntKind.wrap .i64 (i+1)
 letI d:=i<↑(l.length)
 aq (decide d) (aW (decide (0<=i)&&decide d) (aq (decide (toInt (af b 0)>=5)) (∃e1,letI e:=List.drop 0 (strs (ar (aa e1)));letI f:=List.length (ar (aa e1));letI g:=List.take f e;([.ah 38 [.agg [a (toInt (af b 0)),AV.str (toStr (af b 1)),a (toInt (af b 2)),.ah 38 (ag (af b 3))]]],aR)=([AV.ah 38 e1],aR)/\bH e1/\aW (decide ((vs.length+List.length g+1)*17<=70368744177664)) (∃e0,e0<n/\I e0 (sp 23 [(3,.ak 0 0 (vs.length+List.length g)),(7,.ah 38 l),(8,a ↑(l.length)),(9,a c)] [.row 9 (List.take vs.length (strs vs)++List.take f e)]))) (∃e0,e0<n/\I e0 (sp 23 [(3,.ak 0 0 vs.length),(7,.ah 38 l),(8,a ↑(l.length)),(9,a c)] [.row 9 (strs vs)])))) (K (.exit 0) (sp 23 [(3,.ak 0 0 vs.length)] [.row 9 (strs vs)]))):=by kernel_rfl
abbrev Rm(a:List _×Int×List _):=sp 23 [(3, .ak 0 0 a.2.2.length),(7, .ah 38 a.1),(8, .int a.1.length),(9, .int a.2.1)] [.row 9 (strs a.2.2)]
def Kr(a:List _×Int×List ByteArray):=a.1.length<=aX/\0<=a.2.1/\a.2.1<=a.1.length/\a.2.2.length+bn (aa (a.1.drop a.2.1.toNat))<=100000
def yF(a:List AV×Int×List ByteArray):Out (Exit×S):= .one (.exit 0,sp 23 [(3, .ak 0 0 (a.2.2++dV (aa (a.1.drop a.2.1.toNat))).length)] [.row 9 (strs (a.2.2++dV (aa (a.1.drop a.2.1.toNat))))])
theorem l62 κ:aU (Sp κ) 12 200 3 (aG 0 Rm Kr yF):=by
 refine aC (fun a=>a.1.length - a.2.1.toNat) ?_;rintro⟨l,i,e⟩ K ⟨c,h,k,m⟩ b;simp only at c h k m;rw[show(Sp κ).P=Pr κ from rfl];refine Eq.mpr (x62 κ l i e _ _ K) ?_;simp only[aD5,db];simp only[aX] at c;simp only[ae,ai,at3,aC7,aC6];refine⟨fun j=>⟨⟨h,j⟩,?_⟩,fun j=>?_⟩
 ·have g:=Qk l i.toNat (by omega)
  have p:bn (aa (l.drop i.toNat))=bn [cx (nth l i.toNat)]+bn (aa (l.drop (i.toNat+1))):=by
   rw[fo l i.toNat (by omega)];simp only[bn,Nat.add_zero]
  have o:=cZ [cx (nth l i.toNat)];have f:aa [.agg [.int (toInt (af (nth l i.toNat) 0)), .lit (.string (toStr (af (nth l i.toNat) 1))), .int (toInt (af (nth l i.toNat) 2)), .ah 38 (ag (af (nth l i.toNat) 3))]]=[cx (nth l i.toNat)]:=by
   simp only[aa,aE4,List.map_nil];rw[tw,←cI]
  rw[az (n:=i+1) (by omega) (by omega)];refine⟨fun d=>⟨_,rfl,?_,?_,_,?_,(l,i+1,e++ar [cx (nth l i.toNat)]),?_,⟨by simpa[aX] using c,by simp only;omega,by simp only;omega,?_⟩,rfl,?_⟩,fun d=>⟨_,?_,(l,i+1,e),rfl,⟨by simpa[aX] using c,by simp only;omega,by simp only;omega,?_⟩,rfl,?_⟩⟩
  ·simp only[bH,f];omega
  ·rw[f,bf];omega
  ·simp only;omega
  ·rw[f];simp only[Rm,jQ,bf,aE1]
  ·simp only[show(i+1).toNat=i.toNat+1 by omega,aE1];omega
  ·simp only[yF,Out.run,show(i+1).toNat=i.toNat+1 by omega] at b⊢
   rw[g,aD1 (show 5<=toInt (af (nth l i.toNat) 0) from d)] at b;simpa[List.append_assoc] using b
  ·simp only;omega
  ·simp only[show(i+1).toNat=i.toNat+1 by omega];omega
  ·simp only[yF,Out.run,show(i+1).toNat=i.toNat+1 by omega] at b⊢
   rw[g,aC9 (show ¬ 5<=toInt (af (nth l i.toNat) 0) from d)] at b;simpa[List.append_assoc] using b
 ·simp only[yF,Out.run] at b
  rw[aD3 (by omega)] at b;simpa[aa,dV] using b
noncomputable def NO κ:=(Sp κ).an 200 3 (aG 0 Rm Kr yF)
theorem aw0 κ:aE (NO κ):=(e30 _).an (m30 _) (l62 _)
theorem ag1 κ:aj (NO κ):=(m30 _).an aK
theorem y62 κ s l K:(a8 (NO κ) 12 200 [.agg [.lit (.string s), .ah 38 l]] [] K)=(
 ad (Pg.toProgram (Env.P (Sp κ))) 200 3=ad (Pg.toProgram (Env.P (Sp κ))) 200 3/\∃(a:List AV×Int×List ByteArray),letI b:=aa (List.drop a.2.1.toNat a.1);sp 23 [(3,.ak 0 0 0),(7,.ah 38 l),(8,AV.int ↑(l.length)),(9,AV.int 0)] [.row 9 []]=sp 23 [(3,.ak 0 0 (List.length a.2.2)),(7,.ah 38 a.1),(8,AV.int ↑(a.1.length)),(9,AV.int a.2.1)] [.row 9 (strs a.2.2)]/\(a.1.length<=9223372036854775807/\0<=a.2.1/\a.2.1<=↑(a.1.length)/\List.length a.2.2+bn b<=100000)/\K (.ak 0 0 (List.length (a.2.2++dV b))) [.row 9 (strs (a.2.2++dV b))]):=by kernel_rfl
def an6(a:ByteArray×List AV):List AV×List Dn.Obj:=([.agg [.lit (.string a.1), .ah 38 a.2]],[])
def kK(a:ByteArray×List _):=bn (aa a.2)<=100000
def VL(a:ByteArray×List AV):Out (AV×List Dn.Obj):= .one (.ak 0 0 (dV (aa a.2)).length,[.row 9 (strs (dV (aa a.2)))])
theorem c62 κ:bd (NO κ) 12 200 (aM an6 kK VL):=by
 refine aQ ?_;rintro⟨s,l⟩ K a b;simp only[kK] at a;refine Eq.mpr (y62 κ s l K) ?_;have:=im (aa l)
 rw[eS] at this;refine⟨rfl,(l,0,[]),rfl,⟨by simp only;omega,by simp,by simp only;omega,?_⟩,?_⟩
 ·grind
 ·exact b
noncomputable def Z9 κ:=(NO κ).ax 200 (aM an6 kK VL)
theorem e62 κ:aE (Z9 κ):=(aw0 _).ax (ag1 _) (c62 _)
theorem m62 κ:aj (Z9 κ):=(ag1 _).ax aJ
structure LA where
 op:Int
 s:ByteArray
 l:List AV
 o1:Int
 s1:ByteArray
 n1:Int
 l1:List AV
 o2:Int
 s2:ByteArray
 n2:Int
 l2:List AV
abbrev LA.av(a:LA):AV:= .agg [.int a.op, .agg [.lit (.string a.s), .ah 38 a.l], .agg [.int a.o1, .lit (.string a.s1), .int a.n1, .ah 38 a.l1], .agg [.int a.o2, .lit (.string a.s2), .int a.n2, .ah 38 a.l2]]
theorem y21 κ(a:LA) K:(a8 (Z9 κ) 12 137 [a.av] [] K)=(
 K (AV.bool (decide (a.op>=7))) []):=by kernel_rfl
def g21:List AV->Option (Bool×AV)
 |[.agg [.lit (.int .i64 a), .agg [.lit (.string _), .ah 38 _], .agg [.lit (.int .i64 _), .lit (.string _), .lit (.int .i64 _), .ah 38 _], .agg [.lit (.int .i64 _), .lit (.string _), .lit (.int .i64 _), .ah 38 _]]]=>some (true, .bool (decide (7<=a)))
 |_=>none
theorem p21 κ:cm (Z9 κ) 12 137 g21:=by
 intro b x a;unfold g21 at a;split at a
 ·rename_i d s l e s1 f g h s2 i c
  simp only[aC8,aD4,true_and] at a;subst a;exact⟨_,rfl,rfl,Eq.mpr (y21 κ ⟨d,s,l,e,s1,f,g,h,s2,i,c⟩ _) rfl⟩
 ·cases a
noncomputable def Z4 κ:=(Z9 κ).aO 137 g21
theorem e21 κ:aE (Z4 κ):=(e62 _).aO (m62 _) (p21 _)
theorem m21 κ:aj (Z4 κ):=(m62 _).aO
theorem y40 κ(a:LA) K:(a8 (Z4 κ) 12 160 [a.av] [] K)=(
 letI b:=AV.ah
 letI c:=∃e1,letI d:=ar (aa e1);([b 38 [.agg [AV.int a.o1,AV.str a.s1,AV.int a.n1,b 38 a.l1],.agg [AV.int a.o2,AV.str a.s2,AV.int a.n2,b 38 a.l2]]],aR)=([b 38 e1],aR)/\bH e1/\∃e0,letI e:=List.drop 0 (strs (ar (aa e0)));letI f:=List.length (ar (aa e0));letI g:=List.take f e;([b 38 a.l],aR)=([b 38 e0],aR)/\bH e0/\aW (decide ((List.length d+List.length g+1)*17<=70368744177664)) (K (.ak 0 0 (List.length d+List.length g)) [.row 9 (List.take (List.length d) (strs d)++List.take f e)])
 (c/\c/\c/\c)/\(c/\c/\c)/\(c/\c)/\c):=by kernel_rfl
def LA.lt(a:LA):Lt:=⟨a.op,⟨a.s,aa a.l⟩, .mk a.o1 a.s1 a.n1 (aa a.l1), .mk a.o2 a.s2 a.n2 (aa a.l2)⟩
def an2(a:LA):List AV×List Dn.Obj:=([a.av],[])
def gV(a:LA):Prop:=kt a.lt<=100000
def PL(a:LA):Out (AV×List Dn.Obj):= .one (.ak 0 0 (dK a.lt).length,[.row 9 (strs (dK a.lt))])
theorem c40 κ:bd (Z4 κ) 12 160 (aM an2 gV PL):=by
 refine aQ ?_;rintro a K c e;refine Eq.mpr (y40 κ a K) ?_;simp only[and_self];simp only[gV,kt,LA.lt] at c;have b:aa [.agg [.int a.o1, .lit (.string a.s1), .int a.n1, .ah 38 a.l1], .agg [.int a.o2, .lit (.string a.s2), .int a.n2, .ah 38 a.l2]]=[.mk a.o1 a.s1 a.n1 (aa a.l1), .mk a.o2 a.s2 a.n2 (aa a.l2)]:=by
  simp only[aa,aE4,List.map_nil];rw[tw,tw];rfl
 have f:=cZ (aa a.l);have d:=cZ [.mk a.o1 a.s1 a.n1 (aa a.l1), .mk a.o2 a.s2 a.n2 (aa a.l2)];refine⟨_,rfl,?_,_,rfl,?_,?_⟩
 ·simp only[bH,b];omega
 ·simp only[bH];omega
 ·simp only[aD5,db,b,bf]
  rw[ai,at3]
  grind [PL,Out.run,dK,LA.lt,jQ,List.length_append]
noncomputable def Z6 κ:=(Z4 κ).ax 160 (aM an2 gV PL)
theorem e40 κ:aE (Z6 κ):=(e21 _).ax (m21 _) (c40 _)
theorem m40 κ:aj (Z6 κ):=(m21 _).ax aJ
structure TA where
 o1:Int
 s1:ByteArray
 n1:Int
 l1:List AV
 o2:Int
 s2:ByteArray
 n2:Int
 l2:List AV
 es:List (Value×AV)
theorem y20 κ(a:TA) K:(a8 (Z6 κ) 12 136 [.mp 0, .agg [.int a.o1, .lit (.string a.s1), .int a.n1, .ah 38 a.l1], .agg [.int a.o2, .lit (.string a.s2), .int a.n2, .ah 38 a.l2]] [.map 9 4 a.es] K)=(
 letI b:=Dn.Obj.map
 letI c:=K (AV.bool false) [b 9 4 a.es]
 aq (a.o1==1) (aq (!Dn.toBool (dj a.es (.string a.s1) (AV.bool false))) (∃e1,([.ah 38 [.agg [AV.int a.o2,AV.str a.s2,AV.int
 a.n2,.ah 38 a.l2]]],aR)=([AV.ah 38 e1],aR)/\bH e1/\∃e0,([.mp 0,.ah 9 (List.take (List.length (ar (aa e1)))
 (List.drop 0 (strs (ar (aa e1)))))],[b 9 4 a.es])=([.mp 0,AV.ah 9 e0.1],[b 9 4 e0.2])/\bt e0/\K (AV.bool (gG e0.2 e0.1)) [b
 9 4 e0.2]) c) c):=by kernel_rfl
def TA.x(a:TA):Tm:= .mk a.o1 a.s1 a.n1 (aa a.l1)
def TA.y(a:TA):Tm:= .mk a.o2 a.s2 a.n2 (aa a.l2)
def an0(a:TA):List AV×List Dn.Obj:=([.mp 0, .agg [.int a.o1, .lit (.string a.s1), .int a.n1, .ah 38 a.l1], .agg [.int a.o2, .lit (.string a.s2), .int a.n2, .ah 38 a.l2]],[.map 9 4 a.es])
def jN(a:TA):=bn [a.y]<=100000
def VF(a:TA):Out (AV×List Dn.Obj):= .one (.bool (mI a.es a.x a.y),[.map 9 4 a.es])
theorem c20 κ:bd (Z6 κ) 12 136 (aM an0 jN VF):=by
 refine aQ ?_;rintro a K d i;refine Eq.mpr (y20 κ a K) ?_;have e:aa [.agg [.int a.o2, .lit (.string a.s2), .int a.n2, .ah 38 a.l2]]=[a.y]:=by
  simp only[aa,aE4,List.map_nil];rw[tw];rfl
 have h:=cZ [a.y];have b:K (.bool (decide (a.o1=1)&&(!zH a.es a.s1&&gG a.es (strs (ar [a.y]))))) [.map 9 4 a.es]:=i;simp only[jN] at d;simp only[ae,beq_iff_eq,beq_eq_false_iff_ne,Bool.not_eq_true',aD7];refine⟨fun f=>⟨fun g=>?_,fun g=>?_⟩,fun f=>?_⟩
 ·have c:zH a.es a.s1=false:=g
  rw[aD1 f,c] at b;refine⟨_,rfl,by simp only[bH,e];exact d,(strs (ar [a.y]),a.es),?_,?_,b⟩
  ·simp only[aD5,db,e]
  ·simp only[bt,bf,aX];omega
 ·grind [zH,decide_eq_true]
 grind
noncomputable def E20 κ:=(Z6 κ).ax 136 (aM an0 jN VF)
theorem e20 κ:aE (E20 κ):=(e40 _).ax (m40 _) (c20 _)
theorem m20 κ:aj (E20 κ):=(m40 _).ax aJ
end Go.Proofs.YtioeffnadipbaaaGreatDoor
