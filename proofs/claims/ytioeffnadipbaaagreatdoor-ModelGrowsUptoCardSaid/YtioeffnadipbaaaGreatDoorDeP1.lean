import Derived.Test.YtioeffnadipbaaaGreatDoorDoI
import Derived.Test.YtioeffnadipbaaaGreatDoorProg
import Derived.Test.YtioeffnadipbaaaGreatDoorChecked
import Derived.WalkKit
import Derived.LaidEql
import Derived.Stop.Asserts
import Derived.RowKitTokens
namespace Go.Rl
open Go Go.Dn
inductive Tm where
 |mk (op:Int) (s:ByteArray) (n:Int) (l:List Tm)
def Tm.op:Tm->Int| .mk o _ _ _=>o
def Tm.s:Tm->ByteArray| .mk _ s _ _=>s
def Tm.n:Tm->Int| .mk _ _ n _=>n
def Tm.l:Tm->List Tm| .mk _ _ _ l=>l
theorem MJ a k:SizeOf.sizeOf (ag a k)<SizeOf.sizeOf a\/ag a k= .cB:=by
 cases a with
 | agg l=>
  simp only[ag];have: ∀l k,SizeOf.sizeOf (nth l k)<SizeOf.sizeOf l\/nth l k= .cB:=by
   intro l;induction l with
   |nil=>intro k;exact .inr rfl
   |cons a l b=>
    intro k;cases k<;>grind [nth]
  grind
 |_=>exact .inr rfl
theorem Nq{a x}(h:x∈af a):SizeOf.sizeOf x<SizeOf.sizeOf a:=by
 cases a with
 |ah T l=>
  have:=List.sizeOf_lt_of_mem (show x∈l from h)
  grind
 |_=>grind [af]
theorem sd{a x k}(h:x∈af (ag a k)):SizeOf.sizeOf x<SizeOf.sizeOf a:=by
 rcases MJ a k with b|b
 ·have:=Nq h;omega
 grind [af]
def cI(a:AV):Tm:= .mk (toInt (ag a 0)) (toStr (ag a 1)) (toInt (ag a 2)) ((af (ag a 3)).attach.map fun x=>cI x.1)
termination_by SizeOf.sizeOf a
decreasing_by exact sd x.2
def aa(l:List AV):List Tm:=l.map cI
theorem de a:cI a= .mk (toInt (ag a 0)) (toStr (ag a 1)) (toInt (ag a 2)) (aa (af (ag a 3))):=by
 rw[cI]
 simp_all[aa]
theorem sf a s n T l:cI (.agg [.lit (.int .i64 a), .lit (.string s), .lit (.int .i64 n), .ah T l])= .mk a s n (aa l):=by
 rw[de];rfl
structure At where
 rel:ByteArray
 l:List Tm
def Mm(a:AV):At:=⟨toStr (ag a 0),aa (af (ag a 1))⟩
structure Lt where
 op:Int
 a:At
 x:Tm
 y:Tm
def c9(a:AV):Lt:=⟨toInt (ag a 0),Mm (ag a 1),cI (ag a 2),cI (ag a 3)⟩
structure Rl where
 head:At
 body:List Lt
def dw(l:List AV):List Lt:=l.map c9
def xK(a:AV):Rl:=⟨Mm (ag a 0),dw (af (ag a 1))⟩
def letter(c:Int):=decide (97<=c)&&decide (c<=122)||decide (65<=c)&&decide (c<=90)||decide (c=95)
theorem zS s p:1<=(Utf8.decode s p).2:=by
 grind [Utf8.decode]
def nameAt(s:ByteArray)(p:Nat):Bool:=
 if h:p<s.size then
  (letter (Utf8.decode s p).1||(!(decide ((p:Int)=0)||decide (((Utf8.decode s p).1:Int)<48)||decide ((57:Int)<(Utf8.decode s p).1))))&&nameAt s (p+(Utf8.decode s p).2)
 else true
termination_by s.size - p
decreasing_by have:=zS s p;omega
def oh(a b:ByteArray):=a.toList==b.toList
def isName s:=!(oh s (ByteArray.mk #[])||oh s (ByteArray.mk #[95])||decide ((40:Int)<s.size))&&nameAt s 0
def mx(a:Int):=decide (a=5)||decide (a=6)||decide (a=7)
def bare(a:Int) s(n:Int):=
 bif decide (a=1) then isName s&&decide (n=0)
 else bif decide (a=2) then oh s (ByteArray.mk #[])
 else bif decide (a=3) then decide (n=0)
 else bif decide (a=4)||decide (a=0) then oh s (ByteArray.mk #[])&&decide (n=0)
 else false
def ar:Nat->Tm->Bool
 |0,_=>false
 |h+1,t=>
  bif decide (t.op=0) then false
  else bif mx t.op then oh t.s (ByteArray.mk #[])&&decide (t.n=0)&&decide (t.l.length=2)&&t.l.all fun x=>!(decide (x.op=3)||decide (x.op=4))&&ar h x
  else bare t.op t.s t.n&&decide (t.l.length=0)
def lN h(l:List _):=l.all fun x=>!(decide (x.op=3)||decide (x.op=4))&&ar h x
theorem eD l:(aa l).length=l.length:=by simp[aa]
theorem tn h a s n l:ar (h+1) (.mk a s n l)=bif decide (a=0) then false
  else bif mx a then oh s (ByteArray.mk #[])&&decide (n=0)&&decide (l.length=2)&&lN h l
  else bare a s n&&decide (l.length=0):=rfl
theorem aM: ∀l i h,nth l i=l[i]
 |[],_,h=>by grind
 |_::_,0,_=>rfl
 |_::l,i+1,h=>by simpa[nth] using aM l i _
theorem eT l i(h:i<l.length):aa (l.drop i)=cI (nth l i)::aa (l.drop (i+1)):=by
 rw[as5 h,aM l i h];rfl
def aW:Nat:=9223372036854775807
theorem az{n}(a: -9223372036854775808<=n)(b:n<=9223372036854775807):IntKind.wrap .i64 n=n:=by
 grind [IntKind.wrap,IntKind.bits,IntKind.signed]
def bn(a:At):=isName a.rel&& !decide (a.l.length=0)&&decide (a.l.length<=8)&&a.l.all (ar 20)
def Lz(t:Tm):=decide (t.op=0)&&bare t.op t.s t.n&&decide (t.l.length=0)
def V1(a:At):=oh a.rel (ByteArray.mk #[])&&decide (a.l.length=0)
def VT(t:Tm):=decide (t.op=1)||decide (t.op=2)
theorem V4(o:Int) s n l:Lz (.mk o s n (aa l))=(decide (o=0)&&bare o s n&&decide ((l.length:Int)=0)):=by
 grind [Lz,Tm.op,Tm.s,Tm.n,Tm.l,eD]
theorem V2 s l:V1 ⟨s,aa l⟩=(oh s (ByteArray.mk #[])&&decide ((l.length:Int)=0)):=by
 grind [V1,eD]
def jl(l:Lt):=
 bif decide (l.op=1)||decide (l.op=2) then bn l.a&&(Lz l.x&&Lz l.y)
 else bif decide (l.op=3)||decide (l.op=4)||decide (l.op=5)||decide (l.op=6) then V1 l.a&& !decide (l.x.op=4)&& !decide (l.y.op=4)&&ar 20 l.x&&ar 20 l.y
 else bif decide (l.op=7) then bn l.a&&(VT l.x&&Lz l.y)&&ar 20 l.x
 else bif decide (l.op=8)||decide (l.op=9)||decide (l.op=10) then bn l.a&&(VT l.x&&decide (l.y.op=1))&&ar 20 l.x&&ar 20 l.y
 else false
theorem KN b a c s1 d e f s2 g h:jl ⟨b,a, .mk c s1 d e, .mk f s2 g h⟩=
 bif decide (b=1)||decide (b=2) then bn a&&(Lz (.mk c s1 d e)&&Lz (.mk f s2 g h))
 else bif decide (b=3)||decide (b=4)||decide (b=5)||decide (b=6) then V1 a&& !decide (c=4)&& !decide (f=4)&&ar 20 (.mk c s1 d e)&&ar 20 (.mk f s2 g h)
 else bif decide (b=7) then bn a&&(VT (.mk c s1 d e)&&Lz (.mk f s2 g h))&&ar 20 (.mk c s1 d e)
 else bif decide (b=8)||decide (b=9)||decide (b=10) then bn a&&(VT (.mk c s1 d e)&&decide (f=1))&&ar 20 (.mk c s1 d e)&&ar 20 (.mk f s2 g h)
 else false:=rfl
def sL n(t:Tm):=!decide (t.op=4)&& !mx t.op&&(!decide (t.op=1)||decide (0<n))
def a8(r:Rl):=bn r.head&&decide (r.body.length<=20)&&r.head.l.all (sL r.body.length)&&r.body.all jl
def tO(r:Rl):=bn r.head::decide (r.body.length<=20)::(r.head.l.map (sL r.body.length)++r.body.map jl)
theorem Gl r:a8 r=(tO r).all id:=by
 simp[a8,tO,Bool.and_assoc]
theorem lt_eq a:c9 a=⟨toInt (ag a 0),⟨toStr (ag (ag a 1) 0),aa (af (ag (ag a 1) 1))⟩, .mk (toInt (ag (ag a 2) 0)) (toStr (ag (ag a 2) 1)) (toInt (ag (ag a 2) 2)) (aa (af (ag (ag a 2) 3))),
  .mk (toInt (ag (ag a 3) 0)) (toStr (ag (ag a 3) 1)) (toInt (ag (ag a 3) 2)) (aa (af (ag (ag a 3) 3)))⟩:=by
 rw[←de,←de];rfl
theorem oE l i(h:i<l.length):dw (l.drop i)=c9 (nth l i)::dw (l.drop (i+1)):=by
 rw[as5 h,aM l i h];rfl
theorem AS l:(dw l).length=l.length:=by simp[dw]
mutual
def Tm.vars:Tm->List ByteArray
 | .mk op s _ l=>(bif decide (op=1) then[s] else[])++ax l
def ax:List Tm->List ByteArray
 |[]=>[]
 |t::l=>t.vars++ax l
end
mutual
def Tm.mL:Tm->Nat
 | .mk _ _ _ l=>1+bk l
def bk:List Tm->Nat
 |[]=>0
 |t::l=>t.mL+bk l
end
mutual
theorem Tm.SQ: ∀t:Tm,t.vars.length<=t.mL
 | .mk op s n l=>by
  have:=cK l
  simp only[Tm.vars,Tm.mL,as9];cases decide (op=1)<;>simp<;>omega
theorem cK: ∀l:List Tm,(ax l).length<=bk l
 |[]=>by simp[ax,bk]
 |t::l=>by
  have h1:=Tm.SQ t;have h2:=cK l;simp only[ax,bk,as9];omega
end
theorem gI: ∀l,l.length<=bk l
 |[]=>by simp
 | .mk _ _ _ m::l=>by
  have:=gI l
  grind [bk,Tm.mL]
def strs(l:List ByteArray):List AV:=l.map fun s=> .lit (.string s)
theorem ba l:(strs l).length=l.length:=by simp[strs]
theorem cQ l:List.take l.length (strs l)=strs l:=List.take_of_length_le (by grind [ba])
theorem jq l m:strs (l++m)=strs l++strs m:=by simp[strs]
def dN:List Tm->List ByteArray
 |[]=>[]
 |t::l=>(bif decide (5<=t.op) then ax [t] else[])++dN l
theorem DI: ∀l,(dN l).length<=bk l
 |[]=>by simp[dN]
 |t::l=>by
  have a:=DI l
  grind [cK,dN,bk]
theorem Ou l i(h:i<l.length):dN (aa (l.drop i))=(bif decide (5<=toInt (ag (nth l i) 0)) then ax [cI (nth l i)] else[])++dN (aa (l.drop (i+1))):=by
 rw[eT l i h];rw[de];rfl
instance lawS:LawfulBEq ByteArray where
 eq_of_beq h:=(MapKept.bytes_beq _ _).1 h
 rfl:=(MapKept.bytes_beq _ _).2 rfl
theorem Rb{a b}:oh a b=true↔a=b:=by
 unfold oh;obtain⟨⟨a⟩⟩:=a;obtain⟨⟨b⟩⟩:=b;simp
theorem VI a b:oh a b=(a==b):=by
 rw[Bool.eq_iff_iff,Rb,beq_iff_eq]
def fD(b:List (Value×AV)):List AV->List (Value×AV)
 |[]=>b
 |a::l=>fD (eE b (.string (toStr a)) (.lit (.bool true))) l
def yq a s:=Dn.toBool (c6 a (.string s) (.lit (.bool false)))
def fZ b(l:List _):=l.all fun a=>yq b (toStr a)
def bU l:=fD [] (strs l)
theorem DE: ∀a b c,fD c (a++b)=fD (fD c a) b
 |[],_,_=>rfl
 |x::a,b,c=>by exact DE a b _
theorem mF a b:fD (bU a) (strs b)=bU (a++b):=by
 grind [bU,jq,DE]
theorem y2{s}: ∀{k},ef (.string s) k=true->k= .string s:=by
 intro k h;cases k<;>try cases h
 rw[eq_of_beq h]
theorem HQ s t: ∀a,yq (eE a (.string s) (.lit (.bool true))) t=(t==s||yq a t)
 |[]=>by
  simp only[yq,eE,c6,ef];cases t==s<;>rfl
 | (b,e)::a=>by
  have d:=HQ s t a;simp only[yq,eE,c6] at d⊢;cases h:ef _ b with
  |true=>
   have c:=y2 h;subst c;simp only[as1,c6,ef];cases f:t==s<;>rfl
  |false=>
   simp only[ar9,c6]
   grind
theorem HP t: ∀l a,yq (fD a (strs l)) t=(yq a t||l.contains t)
 |[],a=>by simp[strs,fD]
 |s::l,a=>by
  have:=HP t l (eE a (.string s) (.lit (.bool true)))
  rw[show fD a _=fD (eE _ (.string s) _) (strs l) from rfl,this,HQ]
  grind
theorem pA l t:yq (bU l) t=l.contains t:=by
 unfold bU;rw[HP];rfl
theorem SP b s:eE (bU b) (.string s) (.lit (.bool true))=bU (b++[s]):=by
 rw[←mF];rfl
def hasB(b l:List ByteArray):=l.all fun s=>b.contains s
theorem fh b l:fZ (bU b) (strs l)=hasB b l:=by
 simp[fZ,strs];congr 1;funext s
 exact pA b s
def er(l:Lt):=ax [l.x,l.y]++ax l.a.l
def jS(l:Lt):=bk [l.x,l.y]+bk l.a.l
def lY a(x y:Tm):=decide (x.op=1)&&(!yq a x.s&&fZ a (strs (ax [y])))
def lX b(x y:Tm):=decide (x.op=1)&&(!b.contains x.s&&hasB b (ax [y]))
theorem pn b x y:lY (bU b) x y=lX b x y:=by
 grind [lY,lX,pA,fh]
def mX(a:List ByteArray):List ByteArray->List ByteArray
 |[]=>[]
 |s::l=>bif a.contains s then mX a l else s::mX (a++[s]) l
theorem w5{t}: ∀{l a},t∈mX a l↔t∈l/\t∉a
 |[],a=>by simp[mX]
 | s::l,a=>by
  simp only[mX];cases h:a.contains s with
  |true=>
   rw[as1,w5]
   grind
  |false=>
   rw[ar9,at4,w5]
   grind
theorem kJ: ∀l a,(mX a l).length<=l.length
 |[],_=>by simp[mX]
 |s::l,a=>by
  simp only[mX];cases a.contains s with
  |true=>have:=kJ l a;grind
  |false=>have:=kJ l (a++[s]);grind
def fB(r:Rl):=ax r.head.l++r.body.flatMap er
def dg r:=bif a8 r then mX [] (fB r) else[]
theorem zg{r}(h:a8 r=true){s}:s∈dg r↔s∈fB r:=by
 grind [dg,w5]
def an3:Lt:=⟨0,⟨ByteArray.empty,[]⟩, .mk 0 ByteArray.empty 0 [], .mk 0 ByteArray.empty 0 []⟩
def dV(l:List _) k:=l.getD k an3
def Cx(k:Nat):List Lt->Nat->List ByteArray
 |[],_=>[]
 |l::b,i=>(bif Nat.beq i k then ax [l.x] else er l)++Cx k b (i+1)
def Tg(r:Rl) k:=ax r.head.l++Cx k r.body 0
def ej r k:=(dg r).filter fun v=>(ax (dV r.body k).a.l).contains v&&(Tg r k).contains v
def cM r k:=bif decide (7<=(dV r.body k).op) then ax [(dV r.body k).x]++ej r k else er (dV r.body k)
def oQ b r k:=
 bif decide ((dV r.body k).op=1) then hasB b (dN (dV r.body k).a.l)
 else bif decide ((dV r.body k).op=3) then lX b (dV r.body k).x (dV r.body k).y||(lX b (dV r.body k).y (dV r.body k).x||hasB b (er (dV r.body k)))
 else bif decide ((dV r.body k).op=2)||(decide ((dV r.body k).op=4)||(decide ((dV r.body k).op=5)||decide ((dV r.body k).op=6))) then hasB b (er (dV r.body k))
 else(decide ((dV r.body k).op=7)||(ax (dV r.body k).a.l).contains (dV r.body k).y.s)&&(hasB b (ej r k)&&hasB b (dN (dV r.body k).a.l))
def fu(l:List _) k:=l.getD k false
def my(r:Rl)(done:List Bool)(b:List ByteArray):Nat->Nat->Int->Int
 |0,_,a=>a
 |n+1,k,a=>
  bif fu done k|| !oQ b r k then my r done b n (k+1) a
  else bif !decide ((dV r.body k).op=1) then k
  else my r done b n (k+1) (bif decide (a<0) then(k:Int) else a)
def aF r done b:=my r done b r.body.length 0 (-1)
def pb(r:Rl):Nat->List Bool->List ByteArray->List Nat
 |0,_,_=>[]
 |n+1,done,b=>bif decide (aF r done b<0) then[] else(aF r done b).toNat::pb r n (done.set (aF r done b).toNat true) (b++cM r (aF r done b).toNat)
def J8(r:Rl) b k:=
 decide ((dV r.body k).op=3)&&(lX b (dV r.body k).x (dV r.body k).y&&decide ((dV r.body k).y.op>=5)||lX b (dV r.body k).y (dV r.body k).x&&decide ((dV r.body k).x.op>=5))||decide (7<=(dV r.body k).op)
def M4(r:Rl):Nat->List Bool->List ByteArray->Bool
 |0,_,_=>false
 |n+1,done,b=>bif decide (aF r done b<0) then false else J8 r b (aF r done b).toNat||M4 r n (done.set (aF r done b).toNat true) (b++cM r (aF r done b).toNat)
def M5 r:=M4 r r.body.length (List.replicate r.body.length false) []
def cR r:=pb r r.body.length (List.replicate r.body.length false) []
def eZ r(l:List _):=l.flatMap (cM r)
def jT r:=decide (r.body.length<=(cR r).length)&&hasB (eZ r (cR r)) (ax r.head.l)
def F0(r:Rl):Int:=bif a8 r then bif jT r then 0 else 60 else 30
def okI r done b(x:Int):=0<=x/\x.toNat<r.body.length/\fu done x.toNat=false/\oQ b r x.toNat=true
theorem xa r done b: ∀n k a,k+n=r.body.length->a<0\/okI r done b a->
  my r done b n k a=a/\a<0\/okI r done b (my r done b n k a)
 |0,_,a,_,h=>by
  grind [my]
 | n+1,k,a,g,h=>by
  have e:=fun f h=>xa r done b n (k+1) f (by omega) h
  simp only[my];cases c:fu done k|| !oQ b r k with
  |true=>grind
  |false=>
   simp only[Bool.or_eq_false_iff,as6] at c;have d:okI r done b (k:Int):=⟨by omega,by simp;omega,by simpa using c.1,by simpa using c.2⟩
   grind
theorem qy r done b:aF r done b= -1\/okI r done b (aF r done b):=by
 rcases xa r _ b r.body.length 0 (-1) (by simp) (by simp) with h|h
 ·exact .inl h.1
 ·exact .inr h
theorem nA r: ∀n done b,done.length=r.body.length->
  (∀k,k∈pb r n done b->k<r.body.length/\fu done k=false)/\(pb r n done b).Nodup/\(pb r n done b).length<=n
 |0,_,_,_=>by simp[pb]
 | n +1,done,b,hd=>by
  simp only[pb];cases h:decide (aF r done b<0) with
  |true=>simp
  | false=>
   have i:0<=aF r done b:=by simpa using h
   rcases qy r done b with e|⟨_,e,g,_⟩
   ·omega
   have d:=nA r n (done.set (aF r done b).toNat true) (b++cM r (aF r done b).toNat) (by simpa using hd);rw[ar9];refine⟨fun k c=>?_,?_,by have:=d.2.2;simp only[List.length_cons];omega⟩
   ·rcases List.mem_cons.1 c with rfl|c
    ·exact⟨e,g⟩
    ·obtain⟨f,a⟩:=d.1 k c
     refine⟨f,?_⟩;simp only[fu,List.getD_eq_getElem?_getD,List.getElem?_set] at a⊢;split at a
     ·split at a
      ·simp at a
      ·simp at a;omega
     ·exact a
   ·refine List.nodup_cons.2 ⟨fun c=>?_,d.2.1⟩
    have:=(d.1 _ c).2
    simp[fu,List.getD_eq_getElem?_getD,hd,e] at this
theorem sn{r k}(h:k∈cR r):k<r.body.length:=((nA r _ _ _ (by simp)).1 k h).1
theorem Em r:(cR r).Nodup:=(nA r _ _ _ (by simp)).2.1
theorem Lh r:(cR r).length<=r.body.length:=(nA r _ _ _ (by simp)).2.2
def E4 r k:=(dg r).filter fun v=>(eZ r ((cR r).take k)).contains v
theorem sB{a b:Nat}(h:a≠b):Nat.beq a b=false:=by
 grind [Nat.eq_of_beq_eq_true]
theorem G6 r n done b:pb r (n+1) done b=
  bif decide (aF r done b<0) then[] else(aF r done b).toNat::pb r n (done.set (aF r done b).toNat true) (b++cM r (aF r done b).toNat):=rfl
theorem FU r done b n k a:my r done b (n+1) k a=
  bif fu done k|| !oQ b r k then my r done b n (k+1) a
  else bif !decide ((dV r.body k).op=1) then k
  else my r done b n (k+1) (bif decide (a<0) then k else a):=rfl
def Zy(r:Rl)(l:Lt):Rl:=⟨r.head,r.body++[l]⟩
structure ar2(r:Rl)(l:Lt):Prop where
 right:a8 r=true
 more:a8 (Zy r l)=true
 op:l.op=1
 ar3:dN l.a.l=[]
 vars: ∀s,s∈er l->s∈eZ r (cR r)
def pV(T:TypeId)(a:AV):AV:= .agg [.lit (.int .i64 (toInt (ag a 0))), .lit (.string (toStr (ag a 1))), .lit (.int .i64 (toInt (ag a 2))), .ah T (af (ag a 3))]
def pR(T:TypeId)(a:AV):List AV:= .aH [pV T a]::((af (ag a 3)).attach.flatMap fun x=>pR T x.1)
termination_by SizeOf.sizeOf a
decreasing_by exact sd x.2
def fI T(l:List _):=l.flatMap (pR T)
theorem BX T a:pR T a= .aH [pV T a]::fI T (af (ag a 3)):=by
 rw[pR]
 simp_all[fI]
theorem x5 T l i(h:i<l.length):fI T (l.drop i)=pR T (nth l i)++fI T (l.drop (i+1)):=by
 rw[as5 h,aM l i h];rfl
def sq T(x:AV):=∃y,x= .aH [pV T y]
theorem nc T: ∀n a,SizeOf.sizeOf a<n->∀x,x∈pR T a->sq T x
 |0,_,h=>by omega
 | n+1,a,h=>by
  intro x b;rw[BX,at4] at b;rcases b with rfl|b
  ·exact⟨a,rfl⟩
  ·unfold fI at b
   rw[List.mem_flatMap] at b;obtain⟨y,d,c⟩:=b;exact nc T n y (by have:=sd d;omega) x c
theorem CQ T l: ∀x,x∈fI T l->sq T x:=by
 intro x a;unfold fI at a;rw[List.mem_flatMap] at a;obtain⟨y,_,b⟩:=a;exact nc T _ y (Nat.lt_succ_self _) x b
def yZ:AV->List ByteArray
 | .aH [t]=>bif decide (toInt (ag t 0)=1) then[toStr (ag t 1)] else[]
 |_=>[]
theorem wK T: ∀n a,SizeOf.sizeOf a<n->(pR T a).flatMap yZ=(cI a).vars
 |0,_,h=>by omega
 | n+1,a,h=>by
  rw[BX,de,Tm.vars,List.flatMap_cons];congr 1
  have: ∀m:List AV,(∀x,x∈m->SizeOf.sizeOf x<SizeOf.sizeOf a)->(fI T m).flatMap yZ=ax (aa m):=by
   intro m;induction m with
   |nil=>intro _;rfl
   |cons x m d=>
    intro c;have e:=wK T n x (by have:=c x (by simp);omega)
    grind [pR,fI,yZ,cI,ax,aa]
  exact this _ fun x b=>sd b
theorem ue T: ∀l,(fI T l).flatMap yZ=ax (aa l)
 |[]=>rfl
 |x::l=>by
  show(pR T x++fI T l).flatMap _=(cI x).vars++ax (aa l)
  rw[List.flatMap_append,wK T _ x (Nat.lt_succ_self _),ue T l]
def bo T(c b:List _):=c++b.flatMap fun a=>[pV T (ag a 2),pV T (ag a 3)]++af (ag (ag a 1) 1)
theorem sg T a:cI (pV T a)=cI a:=by rw[de,de];rfl
theorem tL: ∀l m,ax (l++m)=ax l++ax m
 |[],_=>rfl
 |t::l,m=>by simp[ax,tL l m]
theorem iO T c d b:ax (aa (bo T d b))=fB ⟨⟨c,aa d⟩,dw b⟩:=by
 unfold bo fB aa;rw[List.map_append,tL];congr 1
 induction b with
 |nil=>rfl
 |cons a b e=>
  simp only[List.flatMap_cons,List.map_append,tL];congr 1
  simp[er,c9,Mm,aa,List.map_nil,sg]
theorem gL: ∀l i x,(bH l i x).length=l.length
 |[],_,_=>rfl
 |_::_,0,_=>rfl
 |_::l,i+1,x=>by simp[bH,gL l i x]
theorem tt: ∀l i x,i<l.length->(bH l i x).take (i+1)=l.take i++[x]
 |[],_,_,h=>by grind
 |_::_,0,_,_=>rfl
 |a::l,i+1,x,h=>by
  have:=tt l i x (by grind)
  grind [bH]
theorem tr: ∀l i j x,i<j->(bH l i x).drop j=l.drop j
 |[],_,_,_,_=>rfl
 |_::_,0,j+1,_,_=>rfl
 |a::l,i+1,j+1,x,h=>by
  have:=tr l i j x (by omega)
  grind [bH]
theorem x4 l i h:nth (strs l) i= .lit (.string l[i]):=by
 grind [aM,strs]
theorem jK{R j a l}(h:R.drop j=a::l):j<R.length/\nth R j=a/\R.drop (j+1)=l:=by
 grind [List.drop_eq_nil_of_le,List.drop_eq_getElem_cons,aM]
def wb(a:ByteArray->Bool)(b:List _)(j:Int):=0<=j/\∃h,(∀s,s∈b.take j.toNat->a s=true)/\a b[j.toNat]=false
theorem rj{a b j}(h:wb a b j):b.filter a=b.take j.toNat++(b.drop (j.toNat+1)).filter a:=by
 obtain⟨_,c,e,d⟩:=h
 conv=>lhs;rw[←List.take_append_drop j.toNat b]
 rw[List.filter_append,as5 c,List.filter_cons]
 simp_all
theorem n9: ∀R lo n z,(dc R lo n z).take lo=R.take lo
 |[],_,_,_=>rfl
 |_::_,0,_,_=>by rfl
 |a::R,lo+1,n,z=>by simp[dc,n9 R _ n z]
def fO(s:ByteArray):List AV->Int->Int
 |[],_=> -1
 |a::l,i=>bif oh s (toStr a) then i else fO s l (i+1)
theorem zu s: ∀l i,0<=i->decide (fO s (strs l) i>=0)=l.contains s
 |[],i,_=>rfl
 |a::l,i,h=>by
  have b:=zu s l (i+1) (by omega);show decide ((bif oh s a then i else fO s (strs l) _)>=0)=_
  grind [VI]
mutual
def Tm.size:Tm->Int->Int
 | .mk _ s _ l,left=>bif decide ((1000:Int)<s.size) then -1 else jo l (left - 1)
def jo:List Tm->Int->Int
 |[],left=>left
 |t::l,left=>bif decide (0<=left) then jo l (t.size left) else left
end
def dx(a:At) b:=bif decide ((1000:Int)<a.rel.size) then -1 else jo a.l b
def sizeLt(l:Lt) b:=
 bif decide (0<=dx l.a (b - 1)) then bif decide (0<=l.x.size (dx l.a (b - 1))) then l.y.size (l.x.size (dx l.a (b - 1))) else l.x.size (dx l.a (b - 1)) else dx l.a (b - 1)
def lS:List Lt->Int->Int
 |[],a=>a
 |l::b,a=>bif decide (0<=a) then lS b (sizeLt l a) else a
def nL(r:Rl) a:=lS r.body (dx r.head (a - 1))
def nK:List Rl->Int->Int
 |[],a=>a
 |r::l,a=>bif decide (0<=a) then nK l (nL r a) else a
mutual
theorem Tm.size_le: ∀(t:Tm) (left:Int),0<=left-> -1<=t.size left/\t.size left<left\/t.size left= -1
 | .mk _ s _ l,left,h=>by
  unfold Tm.size;cases decide ((1000:Int)<s.size) with
  |true=>exact .inr rfl
  | false=>
   rw[ar9];by_cases h1:0<=left - 1
   ·have:=o0 l (left - 1) (by omega)
    omega
   ·have:=o0 l (left - 1) (by omega)
    omega
theorem o0: ∀(l:List Tm) (left:Int), -1<=left-> -1<=jo l left/\jo l left<=left
 |[],left,h=>by unfold jo;omega
 | t::l,left,h=>by
  unfold jo;by_cases h1:0<=left
  ·rw[as0 h1,as1]
   have h2:=Tm.size_le t left h1;have h3:=o0 l (t.size left) (by omega);omega
  ·rw[ar8 h1,ar9];omega
end
theorem oZ a b(h: -1<=b): -1<=dx a b/\(dx a b<=b\/dx a b= -1):=by
 unfold dx;cases decide ((1000:Int)<a.rel.size)<;>simp_all[o0]
theorem tB l b(h:0<=b): -1<=sizeLt l b/\sizeLt l b<b:=by
 unfold sizeLt;have e:=oZ l.a (b - 1) (by omega);by_cases c:0<=dx l.a (b - 1)
 ·rw[as0 c,as1]
  have f:=Tm.size_le l.x _ c;by_cases d:0<=l.x.size (dx l.a (b - 1))
  ·rw[as0 d,as1]
   have g:=Tm.size_le l.y _ d;omega
  grind
 grind
theorem DV: ∀b a, -1<=a-> -1<=lS b a/\lS b a<=a
 |[],a,h=>by grind [lS]
 | l::b,a,h=>by
  unfold lS;by_cases c:0<=a
  ·rw[as0 c,as1]
   have e:=tB l _ c;have d:=DV b (sizeLt l a) (by omega);omega
  grind
theorem xU r a(h:0<=a): -1<=nL r a/\nL r a<a:=by
 unfold nL;have c:=oZ r.head (a - 1) (by omega);have b:=DV r.body (dx r.head (a - 1)) (by omega);omega
theorem DW: ∀l a, -1<=a-> -1<=nK l a/\nK l a<=a
 |[],a,h=>by grind [nK]
 | r::b,a,h=>by
  unfold nK;by_cases c:0<=a
  ·rw[as0 c,as1]
   have e:=xU r _ c;have d:=DW b (nL r a) (by omega);omega
  grind
mutual
theorem Tm.vZ: ∀(t:Tm) (left:Int),0<=t.size left->t.mL+t.size left<=left
 | .mk _ s _ l,left,h=>by
  unfold Tm.size at h⊢;cases e:decide ((1000:Int)<s.size) with
  |true=>rw[e] at h;simp at h
  |false=>
   rw[e,ar9] at h;rw[ar9,Tm.mL];have:=sF l (left - 1) h
   omega
theorem sF: ∀(l:List Tm) (left:Int),0<=jo l left->bk l+jo l left<=left
 |[],left,h=>by unfold jo bk;omega
 | t::l,left,h=>by
  unfold jo at h⊢;by_cases h1:0<=left
  ·rw[as0 h1,as1] at h⊢
   have h3:=sF l (t.size left) h;have h4:0<=t.size left:=by
    have h2:=Tm.size_le t left h1;have:=o0 l (t.size left) (by omega)
    omega
   have h2:=Tm.vZ t left h4;unfold bk;omega
  ·rw[ar8 h1,ar9] at h;omega
end
theorem zJ a b(h:0<=dx a b):bk a.l+dx a b<=b:=by
 unfold dx at h⊢;cases e:decide ((1000:Int)<a.rel.size)<;>simp_all[sF]
theorem GQ l b(g:0<=b)(h:0<=sizeLt l b):1+jS l+sizeLt l b<=b:=by
 unfold sizeLt at h⊢;by_cases c:0<=dx l.a (b - 1)
 ·rw[as0 c,as1] at h⊢
  have f:=zJ l.a (b - 1) c;by_cases d:0<=l.x.size (dx l.a (b - 1))
  ·rw[as0 d,as1] at h⊢
   have i:=Tm.vZ l.x _ d;have e:=Tm.vZ l.y _ h
   grind [jS,bk]
  grind
 grind
theorem zK: ∀b a, -1<=a->0<=lS b a->b.length+(b.map jS).sum+lS b a<=a
 |[],a,_,h=>by unfold lS;simp
 | l::b,a,d,h=>by
  unfold lS at h⊢;by_cases c:0<=a
  ·rw[as0 c,as1] at h⊢
   have f:=tB l a c;have g:=zK b _ (by omega) h;have e:=GQ l a c (by omega)
   grind
  grind
def zG(r:Rl):=bk r.head.l+(r.body.map jS).sum
theorem KS r a(c:0<=a)(h:0<=nL r a):zG r+r.body.length+1+nL r a<=a:=by
 unfold nL at h⊢;have d:=oZ r.head (a - 1) (by omega);have e:=zK _ _ (by omega) h;have b:=zJ r.head (a - 1) (by omega)
 grind [zG]
theorem zL: ∀l a, -1<=a->0<=nK l a->∀r,r∈l->(zG r+r.body.length:Nat)<=a
 |[],_,_,_,r,b=>by simp at b
 | d::l,a,f,h,r,b=>by
  unfold nK at h;by_cases c:0<=a
  ·rw[as0 c,as1] at h
   have g:=xU d a c;have e:=DW l (nL d a) (by omega);rcases List.mem_cons.1 b with rfl|b
   ·have:=KS r a c (by omega)
    omega
   ·have:=zL l _ (by omega) h r b
    omega
  grind
theorem Gs T d f c:bk (aa (bo T f c))=zG ⟨⟨d,aa f⟩,dw c⟩:=by
 have b: ∀l m,bk (l++m)=bk l+bk m:=by
  intro l;induction l with
  |nil=>simp[bk]
  |cons t l e=>simp only[List.cons_append,bk,e];omega
 unfold bo zG aa;rw[List.map_append,b];congr 1
 induction c with
 |nil=>rfl
 |cons a c e=>
  simp only[List.flatMap_cons,List.map_append,b,dw,at3];congr 1
  simp only[jS,c9,Mm,aa,List.map_nil,sg]
def y6(l:List _):=l.any fun a=>decide ((1000:Int)<(toStr a).size)
def Jx a:=decide ((1000:Int)<(toStr (ag a 0)).size)||y6 (af (ag a 1))
def nx(ds a:List _):=!ds.any Jx&&(decide (0<=nK (a.map xK) 2000)&&(decide (ds.length<=100)&&decide (a.length<=300)))
def sx:ByteArray:=ByteArray.mk #[120]
def sy:ByteArray:=ByteArray.mk #[121]
def s0:ByteArray:=ByteArray.mk #[]
def ti(n:Int):Tm:= .mk 2 s0 n []
end Go.Rl
namespace Go.Proofs.YtioeffnadipbaaaGreatDoor
open Go Go.Dn Go.Rl Go.Proofs
attribute [local irreducible] a0 vc
set_option maxRecDepth 20000
def Y3:=[
 (3,[(17,[(1,none),(2,none),(5,none),(6,none),(8,none),(10,none),(11,none),(12,none)]),(18004,[(1,none),(2,none),(5,none),(6,none),(8,none)]),(18001,[(4,none)]),(8,[(1,none),(2,none),(5,none),(6,none),(8,none)]),(9002,[(1,none),(2,none),(5,none),(6,none)]),(9001,[(4,none)])]),
 (6,[(10,[(2,none),(7,none),(8,none),(10,none),(11,none),(12,none),(13,none)]),(11002,[(2,none),(7,none),(8,none),(10,none),(11,none),(12,none)])]),
 (7,[(13,[(7,none),(9,none),(11,none),(13,none)]),(14002,[(7,none)]),(14001,[(6,none)])]),
 (8,[(17,[(2,none),(5,none),(6,none),(13,none)]),(18004,[(5,none)]),(18001,[(4,none)]),(11,[(1,none),(2,none),(5,none),(6,none),(10,none)]),(12002,[(2,none),(5,none),(6,none)]),(12001,[(4,none)])]),
 (10,[(6,[(1,none),(2,none),(3,none),(7,none),(8,none),(9,none)]),(7002,[(1,none),(2,none),(3,none),(7,none),(8,none)])]),
 (12,[(22,[(1,none),(8,none),(9,none),(10,none)]),(23008,[(1,none),(8,none),(9,none)]),(23001,[(4,none)]),(16,[(1,none),(8,none),(9,none)]),(17006,[]),(17001,[(4,none)]),(8,[(1,none),(2,none),(5,none),(6,none),(7,none)]),(9004,[(1,none),(2,none),(5,none),(6,none)]),(4,[(1,none),(2,none),(5,none)]),(5002,[(1,none)]),(5001,[(4,none)])]),
 (16,[(9,[(0,none),(1,none),(5,none),(6,none)]),(10004,[(0,none),(1,none),(5,none)]),(10001,[(4,none)]),(4,[(0,none),(1,none),(5,none)]),(5002,[]),(5001,[(4,none)])]),
 (18,[(15,[(7,none),(10,none),(11,none),(13,none),(49,none),(50,none),(51,none)]),(16004,[(7,none),(10,none),(11,none),(13,none)]),(11,[(7,none),(10,some 35),(11,none),(12,none)]),(12002,[(10,none)])]),
 (19,[(17,[(2,none),(3,none),(11,none),(15,none),(50,none),(51,none),(52,none)]),(18007,[(2,none),(3,none),(11,none),(50,none),(51,none),(52,none)]),(15,[(2,none),(3,none),(11,none),(50,none),(51,none),(52,none)]),(16005,[(2,none),(11,none)]),(10,[(2,none),(3,none),(8,none),(11,some 51),(38,none),(39,none),(40,none)]),(11003,[(2,none),(3,none),(8,none),(11,none)])]),
 (20,[(4,[(0,none),(1,none),(5,none)]),(5002,[]),(5001,[(4,none)])]),
 (21,[(5,[(1,none),(3,none),(4,none)]),(6004,[(1,none),(3,none)]),(6001,[(2,none)]),(2,[(1,none),(3,none)]),(3002,[]),(3001,[(2,none)])]),
 (23,[(4,[(2,none),(18,none),(19,none),(20,none)]),(5002,[]),(5001,[(4,none)])]),
 (25,[(2,[(0,none),(1,none),(6,none)]),(3002,[]),(3001,[(4,none),(5,none)])]),
 (26,[(10,[(1,none),(2,none),(6,none),(7,none)]),(11004,[(1,none),(2,none),(6,none)]),(11001,[(4,none)]),(5,[(1,none),(2,none),(6,none)]),(6002,[]),(6001,[(4,none)])]),
 (29,[(8,[(1,none),(3,none),(5,none)]),(9004,[(1,none),(3,none)]),(3,[(1,none),(3,none),(4,none)]),(4002,[(1,none),(3,none)]),(4001,[(2,none)])]),
 (30,[(2,[(0,none),(3,none)]),(3002,[]),(3001,[(2,none)])]),
 (31,[(5,[(20,none),(21,none),(22,none)]),(6002,[]),(6001,[(2,none),(3,none)])]),
 (32,[(5,[(2,none),(3,none),(4,none),(7,none),(35,none),(36,none),(37,none)]),(6002,[(4,none),(7,none)])]),
 (35,[(4,[(2,none),(3,none),(6,some 72),(26,none),(27,none),(28,none)]),(5002,[(3,none),(6,none)])]),
 (37,[(2,[(0,none),(3,none)]),(3002,[]),(3001,[(2,none)])]),
 (42,[(8,[(3,none),(45,none),(46,none)]),(9004,[(3,none)])]),
 (43,[(2,[(0,none),(3,none),(11,none),(12,none),(13,none)]),(3002,[]),(3001,[(4,none),(5,none)])]),
 (44,[(6,[(0,none),(1,none),(5,none),(11,none),(12,none),(25,none)]),(7004,[(5,none)]),(7003,[(0,none),(1,none),(11,none),(12,none)]),(2,[(0,none),(1,none),(11,none),(12,none)]),(3002,[]),(3001,[(4,none)])]),
 (45,[(3,[(0,none),(1,none),(5,some 3),(11,none),(12,none)]),(4002,[(5,none)])]),
 (46,[(3,[(1,none),(2,none),(3,none),(4,none),(9,none),(16,none),(17,none),(18,none)]),(4002,[(9,none)]),(4001,[(8,none)])]),
 (47,[(3,[(3,none),(6,none),(7,none),(8,none)]),(4002,[(3,none)])]),
 (49,[(7,[(1,none),(2,none),(9,none),(10,none),(11,none),(21,none),(22,none),(23,none)]),(8004,[(1,none),(2,none),(9,none),(10,none),(11,none)]),(8001,[(4,none)]),(2,[(1,none),(2,none),(9,none),(10,none),(11,none)]),(3002,[(1,none)]),(3001,[(4,none)])]),
 (51,[(2,[(0,none),(3,none)]),(3002,[]),(3001,[(2,none)])]),
 (53,[(3,[(0,none),(1,none),(2,none),(8,none),(9,none),(10,none)]),(4002,[(0,none),(1,none),(2,none),(8,none),(9,none)])]),
 (55,[(3,[(3,some 70),(6,none),(7,none),(8,none)]),(4002,[(3,none)])]),
 (59,[(2,[(0,none),(3,none)]),(3002,[]),(3001,[(2,none)])]),
 (60,[(3,[(1,none),(2,none),(5,none)]),(4002,[(1,none)])]),
 (61,[(11,[(1,none),(38,none),(39,none),(40,none)]),(12004,[]),(12001,[(2,none),(3,none)]),(4,[(1,none),(16,none),(17,none),(18,none)]),(5002,[(1,none)]),(5001,[(2,none),(3,none)])]),
 (64,[(3,[(3,some 38),(6,none),(7,none),(8,none)]),(4002,[(3,none)])]),
 (65,[(8,[(2,none),(8,none),(32,none),(33,none),(34,none)]),(9003,[(2,none),(8,none)])]),
 (69,[(4,[(1,none),(2,none),(15,none),(16,none),(17,none)]),(5002,[]),(5001,[(6,none)])]),
 (71,[(4,[(1,none),(2,none),(15,none),(16,none),(17,none)]),(5002,[]),(5001,[(6,none)])]),
 (80,[(9,[(0,none),(1,none),(5,none),(6,none),(7,none)]),(10004,[(0,none),(5,none)]),(4,[(0,none),(1,none),(5,none)]),(5002,[(0,none)]),(5001,[(4,none)])]),
 (82,[(0,[(0,none),(1,none),(2,none)]),(1002,[]),(1001,[])]),
 (86,[(3,[(0,none),(5,none),(6,some 3)]),(4002,[(5,none)])]),
 (94,[(4,[(1,none),(31,none),(32,none),(33,none)]),(5002,[]),(5001,[(2,none)])]),
 (98,[(4,[(2,none),(3,none),(6,some 72),(26,none),(27,none),(28,none)]),(5002,[(3,none),(6,none)])]),
 (99,[(2,[(0,none),(1,none),(5,none)]),(3002,[(0,none),(1,none)]),(3001,[(4,none)])]),
 (100,[(2,[(0,none),(1,none),(2,none),(11,none),(12,none),(13,none)]),(3002,[(0,none),(1,none)]),(3001,[(6,none)])]),
 (104,[(4,[(1,none),(2,none),(5,none)]),(5002,[(1,none)])]),
 (105,[(5,[(1,none),(2,none),(5,none)]),(6002,[(1,none)])]),
 (106,[(11,[(6,none),(8,some 3),(36,none),(37,none),(38,none)]),(12004,[(8,none)]),(12001,[(4,none),(5,none)]),(4,[(3,none),(6,none)]),(5002,[(3,none),(6,none)]),(5001,[(4,none),(5,none)])]),
 (109,[(2,[(0,none),(1,none),(7,none),(8,none)]),(3002,[]),(3001,[(4,none)])]),
 (112,[(1,[(0,none),(6,none),(7,none),(8,none)]),(2002,[])]),
 (114,[(5,[(0,none),(1,none),(5,none),(6,none)]),(6002,[(0,none),(5,none)])]),
 (119,[(2,[(0,none),(1,none),(7,none),(8,none)]),(3002,[]),(3001,[(4,none)])]),
 (120,[(4,[(0,none),(1,none),(12,none),(13,none)]),(5002,[]),(5001,[(4,none)])]),
 (121,[(4,[(0,none),(1,none),(12,none),(13,none)]),(5002,[]),(5001,[(4,none)])]),
 (122,[(17,[(0,none),(3,none),(5,none),(10,none),(11,none),(44,none),(45,none),(46,none),(72,none),(73,none),(74,none)]),(18008,[(0,none),(3,none),(5,none),(11,none),(44,none),(45,none),(46,none)]),(18005,[(0,none),(3,none),(5,none),(44,none),(45,none),(46,none)]),(12,[(0,none),(3,none),(5,none),(10,none),(11,none),(44,none),(45,none),(46,none),(52,none),(53,none),(54,none)]),(13006,[(0,none),(3,none),(5,none),(10,none),(11,none),(44,none),(45,none),(46,none)]),(8,[(0,none),(3,none),(5,none),(44,none),(45,none),(46,none)]),(9004,[]),(9001,[]),(3,[(0,none),(1,none),(2,none),(3,none),(5,none),(6,some 72),(25,none),(26,none),(27,none)]),(4002,[(0,none),(1,none),(2,none),(3,none),(5,none),(6,none)])]),
 (123,[(7,[(1,none),(2,none),(7,none),(8,none),(10,none),(18,none),(19,none),(20,none),(26,none),(27,none),(28,none)]),(8004,[(1,none),(2,none),(7,none),(8,none),(10,none),(18,none),(19,none),(20,none)]),(8003,[(1,none),(2,none),(7,none),(8,none),(18,none),(19,none),(20,none)]),(4,[(1,none),(2,none),(7,none),(8,some 70),(18,none),(19,none),(20,none)]),(5002,[(8,none)])]),
 (126,[(5,[(0,none),(3,none),(4,none)]),(6002,[(3,none)])]),
 (127,[(5,[(0,none),(3,none),(4,none)]),(6002,[(3,none)])]),
 (128,[(9,[(0,none),(1,none),(2,none),(6,none),(7,none),(8,none)]),(10006,[(0,none),(1,none),(2,none),(6,none),(7,none)]),(7,[(0,none),(1,none),(2,none),(6,none)]),(8004,[]),(2,[(0,none),(1,none),(2,none),(6,none),(7,none),(8,none)]),(3002,[(0,none),(1,none),(2,none),(6,none),(7,none)])]),
 (129,[(5,[(0,none),(1,none),(5,none),(12,none),(13,none),(14,none),(28,none),(29,none),(30,none)]),(6004,[(0,none),(1,none),(12,none),(13,none),(14,none)]),(6001,[]),(1,[(0,none),(1,none),(12,none),(13,none),(14,none)]),(2002,[]),(2001,[])]),
 (131,[(2,[(0,none),(1,none),(7,none),(8,none)]),(3002,[]),(3001,[(4,none)])]),
 (138,[(4,[(18,none)]),(5002,[]),(5001,[(2,none)])]),
 (147,[(13,[(11,none),(45,none),(46,none),(47,none)]),(14005,[(11,none)])]),
 (152,[(3,[(0,none),(5,none),(14,none),(15,none),(16,none)]),(4002,[(5,none)]),(4001,[(4,none)])]),
 (155,[(3,[(3,some 9),(6,none),(7,none),(8,none)]),(4002,[(3,none)])]),
 (156,[(12,[(6,none),(26,none),(27,none),(28,none)]),(13004,[(6,none)]),(3,[(0,none),(3,none),(9,none),(10,none),(11,none)]),(4002,[(0,none),(3,none)])]),
 (158,[(17,[(1,none),(2,none),(43,none),(44,none),(45,none)]),(18005,[]),(18001,[(6,none)]),(1,[(0,none),(1,none),(2,none)]),(2001,[(6,none)])]),
 (159,[(4,[(1,none),(2,none),(5,none),(17,none),(18,none),(19,none)]),(5002,[(1,none),(2,none),(5,none)])]),
 (161,[(2,[(0,none),(1,none),(7,none),(8,none)]),(3002,[]),(3001,[(4,none)])]),
 (166,[(4,[(0,none),(1,none),(2,none),(3,none),(8,none),(9,none)]),(5004,[(0,none),(1,none),(2,none),(3,none),(8,none)]),(1,[(0,none),(1,none),(2,none),(3,none),(8,none)]),(2002,[])]),
 (167,[(33,[(0,none),(1,none),(2,none),(3,none),(4,none),(18,none),(19,none),(20,none),(21,none),(22,none)]),(34010,[(0,none),(1,none),(2,none),(3,none),(4,none),(18,none),(19,none),(20,none)]),(21,[(0,none),(14,none),(17,none)]),(22008,[]),(15,[(0,none),(2,none),(4,none),(14,none),(15,none)]),(16006,[(0,none),(2,none),(14,none)]),(9,[(0,none),(10,none),(13,none)]),(10004,[]),(3,[(0,none),(1,none),(4,none),(10,none),(11,none)]),(4002,[(0,none),(1,none),(10,none)])]),
 (168,[(2,[(0,none),(1,none),(7,none),(8,none)]),(3002,[]),(3001,[(4,none)])]),
 (169,[(3,[(0,none),(1,none),(3,none),(4,none),(13,none),(14,none)]),(4002,[]),(4001,[])]),
 (170,[(3,[(1,none),(2,none),(3,none),(7,none),(11,none),(12,none),(13,none)]),(4002,[(7,none)]),(4001,[(6,none)])]),
 (171,[(7,[(0,none),(57,none),(58,none),(59,none)]),(8004,[]),(8001,[]),(2,[(0,none),(1,none),(25,none),(26,none),(27,none)]),(3002,[(0,none),(1,none)]),(3001,[])]),
 (172,[(4,[(24,none),(25,none),(26,none)]),(5002,[]),(5001,[(2,none)])]),
 (176,[(5,[(0,none),(2,none),(3,none),(6,none),(7,none),(10,none),(11,none),(12,none),(18,none),(19,none),(20,none)]),(6004,[(0,none),(2,none),(3,none),(7,none),(10,none),(11,none),(12,none)]),(6003,[(0,none),(2,none),(3,none),(10,none),(11,none),(12,none)]),(1,[(0,none),(2,none),(3,none),(10,none),(11,none),(12,none)]),(2002,[]),(2001,[])]),
 (178,[(2,[(0,none),(1,none),(5,none)]),(3002,[(0,none),(1,none)]),(3001,[(4,none)])]),
 (179,[(1,[(0,none),(2,none),(3,none)]),(2002,[])]),
 (180,[(7,[(0,none),(5,none),(40,none),(41,none),(42,none)]),(8003,[]),(8001,[(4,none)])]),
 (185,[(8,[(2,none),(32,none),(33,none),(34,none)]),(9004,[]),(9001,[]),(3,[(2,none),(3,some 38),(14,none),(15,none),(16,none)]),(4002,[(2,none),(3,none)])]),
 (188,[(1,[(0,none),(6,none),(7,none),(8,none)]),(2002,[]),(2001,[])]),
 (189,[(2,[(0,none),(1,none),(7,none),(8,none)]),(3002,[]),(3001,[(4,none)])]),
 (190,[(2,[(0,none),(2,none),(4,none),(10,none),(11,none)]),(3002,[(0,none),(2,none),(4,none),(10,none)])]),
 (192,[(10,[(1,none),(49,none),(50,none),(51,none)]),(11003,[]),(11001,[(4,none)])]),
 (193,[(2,[(5,none),(6,none),(7,none)]),(3002,[]),(3001,[(2,none)])]),
 (196,[(2,[(0,none),(2,none),(4,none),(12,none),(13,none),(14,none)]),(3002,[(0,none),(2,none),(4,none)]),(3001,[(6,none)])]),
 (198,[(3,[(2,none),(11,none),(12,none),(13,none)]),(4002,[]),(4001,[])]),
 (199,[(1,[(0,none),(1,none),(2,none),(3,none),(10,none)]),(2002,[])]),
 (200,[(3,[(3,some 9),(7,none),(8,none),(9,none)]),(4002,[(3,none)])])
 ]
def lk2(k:Nat):List (Nat×List (Nat×Option Nat))->List (Nat×Option Nat)
 |[]=>[]
 |(j,l)::r=>bif Nat.beq j k then l else lk2 k r
def lk1(f k:Nat):List (Nat×List (Nat×List (Nat×Option Nat)))->List (Nat×Option Nat)
 |[]=>[]
 |(g,l)::r=>bif Nat.beq g f then lk2 k l else lk1 f k r
def live(f k:Nat):List (Nat×Option TypeId):=lk1 f k Y3
structure Kp where
 tree:Addr
 stuck:Addr
 T1:TypeId
 T2:TypeId
 z1:Nat×Nat
 z2:Nat×Nat
 fG:Addr
 arity:Addr
 type:Addr
 T3:TypeId
 T4:TypeId
 T5:TypeId
 z3:Nat×Nat
 z4:Nat×Nat
 z5:Nat×Nat
 c3:Array Value
 c4:Array Value
 c5:Array Value
 t3:TypeId
 t4:TypeId
 t5:TypeId
 d1:fG≠arity
 d2:fG≠type
 d3:arity≠type
 n3: ∀g,g∈[1,0,3,4,2]->fG.block≠g
 n4: ∀g,g∈[1,0,3,4,2]->arity.block≠g
 n5: ∀g,g∈[1,0,3,4,2]->type.block≠g
def ag6(κ:Kp):Value:= .iface 273 (.pointer (some κ.tree))
def mm(κ:Kp):Value:= .iface 273 (.pointer (some κ.stuck))
def y1(κ:Kp)(b:Nat):Option Go.Obj:=
 bif Nat.beq b 1 then some (.cells #[.iface 273 (.pointer (some κ.tree))] κ.T1 κ.z1)
 else bif Nat.beq b 0 then some (.cells #[.iface 273 (.pointer (some κ.stuck))] κ.T2 κ.z2)
 else bif Nat.beq b 3 then some (.cells #[.iface 273 (.pointer (some κ.fG))] κ.T3 κ.z3)
 else bif Nat.beq b 4 then some (.cells #[.iface 273 (.pointer (some κ.arity))] κ.T4 κ.z4)
 else bif Nat.beq b 2 then some (.cells #[.iface 273 (.pointer (some κ.type))] κ.T5 κ.z5)
 else bif Nat.beq b κ.fG.block then some (.cells κ.c3 κ.t3 (0,0))
 else bif Nat.beq b κ.arity.block then some (.cells κ.c4 κ.t4 (0,0))
 else bif Nat.beq b κ.type.block then some (.cells κ.c5 κ.t5 (0,0))
 else none
def aB(κ:Kp)(a:Bool):Value:=bif a then .nilIface else .iface 273 (.pointer (some κ.tree))
theorem nb κ b:aD (aB κ b)=true:=by cases b<;>rfl
theorem qq κ b:bO (aB κ b)=b:=by cases b<;>rfl
theorem oK κ b:bg (aB κ b)=true:=by cases b<;>rfl
noncomputable abbrev Pr(κ:Kp):Pg:={toProgram:=Tryz.prog,kept:=y1 κ}
theorem zw:qi Tryz.prog:=RT (by rfl)
def al9:=[139,182,161,183,187,162,186,135,184,116,92,109,93,67,119,95,110,133,168,134,84,132,111,163,118,999999,999999]
def an4:=[114,170,999999,999999,999999,999999,999999]
def Wj:=[174,138,201,194,195,173,192,172,175,193,96,164,189,137,999999,999999,999999,29,105,104,60,59,999999,999999,999999,999999,999999,999999,999999,999999,999999,999999,999999,999999,999999,999999,999999,999999,999999,999999,94,48,999999,999999,999999,999999,999999,999999,999999,153,130,90,88,85,131,999999,999999,999999,999999,999999,999999]
def VM:=[155,200,160,115,106,999999]
def YM:=[86]
noncomputable def E0 κ:=((Env.none (Pr κ) live (fun f=>iH f al9) (fun f=>iH f an4) fun f=>iH f Wj).jH fun f=>iH f VM).js fun f=>iH f YM
theorem e0 κ:aE (E0 κ):=((aE.none zw).jH _).js _
theorem m0 κ:aj (E0 κ):=(aj.none.jH _).js _
theorem y48 κ op K:(a0 (E0 κ) 12 174 [.int op] [] K)=(
 aq (op==(5:Int)) (K (AV.bool true) []) (aq (op==(6:Int)) (K (AV.bool true) []) (K (AV.bool (op==(7:Int))) []))):=by kernel_rfl
def g48:List AV->Option (Bool×AV)
 |[.lit (.int .i64 a)]=>some (true, .bool (mx a))
 |_=>none
theorem p48 κ:cd (E0 κ) 12 174 g48:=by
 intro a x h;unfold g48 at h;split at h
 ·simp   at h
  subst h;refine⟨_,rfl,rfl,?_⟩
  grind [y48,mx,ae]
 grind
noncomputable def Qt κ:=(E0 κ).aK 174 g48
theorem e48 κ:aE (Qt κ):=(e0 _).aK (m0 _) (p48 _)
theorem m48 κ:aj (Qt κ):=(m0 _).aK
theorem x57 κ s p I n K:(vc (Qt κ) 12 138 none 0 (ad (Pr κ).toProgram 138 4) (sp 55 [(18, .ptr 0 0 [] 0)] [.dq s p]) (bj (Qt κ) 138 4 0 I n K))=(
 letI b:=∃(e0:Nat),e0<n/\I e0 (sp 55 [(18,AV.ptr 0 0 [] 0)] [Obj.dq s (p+Prod.snd (Utf8.decode s p))])
 letI a:=Prod.fst (Utf8.decode s p)
 letI c:=K Exit.ret (sp 55 [(2,AV.bool false)] [])
 letI d:=aq (!(↑a:Int)==(95:Int)) (aq ((↑p:Int)==(0:Int)) c (aq (decide ((↑a:Int)<(48:Int))) c (aq (decide ((↑a:Int)>(57:Int)))
  c b))) b
 letI e:=aq (decide ((↑a:Int)>=(65:Int))) (aq (decide ((↑a:Int)<=(90:Int))) b d) d
 aq (Nat.blt p (ByteArray.size s)) (aq (decide ((↑a:Int)>=(97:Int))) (aq (decide ((↑a:Int)<=(122:Int))) b e) e) (K (Exit.exit 0) (sp 55 [] []))):=by kernel_rfl
abbrev WB(a:ByteArray×Nat):=sp 55 [(18, .ptr 0 0 [] 0)] [.dq a.1 a.2]
noncomputable def Dg(a:ByteArray×Nat):Out (Exit×S):=
 .aq (nameAt a.1 a.2) (.one (.exit 0,sp 55 [] [])) (.one (.ret,sp 55 [(2, .bool false)] []))
theorem l57 κ:aU (Qt κ) 12 138 4 (aG 0 WB (fun _=>True) Dg):=by
 refine aC (fun a=>a.1.size - a.2) ?_;rintro⟨s,p⟩ K - f;rw[show(Qt κ).P=Pr κ from rfl,x57];simp only[Dg,Out.run,ae] at f;have b: ∀c:Int,c=(Utf8.decode s p).1->p<s.size->(letter c||(!(decide ((p:Int)=0)||decide (c<48)||decide ((57:Int)<c))))=true->
   ∃m,m<s.size - p/\ep WB (fun _=>True) Dg (fun a=>a.1.size - a.2) K m (sp 55 [(18, .ptr 0 0 [] 0)] [.dq s (p+(Utf8.decode s p).2)]):=by
  rintro c rfl d g;have:=zS s p
  refine⟨s.size - (p+(Utf8.decode s p).2),by omega,(s,p+(Utf8.decode s p).2),rfl,trivial,rfl,?_⟩;rw[nameAt,dif_pos d,g,at2] at f;simpa only[Dg,Out.run,ae] using f
 have e: ∀c:Int,c=(Utf8.decode s p).1->p<s.size->(letter c||(!(decide ((p:Int)=0)||decide (c<48)||decide ((57:Int)<c))))=false->K Exit.ret (sp 55 [(2, .bool false)] []):=by
  rintro c rfl d g;rw[nameAt,dif_pos d,g,Bool.false_and] at f;exact f.2 rfl
 have b:=b _ rfl;have e:=e _ rfl;generalize ((Utf8.decode s p).1:Int)=c at*
 simp only[ae,Nat.blt_eq,ar4,ar6,beq_iff_eq,beq_eq_false_iff_ne,Bool.not_eq_true',as6,bne_iff_ne];refine⟨fun d=>?_,fun d=>f.1 ?_⟩
 ·have b:=b d
  have e:=e d;simp only[letter,as7,ar5,Bool.not_eq_true',Bool.or_eq_false_iff,Bool.and_eq_false_iff,as6,ar4,ar6] at b e
  simp_all
 ·have d: ¬ p<s.size:=fun h=>by rw[show Nat.blt p s.size=true from by rw[Nat.blt_eq];exact h] at d;cases d
  rw[nameAt,dif_neg d]
noncomputable def LZ κ:=(Qt κ).an 138 4 (aG 0 WB (fun _=>True) Dg)
theorem ak5 κ:aE (LZ κ):=(e48 _).an (m48 _) (l57 _)
theorem Zs κ:aj (LZ κ):=(m48 _).an aJ
theorem y57 κ s K:(a0 (LZ κ) 12 138 [.lit (.string s)] [] K)=(
 letI a:=K (AV.bool false) []
 letI b:=Pg.toProgram (Env.P (Qt κ))
 aq (ByteArray.toList s==ByteArray.toList {data:= #[]}) a (aq (ByteArray.toList s==ByteArray.toList {data:= #[OfNat.ofNat 95]}) a (aq (decide ((↑(ByteArray.size s):Int)>(40:Int))) a (ad b 138 4=ad b 138 4/\∃(e0:ByteArray×Nat),sp 55 [(18,AV.ptr 0 0 [] 0)] [Obj.dq s 0]=sp 55 [(18,AV.ptr 0 0 [] 0)] [Obj.dq e0.1 e0.2]/\True/\aq (nameAt e0.1 e0.2) (K (AV.bool true) []) a)))):=by kernel_rfl
def g57:List AV->Option (Bool×AV)
 |[.lit (.string s)]=>some (true, .bool (isName s))
 |_=>none
theorem p57 κ:cd (LZ κ) 12 138 g57:=by
 intro c x h;unfold g57 at h;split at h
 ·rename_i s
  simp only[ar7,as3,true_and] at h;subst h;refine⟨_,rfl,rfl,?_⟩;rw[y57];unfold isName oh;simp only[ae,ar4,ar6];refine⟨fun a=>by rw[a];rfl,fun a=>⟨fun b=>by rw[a,b];rfl,fun b=>⟨fun d=>?_,fun d=>⟨trivial,⟨s,0⟩,rfl,trivial,fun e=>?_,fun e=>?_⟩⟩⟩⟩
  ·rw[a,b,as0 (show(40:Int)<s.size from d)];rfl
  ·simp_all
  grind
 ·cases h
noncomputable def XR κ:=(LZ κ).aK 138 g57
theorem e57 κ:aE (XR κ):=(ak5 _).aK (Zs _) (p57 _)
theorem m57 κ:aj (XR κ):=(Zs _).aK
theorem y64 κ op s n l K:(a0 (XR κ) 12 201 [.agg [.int op, .lit (.string s), .int n, .ah 38 l]] [] K)=(
 letI a:=K (AV.bool (n==(0:Int))) []
 letI b:=K (AV.bool false) []
 letI c:=ByteArray.toList s==ByteArray.toList {data:= #[]}
 aq (op==(1:Int)) (aq (isName s) a b) (aq (op==(2:Int)) (K (AV.bool c) []) (aq (op==(3:Int)) a (aq (op==(4:Int)) (aq c a b) (aq (op==(0:Int)) (aq (ByteArray.toList s==ByteArray.toList {data:= #[]}) a b) b))))):=by kernel_rfl
def g64:List AV->Option (Bool×AV)
 |[.agg [.lit (.int .i64 a), .lit (.string s), .lit (.int .i64 n), .ah 38 _]]=>some (true, .bool (bare a s n))
 |_=>none
theorem p64 κ:cd (XR κ) 12 201 g64:=by
 intro b x h;unfold g64 at h;split at h
 ·rename_i a s n l
  simp only[ar7,as3,true_and] at h;subst h;refine⟨_,rfl,rfl,?_⟩;rw[y64];have e: ∀k:Int,(a==k)=decide (a=k):=fun k=>by by_cases h:a=k<;>simp[h]
  simp only[e];cases d:isName s<;>cases f:(ByteArray.toList s==ByteArray.toList (ByteArray.mk #[]))<;>
  by_cases g:a=1<;>by_cases i:a=2<;>by_cases j:a=3<;>by_cases m:a=4<;>by_cases c:a=0<;>
  (simp only[aq,bare,oh,d,f,g,i,j,m,c];rfl)
 ·cases h
noncomputable def Qz κ:=(XR κ).aK 201 g64
theorem e64 κ:aE (Qz κ):=(e57 _).aK (m57 _) (p64 _)
theorem m64 κ:aj (Qz κ):=(m57 _).aK
theorem Y2(l:List AV):((l.length:Int)==0)=decide ((l.length:Int)=0):=rfl
theorem y60 κ op s n l K:(a0 (Qz κ) 12 194 [.agg [.int op, .lit (.string s), .int n, .ah 38 l]] [] K)=(
 aq (op==(0:Int)) (aq (bare op s n) (K (AV.bool ((↑(l.length):Int)==(0:Int))) []) (K (AV.bool false) [])) (K (AV.bool false) [])):=by kernel_rfl
theorem y61 κ s l K:(a0 (Qz κ) 12 195 [.agg [.lit (.string s), .ah 38 l]] [] K)=(
 aq (ByteArray.toList s==ByteArray.toList {data:= #[]}) (K (AV.bool ((↑(l.length):Int)==(0:Int))) []) (K (AV.bool false) [])):=by kernel_rfl
theorem y47 κ b K:(a0 (Qz κ) 12 173 [.bool b] [] K)=(
 aq b (K (AV.lit Value.nilIface) []) (K (AV.lit (Value.iface 273 (Value.pointer (some (Kp.tree κ))))) [])):=by kernel_rfl
def g60:List AV->Option (Bool×AV)
 |[.agg [.lit (.int .i64 a), .lit (.string s), .lit (.int .i64 n), .ah 38 l]]=>some (true, .bool (decide (a=0)&&bare a s n&&decide ((l.length:Int)=0)))
 |_=>none
theorem p60 κ:cd (Qz κ) 12 194 g60:=by
 intro a x h;unfold g60 at h;split at h
 ·simp only[ar7,as3,true_and] at h
  subst h;refine⟨_,rfl,rfl,?_⟩
  simp_all[y60,Y2,ae]
 grind
def g61:List AV->Option (Bool×AV)
 |[.agg [.lit (.string s), .ah 38 l]]=>some (true, .bool (oh s (ByteArray.mk #[])&&decide ((l.length:Int)=0)))
 |_=>none
theorem p61 κ:cd (Qz κ) 12 195 g61:=by
 intro a x h;unfold g61 at h;split at h
 ·simp[ar7,as3,true_and] at h
  subst h;refine⟨_,rfl,rfl,?_⟩
  simp_all[y61,oh,Y2,ae]
 grind
def g47(κ:Kp):List AV->Option (Bool×AV)
 |[.lit (.bool b)]=>some (true, .lit (aB κ b))
 |_=>none
theorem p47 κ:cd (Qz κ) 12 173 (g47 κ):=by
 intro a x h;unfold g47 at h;split at h
 ·rename_i b
  simp   at h;subst h;refine⟨_,rfl,oK _ b,?_⟩;rw[y47];cases b<;>rfl
 grind
noncomputable def E47 κ:=(((Qz κ).aK 194 g60).aK 195 g61).aK 173 (g47 κ)
theorem e47 κ:aE (E47 κ):=(((e64 _).eK (mC (e64 κ) (m64 κ) (p60 κ))).eK (mC (e64 _) (m64 _) (p61 κ))).eK (mC (e64 κ) (m64 κ) (p47 κ))
theorem m47 κ:aj (E47 κ):=(m64 _).aK.aK.aK
def Xu(κ:Kp):List AV->Option (Bool×AV)
 |[.agg [.lit (.int .i64 a), .lit (.string s), .lit (.int .i64 n), .ah 38 l], .lit (.int .i64 h)]=>some (decide (0<=h)&&decide (h<=1000), .lit (aB κ (ar h.toNat (.mk a s n (aa l)))))
 |_=>none
def Lj:List AV->Nat
 |[_, .lit (.int .i64 h)]=>h.toNat
 |_=>0
noncomputable def EL κ n:=(E47 κ).aK 192 (below (Xu κ) Lj n)
theorem x58 κ r h l i I n K:(vc (EL κ r) 12 192 none 0 (ad (Pr κ).toProgram 192 10) (sp 72 [(1, .int h),(49, .ah 38 l),(50, .int l.length),(51, .int i)] []) (bj (EL κ r) 192 10 0 I n K))=(
 letI a:=IntKind.wrap IntKind.i64
 letI b:=AV.int
 letI c:=nth l i.toNat
 letI f:=K Exit.ret (sp 72 [(4,AV.lit (Value.iface 273 (Value.pointer (some (Kp.tree κ)))))] [])
 letI g:=i<(↑(l.length):Int)
 letI d:=h - (1:Int)
 letI j:=a d
 letI e:=aB κ (ar (Int.toNat j) (Tm.mk (toInt (ag c 0)) (toStr (ag c 1)) (toInt (ag c 2)) (aa (af (ag c 3)))))
 aq (decide g) (aV (decide ((0:Int)<=i)&&decide g) (aq (toInt (ag c 0)==(3:Int)) f (aq (toInt (ag c 0)==(4:Int)) f (aV (decide ((0:Int)<=
 a d)&&decide (a d<=(1000:Int))&&Nat.blt (Lj [AV.agg [b (toInt (ag c 0)),AV.str (toStr (ag c 1)),
 b (toInt (ag c 2)),AV.ah 38 (af (ag c 3))],b j]) r) (aV (aD e) (aq (!bO e) (K Exit.ret (sp 72 [(4,AV.lit e)] [])) (∃(e0:Nat),e0<n/\I
 e0 (sp 72 [(1,b h),(49,AV.ah 38 l),(50,b (↑(l.length):Int)),(51,b (a (i+(1:Int))))] [])))))))) (K (Exit.exit
 1) (sp 72 [] []))):=by kernel_rfl
abbrev ac6(a:Int×List _×Int):=sp 72 [(1, .int a.1),(49, .ah 38 a.2.1),(50, .int a.2.1.length),(51, .int a.2.2)] []
def OH r(a:Int×List AV×Int):=1<=a.1/\a.1<=1000/\a.1.toNat<=r/\a.2.1.length<=aW/\0<=a.2.2/\a.2.2<=a.2.1.length
noncomputable def Ia(κ:Kp)(a:Int×List AV×Int):Out (Exit×S):=
 .aq (lN (a.1 - 1).toNat (aa (a.2.1.drop a.2.2.toNat))) (.one (.exit 1,sp 72 [] [])) (.one (.ret,sp 72 [(4, .lit (aB κ false))] []))
theorem l58 κ r:aU (EL κ r) 12 192 10 (aG 0 ac6 (OH r) (Ia κ)):=by
 refine aC (fun a=>a.2.1.length - a.2.2.toNat) ?_;rintro⟨h,l,i⟩ K ⟨k,m,p,f,q,s⟩ b;simp only at k m p f q s;rw[show(EL κ r).P=Pr κ from rfl,x58];simp only[Ia,Out.run,ae] at b;rw[az (n:=h - 1) (by omega) (by omega)];simp only[aW] at f;simp only[nb,qq];simp only[←de];simp only[ae,ai,ar4,ar6,ar5,beq_iff_eq,beq_eq_false_iff_ne,Bool.not_eq_true',as6,Lj,Nat.blt_eq];refine⟨fun o=>⟨⟨q,o⟩,?_⟩,fun o=>b.1 ?_⟩
 ·have e:=eT l i.toNat (by omega)
  rw[e] at b;have d:(cI (nth l i.toNat)).op=toInt (ag (nth l i.toNat) 0):=by rw[de];rfl
  simp only[lN,List.all_cons,d] at b;refine⟨fun g=>b.2 (by simp[g]),fun g=>⟨fun j=>b.2 (by simp[j]),fun j=>⟨⟨⟨by omega,by omega⟩,by omega⟩,trivial,fun c=>?_,fun c=>?_⟩⟩⟩
  ·rw[c];exact b.2 (by rw[c];simp)
  ·rw[az (n:=i+1) (by omega) (by omega)]
   refine⟨_,?_,(h,l,i+1),rfl,⟨k,m,p,by simpa[aW] using f,by simp only;omega,by simp only;omega⟩,rfl,?_⟩
   ·simp only;omega
   ·rw[c] at b
    simp only[Ia,Out.run,ae,lN];rw[show(i+1).toNat=i.toNat+1 by omega];simpa[g,j] using b
 ·rw[as2 (by omega)];rfl
noncomputable def L1 κ r:=(EL κ r).an 192 10 (aG 0 ac6 (OH r) (Ia κ))
theorem y58 κ r op s n l h K:(a0 (L1 κ r) 12 192 [.agg [.int op, .lit (.string s), .int n, .ah 38 l], .int h] [] K)=(
 letI a:=AV.int
 letI b:=K (AV.lit (Value.iface 273 (Value.pointer (some (Kp.tree κ))))) []
 letI c:=Pg.toProgram (Env.P (EL κ r))
 letI d:=K (AV.lit Value.nilIface) []
 aq (h==(0:Int)) b (aq (op==(0:Int)) b (aq (!mx op) (aq (!bare op s n) b (aq (decide ((↑(l.length):Int)>(0:Int))) b d)) (aq (!ByteArray.toList s==ByteArray.toList {data:= #[]}) b (aq (n != (0:Int)) b (aq ((↑(l.length):Int) != (2:Int)) b (ad c 192 10=ad c 192 10/\∃(e0:Int×List AV×Int),sp 72 [(1,a h),(49,AV.ah 38 l),(50,a (↑(l.length):Int)),(51,a 0)] []=sp 72 [(1,a e0.1),(49,AV.ah 38 e0.2.1),(50,a (↑(e0.2.1.length):Int)),(51,a e0.2.2)] []/\((1:Int)<=e0.1/\e0.1<=(1000:Int)/\e0.1.toNat<=r/\e0.2.1.length<=9223372036854775807/\(0:Int)<=e0.2.2/\e0.2.2<=(↑(e0.2.1.length):Int))/\aq (lN (Int.toNat (e0.1 - (1:Int))) (aa (List.drop (Int.toNat e0.2.2) e0.2.1))) d b))))))):=by kernel_rfl
theorem ak6 κ r(b:gq (Pr κ) 192 (below (Xu κ) Lj r)):aE (L1 κ r)/\aj (L1 κ r)/\(L1 κ r).P=Pr κ:=
 have h:=(e47 _).eK b;have a:=(m47 _).aK
 ⟨h.an a (l58 _ r),a.an aJ,rfl⟩
theorem p58 κ r:cd (L1 κ r) 12 192 fun xs=>bif Nat.beq (Lj xs) r then Xu κ xs else none:=by
 intro d x b;cases f:Nat.beq (Lj d) r with
 |false=>simp only[f] at b;cases b
 | true=>
  simp only[f,as1] at b;unfold Xu at b;split at b
  ·rename_i t s n l h
   simp only[ar7,as3,ar5,ar4] at b;obtain⟨⟨u,o⟩,rfl⟩:=b;have v:h.toNat=r:=Nat.eq_of_beq_eq_true f;refine⟨_,rfl,oK κ _,?_⟩;rw[y58];have p:AV.lit (.iface 273 (.pointer (some κ.tree)))= .lit (aB κ false):=rfl;have j:AV.lit .nilIface= .lit (aB κ true):=rfl;rw[p,j];by_cases i:h=0
   ·subst i;rfl
   ·obtain⟨m,k⟩: ∃m,h.toNat=m+1:=⟨h.toNat - 1,by omega⟩
    rw[k,tn,eD];unfold oh;generalize (ByteArray.toList s==ByteArray.toList (ByteArray.mk #[]))=z
    simp only[ae,beq_iff_eq,beq_eq_false_iff_ne,Bool.not_eq_true',as6,ar4,ar6,bne_iff_ne,bne_eq_false_iff_eq];refine⟨fun e=>absurd e i,fun _=>⟨fun e=>by rw[as0 e];rfl,fun e=>?_⟩⟩;rw[ar8 e,ar9];refine⟨fun g=>?_,fun g=>?_⟩
    ·rw[g,ar9]
     refine⟨fun a=>by rw[a];rfl,fun a=>⟨fun c=>?_,fun c=>?_⟩⟩
     ·rw[ar8 (show ¬ l.length=0 by omega),Bool.and_false]
     ·rw[a,as0 (show l.length=0 by omega)];rfl
    ·rw[g,as1]
     refine⟨fun a=>by rw[a];rfl,fun a=>⟨fun c=>by rw[a,ar8 c];rfl,fun c=>⟨fun q=>?_,fun q=>?_⟩⟩⟩
     ·rw[ar8 (show ¬ l.length=2 by omega)];simp
     ·refine⟨trivial,(h,l,0),rfl,⟨by simp only;omega,o,by simp only;omega,by simp only;omega,by simp only;omega,by simp only;omega⟩,?_⟩
      rw[a,as0 c,as0 (show l.length=2 by omega)];simp only[show(h - 1).toNat=m by omega,Int.toNat_zero,as4,at2];exact⟨fun e=>by rw[e],fun e=>by rw[e]⟩
  ·cases b
theorem q58 κ:gq (Pr κ) 192 (Xu κ):=aE.vC _ _ _ (ak6 _) (p58 _)
noncomputable def Qy κ:=(E47 κ).aK 192 (Xu κ)
theorem e58 κ:aE (Qy κ):=(e47 _).eK (q58 _)
theorem m58 κ:aj (Qy κ):=(m47 _).aK
theorem x46 κ l i I n K:(vc (Qy κ) 12 172 none 0 (ad (Pr κ).toProgram 172 4) (sp 36 [(24, .ah 38 l),(25, .int l.length),(26, .int i)] []) (bj (Qy κ) 172 4 0 I n K))=(
 letI a:=nth l i.toNat
 letI b:=aB κ (ar 20 (Tm.mk (toInt (ag a 0)) (toStr (ag a 1)) (toInt (ag a 2)) (aa (af (ag a 3)))))
 letI c:=i<(↑(l.length):Int)
 aq (decide c) (aV (decide ((0:Int)<=i)&&decide c) (aV (aD b) (aq (!bO b) (K Exit.ret (sp 36 [(2,AV.lit b)] [])) (∃(e0:Nat),e0<n/\I e0 (sp 36
 [(24,AV.ah 38 l),(25,AV.int (↑(l.length):Int)),(26,AV.int (IntKind.wrap IntKind.i64 (i+(1:Int))))] []))))) (K (Exit.exit 0) (sp 36 [] []))):=by kernel_rfl
abbrev ac4(a:List _×Int):=sp 36 [(24, .ah 38 a.1),(25, .int a.1.length),(26, .int a.2)] []
def OF(a:List AV×Int):=a.1.length<=aW/\0<=a.2/\a.2<=a.1.length
noncomputable def H8(κ:Kp)(a:List AV×Int):Out (Exit×S):=
 .aq ((aa (a.1.drop a.2.toNat)).all (ar 20)) (.one (.exit 0,sp 36 [] [])) (.one (.ret,sp 36 [(2, .lit (aB κ false))] []))
theorem l46 κ:aU (Qy κ) 12 172 4 (aG 0 ac4 OF (H8 κ)):=by
 refine aC (fun a=>a.1.length - a.2.toNat) ?_;rintro⟨l,i⟩ K ⟨d,e,g⟩ b;simp only at d e g;rw[show(Qy κ).P=Pr κ from rfl,x46];simp only[H8,Out.run,ae] at b;simp only[aW] at d;simp only[nb,qq,←de];simp only[ae,ai,ar4,ar6,ar5,beq_iff_eq,beq_eq_false_iff_ne,Bool.not_eq_true',as6];refine⟨fun f=>⟨⟨e,f⟩,trivial,fun c=>?_,fun c=>?_⟩,fun f=>b.1 ?_⟩
 ·rw[c]
  rw[eT l i.toNat (by omega),List.all_cons,c,Bool.false_and] at b;exact b.2 rfl
 ·rw[az (n:=i+1) (by omega) (by omega)]
  refine⟨_,?_,(l,i+1),rfl,⟨by simpa[aW] using d,by simp only;omega,by simp only;omega⟩,rfl,?_⟩
  ·simp only;omega
  ·rw[eT l i.toNat (by omega),List.all_cons,c,at2] at b
   grind [H8,Out.run,ae]
 ·rw[as2 (by omega)];rfl
noncomputable def LU κ:=(Qy κ).an 172 4 (aG 0 ac4 OF (H8 κ))
theorem ak1 κ:aE (LU κ):=(e58 _).an (m58 _) (l46 _)
theorem Zp κ:aj (LU κ):=(m58 _).an aJ
theorem y46 κ s l K:(a0 (LU κ) 12 172 [.agg [.lit (.string s), .ah 38 l]] [] K)=(
 letI a:=K (AV.lit (Value.iface 273 (Value.pointer (some (Kp.tree κ))))) []
 letI b:=Pg.toProgram (Env.P (Qy κ))
 aq (!isName s) a (aq ((↑(l.length):Int)==(0:Int)) a (aq (decide ((↑(l.length):Int)>(8:Int))) a (ad b 172 4=ad b 172 4/\∃(e0:List AV×
 Int),sp 36 [(24,AV.ah 38 l),(25,AV.int (↑(l.length):Int)),(26,AV.int 0)] []=sp 36 [(24,AV.ah 38 e0.1),(25,AV.int (↑(e0.1.length):Int)),(26,
 AV.int e0.2)] []/\(e0.1.length<=9223372036854775807/\(0:Int)<=e0.2/\e0.2<=(↑(e0.1.length):Int))/\aq (List.all (aa (List.drop e0.2.toNat e0.1)) (ar
 20)) (K (AV.lit Value.nilIface) []) a)))):=by kernel_rfl
def g46(κ:Kp):List AV->Option (Bool×AV)
 |[.agg [.lit (.string s), .ah 38 l]]=>some (true, .lit (aB κ (bn ⟨s,aa l⟩)))
 |_=>none
theorem p46 κ:cd (LU κ) 12 172 (g46 κ):=by
 intro b x a;unfold g46 at a;split at a
 ·rename_i s l
  simp only[ar7,as3,true_and] at a;subst a;refine⟨_,rfl,oK κ _,?_⟩;rw[y46];have c:AV.lit (.iface 273 (.pointer (some κ.tree)))= .lit (aB κ false):=rfl;have d:AV.lit .nilIface= .lit (aB κ true):=rfl;rw[c,d];simp only[bn,eD];simp only[ae,beq_iff_eq,beq_eq_false_iff_ne,Bool.not_eq_true',as6,ar4,ar6];refine⟨fun e=>by rw[e];rfl,fun e=>⟨fun g=>by rw[as0 (show l.length=0 by omega)];simp,fun g=>⟨fun f=>by rw[ar8 (show ¬ l.length<=8 by omega)];simp,fun f=>⟨trivial,(l,0),rfl,⟨by simp only;omega,by simp only;omega,by simp only;omega⟩,?_⟩⟩⟩⟩
  grind [decide_eq_false,decide_eq_true]
 ·cases a
noncomputable def P8 κ:=(LU κ).aK 172 (g46 κ)
theorem e46 κ:aE (P8 κ):=(ak1 _).aK (Zp _) (p46 _)
theorem m46 κ:aj (P8 κ):=(Zp _).aK
noncomputable def EM κ:=(P8 κ).an 193 2 (lh (P8 κ) 12 193 2 5)
theorem ak7 κ:aE (EM κ):=(e46 _).an (m46 _) (tK (m46 _) 5)
theorem Zt κ:aj (EM κ):=(m46 _).an (lU (m46 _) 5)
theorem aq0 κ u1 u2 K:(a0 (EM κ) 12 193 [.ah 171 [.lit u1, .lit u2]] [] K)=(
 letI a:=Pg.toProgram (Env.P (P8 κ))
 ad a 193 2=ad a 193 2/\aV (aD u1) (aq (!bO u1) (K (AV.lit u1) []) (aV (aD u2) (aq (!bO u2) (K (AV.lit u2) []) (K (AV.lit Value.nilIface) []))))):=by kernel_rfl
theorem aq1 κ u1 u2 u3 K:(a0 (EM κ) 12 193 [.ah 171 [.lit u1, .lit u2, .lit u3]] [] K)=(
 letI a:=Pg.toProgram (Env.P (P8 κ))
 ad a 193 2=ad a 193 2/\aV (aD u1) (aq (!bO u1) (K (AV.lit u1) []) (aV (aD u2) (aq (!bO u2) (K (AV.lit u2) []) (aV (aD u3) (aq (!bO u3) (K (AV.lit u3) [])
 (K (AV.lit Value.nilIface) []))))))):=by kernel_rfl
theorem aq2 κ u1 u2 u3 u4 K:(a0 (EM κ) 12 193 [.ah 171 [.lit u1, .lit u2, .lit u3, .lit u4]] [] K)=(
 letI a:=AV.lit
 letI b:=Pg.toProgram (Env.P (P8 κ))
 ad b 193 2=ad b 193 2/\aV (aD u1) (aq (!bO u1) (K (a u1) []) (aV (aD u2) (aq (!bO u2) (K (a u2) []) (aV (aD u3) (aq (!bO u3) (K (a u3) [])
 (aV (aD u4) (aq (!bO u4) (K (a u4) []) (K (a Value.nilIface) []))))))))):=by kernel_rfl
def bD u v:=bif bO u then v else u
theorem Fq κ a b:bD (aB κ a) (aB κ b)=aB κ (a&&b):=by cases a<;>rfl
theorem FV{u}(h:aD u=true)(a:bO u=true):u= .nilIface:=by grind [bO]
def g59:List AV->Option (Bool×AV)
 |[.ah 171 [.lit b, .lit a]]=>some (aD b&&aD a&&(bg b&&bg a), .lit (bD b a))
 |[.ah 171 [.lit b, .lit a, .lit c]]=>some (aD b&&(aD a&&aD c)&&(bg b&&(bg a&&bg c)), .lit (bD b (bD a c)))
 |[.ah 171 [.lit b, .lit a, .lit c, .lit d]]=>some (aD b&&(aD a&&(aD c&&aD d))&&(bg b&&(bg a&&(bg c&&bg d))), .lit (bD b (bD a (bD c d))))
 |_=>none
theorem p59 κ:cd (EM κ) 12 193 g59:=by
 intro k x a;unfold g59 at a;split at a
 ·rename_i b c
  simp only[ar7,as3,ar5] at a;obtain⟨⟨⟨f,d⟩,e,m⟩,rfl⟩:=a;refine⟨_,rfl,by unfold bD;cases bO b<;>assumption,?_⟩;rw[aq0,f,d];refine⟨rfl,?_⟩;unfold bD;cases i:bO b
  ·rfl
  ·cases h:bO c
   ·rfl
   ·rw[FV d h];rfl
 ·rename_i b c g
  simp only[ar7,as3,ar5] at a;obtain⟨⟨⟨f,d,e⟩,m,n,q⟩,rfl⟩:=a;refine⟨_,rfl,by unfold bD;cases bO b<;>cases bO c<;>assumption,?_⟩;rw[aq1,f,d,e];refine⟨rfl,?_⟩;unfold bD;cases i:bO b
  ·rfl
  ·cases h:bO c
   ·rfl
   ·cases j:bO g
    ·rfl
    ·rw[FV e j];rfl
 ·rename_i b c g p
  simp only[ar7,as3,ar5] at a;obtain⟨⟨⟨f,d,e,l⟩,m,n,q,r⟩,rfl⟩:=a;refine⟨_,rfl,by unfold bD;cases bO b<;>cases bO c<;>cases bO g<;>assumption,?_⟩;rw[aq2,f,d,e,l];refine⟨rfl,?_⟩;unfold bD;cases i:bO b
  ·rfl
  ·cases h:bO c
   ·rfl
   ·cases j:bO g
    ·rfl
    ·cases o:bO p
     ·rfl
     ·rw[FV l o];rfl
 ·cases a
noncomputable def XS κ:=(EM κ).aK 193 g59
theorem e59 κ:aE (XS κ):=(ak7 _).aK (Zt _) (p59 _)
theorem m59 κ:aj (XS κ):=(Zt _).aK
theorem y49(κ:Kp)(op:Int) s(l:List AV)(o1:Int) s1(n1:Int)(l1:List AV)(o2:Int) s2(n2:Int)(l2:List AV) K:(a0 (XS κ) 12 175 [.agg [.int op, .agg [.lit (.string s), .ah 38 l], .agg [.int o1, .lit (.string s1), .int n1, .ah 38 l1], .agg [.int o2, .lit (.string s2), .int n2, .ah 38 l2]]] [] K)=(
 letI a:=AV.lit
 letI d:=aB κ (ar 20 (Tm.mk o1 s1 n1 (aa l1)))
 letI q:=aB κ (ar 20 (Tm.mk o2 s2 n2 (aa l2)))
 letI b:=aB κ (bn {rel:=s,l:=aa l})
 letI i:=aB κ (decide (o2=(0:Int))&&bare o2 s2 n2&&decide ((↑(l2.length):Int)=(0:Int)))
 letI y:=Value.iface 273 (Value.pointer (some (Kp.tree κ)))
 letI w:=aB κ (o2==(1:Int))
 letI c:=aB κ (bn {rel:=s,l:=aa l})
 letI g:=K (a (bD b (bD w (bD d q)))) []
 letI e:=aD d&&aD q
 letI f:=bg d&&bg q
 letI k:=K (a (bD b y)) []
 letI x:=aq (decide (o1=(0:Int))&&bare o1 s1 n1&&decide ((↑(l1.length):Int)=(0:Int))) (aV (aD b&&aD i&&(bg b&&bg i)) (K (a (bD b
  i)) [])) (aV (aD b&&true&&(bg b&&true)) k)
 letI r:=aV (aD b&&(true&&e)&&(bg b&&(true&&f))) k
 letI m:=aB κ (o2 != (4:Int))
 letI h:=o1==(2:Int)
 letI n:=K (a y) []
 letI t:=aV (true&&e&&(true&&f)) n
 letI j:=aq (oh s {data:= #[]}&&decide ((↑(l.length):Int)=(0:Int))) (aq (o1 != (4:Int)) (aV (aD m&&e&&(bg m&&f)) (K (a (bD m (bD d q))) [])) t) t
 letI u:=bg b&&(bg i&&bg d)
 letI o:=aD w&&e
 letI p:=bg w&&f
 letI z:=aD b&&o&&(bg b&&p)
 letI v:=aV z (K (a (bD c (bD w (bD d q)))) [])
 aq (o1==(1:Int)) (aq (op==(1:Int)) x (aq (op==(2:Int)) x (aq (op==(3:Int)) j (aq (op==(4:Int)) j (aq (op==(5:Int)) j (aq (op==(6
 :Int)) j (aq (op==(7:Int)) (aV (aD b&&(aD i&&aD d)&&u) (K (a (bD b (bD i d))) [])) (aq (op==(8:Int)) (aV z g) (aq (op==(9:
 Int)) (aV (aD c&&o&&(bg b&&p)) g) (aq (op==(10:Int)) v n)))))))))) (aq (op==(1:Int)) x (aq (op==(2:Int)) x (aq (op==(3:
 Int)) j (aq (op==(4:Int)) j (aq (op==(5:Int)) j (aq (op==(6:Int)) j (aq (op==(7:Int)) (aq h (aV (aD c&&(aD i&&aD d)&&u) (K
 (a (bD c (bD i d))) [])) (aV (aD b&&(true&&aD d)&&(bg b&&(true&&bg d))) (K (a (bD c y)) []))) (aq (op==(8:Int)) (aq h (aV
 z g) r) (aq (op==(9:Int)) (aq h (aV (aD b&&o&&(bg c&&p)) g) (aV (aD b&&(true&&e)&&(bg c&&(true&&f))) k)) (aq (op==
 (10:Int)) (aq h v r) n))))))))))):=by kernel_rfl
theorem Q0 κ b x y r:aq b (AV.lit (aB κ x)=AV.lit (aB κ r)) (AV.lit (aB κ y)=AV.lit (aB κ r))↔AV.lit (aB κ (bif b then x else y))=AV.lit (aB κ r):=by
 cases b<;>rfl
theorem QY(a b:Int):(a==b)=decide (a=b):=rfl
theorem Hq(a b:Int):(a != b)= !decide (a=b):=rfl
def g49(κ:Kp):List AV->Option (Bool×AV)
 |[.agg [.lit (.int .i64 a), .agg [.lit (.string s), .ah 38 l], .agg [.lit (.int .i64 b), .lit (.string s1), .lit (.int .i64 c), .ah 38 d], .agg [.lit (.int .i64 e), .lit (.string s2), .lit (.int .i64 f), .ah 38 g]]]=>
  some (true, .lit (aB κ (jl ⟨a,⟨s,aa l⟩, .mk b s1 c (aa d), .mk e s2 f (aa g)⟩)))
 |_=>none
theorem p49 κ:cd (XS κ) 12 175 (g49 κ):=by
 intro u x g;unfold g49 at g;split at g
 ·rename_i c s l d s1 o q i s2 t w
  simp only[ar7,as3,true_and] at g;subst g;refine⟨_,rfl,oK κ _,?_⟩;rw[y49];have y:Value.iface 273 (.pointer (some κ.tree))=aB κ false:=rfl;rw[y];simp only[nb,oK,Fq,Bool.and_true,Bool.and_self,aV];simp only[←V4,←V2,QY,Hq,Q0];refine congrArg (fun b=>AV.lit (aB κ b)) ?_;have z:VT (.mk d s1 o (aa q))=(decide (d=1)||decide (d=2)):=rfl;rw[KN,z];generalize bn ⟨s,aa l⟩=A
  generalize V1 ⟨s,aa l⟩=h
  generalize Lz (.mk d s1 o (aa q))=v
  generalize Lz (.mk i s2 t (aa w))=p
  generalize ar 20 (.mk d s1 o (aa q))=e
  generalize ar 20 (.mk i s2 t (aa w))=f
  generalize decide (d=1)=a
  generalize decide (d=2)=k
  generalize decide (d=4)=j
  generalize decide (i=4)=m
  generalize decide (i=1)=r
  generalize decide (c=1)=B
  generalize decide (c=2)=C
  generalize decide (c=3)=D
  generalize decide (c=4)=E
  generalize decide (c=5)=F
  generalize decide (c=6)=H
  generalize decide (c=7)=I
  generalize decide (c=8)=J
  generalize decide (c=9)=K
  generalize decide (c=10)=n
  cases B
  case true=>cases a<;>cases v<;>cases A<;>cases p<;>rfl
  cases C
  case true=>cases a<;>cases v<;>cases A<;>cases p<;>rfl
  cases D
  case true=>cases a<;>cases h<;>cases j<;>cases m<;>cases e<;>cases f<;>rfl
  cases E
  case true=>cases a<;>cases h<;>cases j<;>cases m<;>cases e<;>cases f<;>rfl
  cases F
  case true=>cases a<;>cases h<;>cases j<;>cases m<;>cases e<;>cases f<;>rfl
  cases H
  case true=>cases a<;>cases h<;>cases j<;>cases m<;>cases e<;>cases f<;>rfl
  cases I
  case true=>cases a<;>cases k<;>cases A<;>cases p<;>cases e<;>rfl
  cases J
  case true=>cases a<;>cases k<;>cases A<;>cases r<;>cases e<;>cases f<;>rfl
  cases K
  case true=>cases a<;>cases k<;>cases A<;>cases r<;>cases e<;>cases f<;>rfl
  cases n
  case true=>cases a<;>cases k<;>cases A<;>cases r<;>cases e<;>cases f<;>rfl
  cases a<;>rfl
 ·cases g
noncomputable def Qu κ:=(XS κ).aK 175 (g49 κ)
theorem e49 κ:aE (Qu κ):=(e59 _).aK (m59 _) (p49 _)
theorem m49 κ:aj (Qu κ):=(m59 _).aK
structure dh where
 xs:List AV
 more:List AV
 rel:ByteArray
 hl:List AV
 bl:List AV
 line:Int
 i:Int
abbrev au(a:dh):AV:= .agg [.agg [.lit (.string a.rel), .ah 38 a.hl], .ah 80 a.bl, .int a.line]
abbrev D2 a:=sp 69 [(0, .cf 0),(1, .ptr 1 0 [] 0),(25, .ah 38 a.hl),(26, .int a.hl.length),(27, .int a.i)] [.ext (some a.xs), .box 48 (au a)]
abbrev Px a:=sp 69 [(0, .cf 0),(57, .ah 80 a.bl),(58, .int a.bl.length),(59, .int a.i)] [.ext (some a.xs), .box 48 (au a)]
def mY(κ:Kp)(l:List Bool):List AV:=l.map fun b=> .aH [.lit (aB κ b)]
def BE κ(a:dh):=a.hl.length<=aW/\0<=a.i/\a.i<=a.hl.length/\a.xs=mY κ ((aa (a.hl.drop a.i.toNat)).map (sL a.bl.length))++a.more
def II κ(a:dh):=a.bl.length<=aW/\0<=a.i/\a.i<=a.bl.length/\a.xs=mY κ ((dw (a.bl.drop a.i.toNat)).map jl)
def F4(a:dh):Out (Exit×S):= .all (fun _=>True) fun b=> .aq b (.one (.exit 0,sp 69 [(0, .cf 0),(1, .ptr 1 0 [] 0)] [.ext (some a.more), .box 48 (au a)]))
 (.one (.ret,sp 69 [] [.ext none, .box 48 (au a)]))
def NX(a:dh):Out (Exit×S):= .all (fun _=>True) fun b=> .aq b (.one (.exit 2,sp 69 [] [.ext (some []), .box 48 (au a)]))
 (.one (.ret,sp 69 [] [.ext none, .box 48 (au a)]))
theorem ap4(κ:Kp)(a:dh)(I:Nat->S->Prop)(n:Nat)(K:Exit->S->Prop):(vc (Qu κ) 12 171 none 2 (ad (Pr κ).toProgram 171 2) (D2 a) (bj (Qu κ) 171 2 2 I n K))=(
 letI b:=AV.int
 letI c:=Obj.box
 letI d:=Obj.ext
 letI f:=IntKind.wrap IntKind.i64 (a.i+(1:Int))
 letI g:=sp 69 [] [d none,c 48 (au a)]
 letI h:=ag (nth a.hl a.i.toNat) 0
 letI e:=a.hl.length
 letI i:=∃(e1:List AV),a.xs=AV.aH [AV.lit (Value.iface 273 (Value.pointer (some (Kp.tree κ))))]::e1/\(∃(e0:Nat),e0<n/\I e0 (sp 69 [(0,AV.cf
  0),(1,AV.ptr 1 0 [] 0),(25,AV.ah 38 a.hl),(26,b (↑e:Int)),(27,b f)] [d (some e1),c 48 (au a)]))/\K Exit.ret g
 aq (decide (a.i<(↑e:Int))) (aV (decide ((0:Int)<=a.i)&&decide (a.i<(↑e:Int))) (aq (toInt h != (4:Int)) (aq (!mx (toInt h)) (aq (toInt h !=
 (1:Int)) (∃(e1:List AV),a.xs=AV.aH [AV.lit Value.nilIface]::e1/\(∃(e0:Nat),e0<n/\I e0 (sp 69 [(0,AV.cf 0),(1,AV.ptr 1 0 [] 0),(25,AV.ah
 38 a.hl),(26,b (↑e:Int)),(27,b f)] [d (some e1),c 48 (au a)]))/\K Exit.ret g) (∃(e1:List AV),a.xs=AV.aH [AV.lit (aB κ
 (decide ((↑(a.bl.length):Int)>(0:Int))))]::e1/\(∃(e0:Nat),e0<n/\I e0 (sp 69 [(0,AV.cf 0),(1,AV.ptr 1 0 [] 0),(25,AV.ah 38 a.hl),(26,
 b (↑e:Int)),(27,b f)] [d (some e1),c 48 (au a)]))/\K Exit.ret g)) i) i)) (K (Exit.exit 0) (sp 69 [(0,AV.cf 0),(1,AV.ptr 1 0
 [] 0)] [d (some a.xs),c 48 (au a)]))):=by kernel_rfl
theorem am5 κ:aU (Qu κ) 12 171 2 (aG 2 D2 (BE κ) F4):=by
 refine aC (fun a=>a.hl.length - a.i.toNat) ?_;rintro⟨xs,d,g,e,l,c,i⟩ K ⟨q,r,t,h⟩ p;simp only at q r t h;rw[show(Qu κ).P=Pr κ from rfl,ap4];have v:Value.iface 273 (.pointer (some κ.tree))=aB κ false:=rfl;have u:Value.nilIface=aB κ true:=rfl;have j:=p true trivial;have k:=p false trivial;simp only[Out.run,aq] at j k;simp only[v,u];simp only[aW] at q;simp only[ae,ai,ar4,ar6,ar5];refine⟨fun s=>⟨⟨r,s⟩,?_⟩,fun s=>?_⟩
 ·rw[eT e i.toNat (by omega)] at h
  have o:(cI (nth e i.toNat)).op=toInt (ag (nth e i.toNat) 0):=by rw[de];rfl
  simp only[at3,mY,sL,o,List.cons_append] at h;rw[az (n:=i+1) (by omega) (by omega)];have w: ∀b,b=(!decide (toInt (ag (nth e i.toNat) 0)=4)&& !mx (toInt (ag (nth e i.toNat) 0))&&(!decide (toInt (ag (nth e i.toNat) 0)=1)||decide (0<l.length)))->
    ∃f,xs=AV.aH [AV.lit (aB κ b)]::f/\(∃m,m<e.length - i.toNat/\ep D2 (BE κ) F4 (fun a=>a.hl.length - a.i.toNat) K m (D2 ⟨f,d,g,e,l,c,i+1⟩))/\K Exit.ret (sp 69 [] [.ext none, .box 48 (au ⟨xs,d,g,e,l,c,i⟩)]):=by
   rintro b rfl;refine⟨_,h,⟨_,?_,⟨_,d,g,e,l,c,i+1⟩,rfl,⟨by simpa[aW] using q,by simp only;omega,by simp only;omega,?_⟩,rfl,p⟩,k⟩
   ·simp only;omega
   ·simp only[mY,show(i+1).toNat=i.toNat+1 by omega]
  simp only[Hq,Bool.not_eq_true',as6,ar4,ar6]
  grind [decide_eq_true,decide_eq_false]
 ·rw[as2 (by omega)] at h
  simp only[aa,mY,List.map_nil,List.nil_append] at h;subst h;exact j
noncomputable def zX κ:=(Qu κ).an 171 2 (aG 2 D2 (BE κ) F4)
theorem aj9 κ:aE (zX κ):=(e49 _).an (m49 _) (am5 _)
theorem Zn κ:aj (zX κ):=(m49 _).an aJ
theorem ap5(κ:Kp)(a:dh)(I:Nat->S->Prop)(n:Nat)(K:Exit->S->Prop):(vc (zX κ) 12 171 none 2 (ad (Pr κ).toProgram 171 7) (Px a) (bj (zX κ) 171 7 2 I n K))=(
 letI b:=nth a.bl a.i.toNat
 letI c:=AV.agg [AV.agg [AV.str a.rel,AV.ah 38 a.hl],AV.ah 80 a.bl,AV.int a.line]
 letI d:=a.i<(↑(a.bl.length):Int)
 aq (decide d) (aV (decide ((0:Int)<=a.i)&&decide d) (∃(e1:List AV),a.xs=AV.aH [AV.lit (aB κ (jl {op:=toInt (ag b 0),a:={rel:=toStr (ag (ag b 1) 0),l:=aa (af (ag (ag b 1) 1))},x:=Tm.mk (toInt (ag (ag b 2) 0)) (toStr (ag (ag b 2) 1)) (toInt (ag (ag b 2) 2)) (aa (af (ag (ag b 2) 3))),y:=Tm.mk (toInt (ag (ag b 3) 0)) (toStr (ag (ag b 3) 1)) (toInt (ag (ag b 3) 2)) (aa (af (ag (ag b 3) 3)))}))]::e1/\(∃(e0:Nat),e0<n/\I e0 (sp 69 [(0,AV.cf 0),(57,AV.ah 80 a.bl),(58,AV.int (↑(a.bl.length):Int)),(59,AV.int (IntKind.wrap IntKind.i64 (a.i+(1:Int))))] [Obj.ext (some e1),Obj.box 48 c]))/\K Exit.ret (sp 69 [] [Obj.ext none,Obj.box 48 c]))) (K (Exit.exit 2) (sp 69 [] [Obj.ext (some a.xs),Obj.box 48 c]))):=by kernel_rfl
theorem am6 κ:aU (zX κ) 12 171 7 (aG 2 Px (II κ) NX):=by
 refine aC (fun a=>a.bl.length - a.i.toNat) ?_;rintro⟨xs,c,h,p,k,d,i⟩ K ⟨g,m,o,b⟩ j;simp only at g m o b;rw[show(zX κ).P=Pr κ from rfl,ap5];have e:=j true trivial;have f:=j false trivial;simp only[Out.run,aq] at e f;simp only[aW] at g;simp only[ae,ai,ar4,ar6,ar5,←lt_eq];refine⟨fun l=>⟨⟨m,l⟩,?_⟩,fun l=>?_⟩
 ·rw[oE k i.toNat (by omega)] at b
  simp only[at3,mY] at b;rw[az (n:=i+1) (by omega) (by omega)];refine⟨_,b,⟨_,?_,⟨_,c,h,p,k,d,i+1⟩,rfl,⟨by simpa[aW] using g,by simp only;omega,by simp only;omega,?_⟩,rfl,j⟩,f⟩
  ·simp only;omega
  ·simp only[mY,show(i+1).toNat=i.toNat+1 by omega]
 ·rw[as2 (by omega)] at b
  simp only[dw,mY,List.map_nil] at b;subst b;exact e
noncomputable def LS κ:=(zX κ).an 171 7 (aG 2 Px (II κ) NX)
theorem ak0 κ:aE (LS κ):=(aj9 _).an (Zn _) (am6 _)
theorem Zo κ:aj (LS κ):=(Zn _).an aJ
theorem y45(κ:Kp)(a:dh)(K:AV->List Dn.Obj->Prop):(a0 (LS κ) 12 171 [.cf 0, .ptr 1 0 [] 0] [.ext (some a.xs), .box 48 (au a)] K)=(
 letI b:=AV.int
 letI c:=AV.agg
 letI d:=Obj.box
 letI e:=Obj.ext
 letI f:=AV.aH
 letI g:=AV.ah
 letI h:=c [c [AV.str a.rel,g 38 a.hl],g 80 a.bl,b a.line]
 letI k:=Pg.toProgram (Env.P (Qu κ))
 letI m:=Pg.toProgram (Env.P (zX κ))
 ∃(e5:List AV),a.xs=f [AV.lit (aB κ (bn {rel:=a.rel,l:=aa a.hl}))]::e5/\(∃(e4:List AV),e5=f [AV.lit (aB κ (decide ((↑(a.bl.length):Int)<=(20:Int))))]::e4/\(ad k 171 2=ad k 171 2/\∃(e3:dh),letI i:=c [c [AV.str e3.rel,g 38 e3.hl],g 80 e3.bl,b e3.line];sp 69 [(0,AV.cf 0),(1,AV.ptr 1 0 [] 0),(25,g 38 a.hl),(26,b (↑(a.hl.length):Int)),(27,b 0)] [e (some e4),d 48 h]=sp 69 [(0,AV.cf 0),(1,AV.ptr 1 0 [] 0),(25,g 38 e3.hl),(26,b (↑(e3.hl.length):Int)),(27,b e3.i)] [e (some e3.xs),d 48 i]/\(e3.hl.length<=9223372036854775807/\(0:Int)<=e3.i/\e3.i<=(↑(e3.hl.length):Int)/\e3.xs=mY κ (List.map (sL e3.bl.length) (aa (List.drop e3.i.toNat e3.hl)))++e3.more)/\∀(e2:Bool),True->aq e2 (ad m 171 7=ad m 171 7/\∃(e1:dh),letI j:=c [c [AV.str e1.rel,g 38 e1.hl],g 80 e1.bl,b e1.line];sp 69 [(0,AV.cf 0),(57,g 80 e3.bl),(58,b (↑(e3.bl.length):Int)),(59,b 0)] [e (some e3.more),d 48 i]=sp 69 [(0,AV.cf 0),(57,g 80 e1.bl),(58,b (↑(e1.bl.length):Int)),(59,b e1.i)] [e (some e1.xs),d 48 j]/\(e1.bl.length<=9223372036854775807/\(0:Int)<=e1.i/\e1.i<=(↑(e1.bl.length):Int)/\e1.xs=mY κ (List.map jl (dw (List.drop e1.i.toNat e1.bl))))/\∀(e0:Bool),True->aq e0 (K (f []) [e (some []),d 48 j]) (K (f []) [e none,d 48 j])) (K (f []) [e none,d 48 i]))/\K (f []) [e none,d 48 h])/\K (f []) [e none,d 48 h]):=by kernel_rfl
def Pw(a:dh):List AV×List Dn.Obj:=([.cf 0, .ptr 1 0 [] 0],[.ext (some a.xs), .box 48 (au a)])
def Gw κ(a:dh):=a.hl.length<=aW/\a.bl.length<=aW/\a.xs=mY κ (tO ⟨⟨a.rel,aa a.hl⟩,dw a.bl⟩)
def NW:dh->Out (AV×List Dn.Obj):=fun _=> .all (fun st'=>se st') fun st'=> .one (.aH [],st')
theorem c45 κ:bc (LS κ) 12 171 (aO Pw (Gw κ) NW):=by
 refine aR ?_;rintro⟨xs,e,c,g,d,a,i⟩ K ⟨l,n,k⟩ m;simp only at l n k;simp only[Pw];rw[y45 κ ⟨xs,e,c,g,d,a,i⟩];simp only;have f: ∀b,K (.aH []) [.ext none,b]:=fun b=>m _ trivial
 have o: ∀b,K (.aH []) [.ext (some []),b]:=fun b=>m _ trivial
 subst k;have j:decide ((d.length:Int)<=20)=decide (d.length<=20):=by
  by_cases h:d.length<=20
  ·rw[as0 h,as0 (by omega)]
  ·rw[ar8 h,ar8 (by omega)]
 rw[j];simp only[tO,mY,at3,AS];refine⟨_,rfl,⟨_,rfl,⟨trivial,⟨_,mY κ ((dw d).map jl),c,g,d,a,0⟩,rfl,⟨l,by simp only;omega,by simp only;omega,?_⟩,?_⟩,f _⟩,f _⟩
 ·simp[mY,AS]
 ·intro y _
  cases y
  ·exact f _
  ·refine⟨trivial,⟨_,[],c,g,d,a,0⟩,rfl,⟨n,by simp only;omega,by simp only;omega,by simp[mY]⟩,?_⟩
   intro y _;cases y
   ·exact f _
   ·exact o _
set_option maxRecDepth 20000 in
noncomputable def SZ(κ:Kp):Env:=(LS κ).aw 171 (aO Pw (Gw κ) NW)
theorem e45 κ:aE (SZ κ):=(ak0 _).aw (Zo _) (c45 _)
theorem m45 κ:aj (SZ κ):=(Zo _).aw aI
noncomputable abbrev VX(κ:Kp)(a:dh)(st:LoopState)(p:Option Code):Dn.Obj:=
 .loop (iG (Pr κ).toProgram 96 3 st p (hG (bM 15) [(0,au a),(1, .ptr 0 0 [] 0),(2, .bool false),(3, .ptr 1 0 [] 0),(5,au a),(6, .bm 171 [.ptr 2 0 [] 0])]))
noncomputable abbrev qg κ a:=[.box 48 (au a), .box 171 (.lit .nilIface), .box 48 (au a),VX κ a .ready none]
noncomputable abbrev G1 κ a:=[.box 48 (au a), .box 171 (.lit .nilIface), .dead,VX κ a .ready none]
theorem s16 κ a Q:(tidy (Pr κ).toProgram 4 (dt (qg κ a) (bV (qg κ a) [.ptr 2 0 [] 0])) Q)=(
 Q [Obj.box 48 (au a),Obj.box 171 (AV.lit Value.nilIface),Obj.dead,Dn.Obj.loop (iG Tryz.prog 96 3 LoopState.ready none (hG (bM 15) [(0,au a),(1,AV.ptr 0 0
 [] 0),(2,AV.bool false),(3,AV.ptr 1 0 [] 0),(5,au a),(6,AV.bm 171 [AV.ptr 2 0 [] 0])]))]):=by kernel_rfl
theorem r16 κ a u Q(K2:List Dn.Obj->Prop):(fQ (vc (SZ κ) 12) 3 [.lit u] (G1 κ a) (fun r st''=>match r with| .lit (.bool true)=>tidy (Pr κ).toProgram 4 st'' Q| .lit (.bool false)=>K2 st''|_=>False))=(
 letI b:=Obj.box
 letI c:=hG (bM 15) [(0,au a),(1,AV.ptr 0 0 [] 0),(2,AV.bool false),(3,AV.ptr 1 0 [] 0),(5,au a),(6,AV.bm 171 [AV.ptr 2 0 [] 0])]
 aV (aD u) (aq (!bO u) (K2 [b 48 (au a),b 171 (AV.lit u),Obj.dead,Dn.Obj.loop (iG Tryz.prog 96 3 LoopState.done (some (Code.exit 0)) c)]) (Q
 [b 48 (au a),b 171 (AV.lit Value.nilIface),Obj.dead,Dn.Obj.loop (iG Tryz.prog 96 3 LoopState.ready none c)]))):=by kernel_rfl
noncomputable abbrev W2 κ a:=[.box 48 (au a), .box 171 (.lit (aB κ false)), .dead,VX κ a .done (some (.exit 0))]
def xM(a:dh):Rl:=⟨⟨a.rel,aa a.hl⟩,dw a.bl⟩
theorem k16 κ a xs:(AV.cf 0::fE (ij (bV (qg κ a) [.ptr 2 0 [] 0])) [.ptr 2 0 [] 0],Obj.ext (some xs)::gg (ij (bV (qg κ a) [.ptr 2 0 [] 0])) (fY (qg κ a) (bV (qg κ a) [.ptr 2 0 [] 0])))=Pw {a with xs:=xs}:=by kernel_rfl
theorem o16 κ a:lD (qg κ a) [.ptr 2 0 [] 0]=true:=by kernel_rfl
noncomputable def Wt(κ:Kp):ee:=fun b st K=>∃a,(b,st)=([AV.ptr 2 0 [] 0],qg κ a)/\(a.hl.length<=aW/\a.bl.length<=aW)/\aq (a8 (xM a)) (K (G1 κ a)) (K (W2 κ a))
theorem KT κ:(Wt κ).fU:=by
 rintro b st K f g ⟨a,c,d,e⟩;refine⟨a,c,d,?_⟩
 grind [ae]
theorem call45 κ a st K(h:aO Pw (Gw κ) NW a st K):(SZ κ).call 171 a st K:=h
theorem al5 κ:ir (SZ κ) 12 171 (Wt κ):=by
 rintro j st K ⟨a,k,g,f⟩;obtain⟨rfl,rfl⟩:=Prod.mk.inj k;rw[ae] at f;refine⟨mY κ (tO (xM a)),fun c st'=>∃l,c=mY κ l/\st'=G1 κ a/\a8 (xM a)=l.all id,⟨o16 κ a,?_,?_,?_,?_⟩⟩
 ·refine call45 κ _ _ _ ?_
  refine⟨{a with xs:=mY κ (tO (xM a))},?_,⟨g.1,g.2,rfl⟩,fun st' h=>h⟩;exact k16 κ a _
 ·rw[show(SZ κ).P=Pr κ from rfl,show(qg κ a).length=4 from rfl,s16]
  exact⟨_,rfl,rfl,Gl _⟩
 ·rintro m i st' ⟨l,d,rfl,e⟩
  cases l with
  |nil=>cases d
  |cons b l=>
   simp only[mY,at3,List.cons.injEq,AV.aH.injEq] at d;obtain⟨rfl,rfl⟩:=d;rw[show(SZ κ).P=Pr κ from rfl,show(qg κ a).length=4 from rfl];refine Eq.mpr (r16 κ a (aB κ b) _ _) ?_;rw[nb,qq];cases b with
   |true=>exact⟨l,rfl,rfl,by rw[e];rfl⟩
   |false=>exact f.2 (by rw[e];rfl)
 ·rintro st' ⟨l,d,rfl,e⟩
  cases l with
  |nil=>exact f.1 (by rw[e];rfl)
  |cons b l=>cases d
def al8:List Nat:=[171]
noncomputable def Ve κ:=((SZ κ).addRange 96 3 171 (Wt κ)).cV fun f=>iH f al8
theorem ai5 κ:aE (Ve κ):=((e45 _).addRange (m45 _) (al5 _)).cV _
theorem an2 κ:aj (Ve κ):=((m45 _).addRange (KT _)).cV _
end Go.Proofs.YtioeffnadipbaaaGreatDoor
namespace Go.Proofs.YtioeffnadipbaaaGreatDoor
open Go Go.Dn Go.Rl Go.Proofs Go.RowKit Go.Extern.Stop Go.Stop Go.Extern
theorem wJ v w:(Extern.ReflectliteType.typeOf #[.iface 273 v]).run Tryz.prog w= .ok (.iface 257 (.agg #[.pointer (some ⟨5,273,none⟩)])) w:=by kernel_rfl
theorem na w:((Extern.ReflectliteType.method fun t=>do Go.Extern.Rtype.noPackHeld "Comparable" t;(fun a=>Value.bool a.comparable)<$>typeInfo t) #[.agg #[.pointer (some ⟨5,273,none⟩)]]).run Tryz.prog w= .ok (.bool true) w:=by kernel_rfl
theorem iF v w:(Go.method 411 257 v "Comparable").run Tryz.prog w= .ok (222,v) w:=by kernel_rfl
theorem Fz:(Tryz.prog.info? 273).map (·.comparable)=some true:=by kernel_rfl
theorem FB:(Tryz.prog.info? 299).map (·.size)=some 1:=by kernel_rfl
set_option maxRecDepth 4000 in
theorem HT(a:Addr)(w:World):
  Calls Tryz.prog 108 #[.iface 273 (.pointer (some a)), .iface 273 (.pointer (some a))] w fun e w'=>e= .returned (.bool true)/\w'=w:=by
 obtain⟨i,hi,hcmp⟩:=Option.map_eq_some_iff.1 Fz;obtain⟨j,hj,hjs⟩:=Option.map_eq_some_iff.1 FB;have h8:= @run_callFunc_extern Tryz.prog 157 _ Extern.ReflectliteType.typeOf Tryz.func157 (by kernel_rfl) (by kernel_rfl) (by kernel_rfl) (by kernel_rfl);have h32:= @run_callFunc_extern Tryz.prog 222 _ (Extern.ReflectliteType.method fun t=>do Go.Extern.Rtype.noPackHeld "Comparable" t;pure (.bool (←typeInfo t).comparable)) Tryz.func222 (by kernel_rfl) (by kernel_rfl) (by kernel_rfl) (by kernel_rfl);have tT:=wJ;have cT:=na;have mR:=iF;have heq:=run_eql_iface_ptr_same (P:=Tryz.prog) w a Tryz.underlying171 Tryz.underlying273 hi hcmp hj
 go_enter Tryz.func108,Tryz.ntmps108
 go_wp2
 refine wp_loop_rounds 1 ?_;rw[rounds_succ]
 go_wp2
 go_ret
 exact⟨rfl,rfl⟩
theorem M9 b w:
  Calls Tryz.prog 108 #[.nilIface, .iface 273 (.pointer (some b))] w fun e a=>e= .returned (.bool false)/\a=w:=by
 have c:=run_eql_iface_nil_left  w 273 (.pointer (some b)) Tryz.underlying171
 go_wp2
 go_ret
 simp
def gIs:List AV->Option (Bool×AV)
 |[.lit .nilIface, .lit (.iface 273 (.pointer (some _)))]=>some (true, .bool false)
 |[.lit (.iface 273 (.pointer (some a))), .lit (.iface 273 (.pointer (some b)))]=>some (decide (a=b), .bool true)
 |_=>none
theorem yb{C u v c}(h:MT C [.lit u, .lit v] c.toList):c= #[u,v]:=by
 obtain⟨l⟩:=c;match l,h with
 |[a,b],h=>
  simp only[MT] at h;have e:Rel C (.lit u) a:=⟨h.1,h.2.1,h.2.2.1⟩
  have d:Rel C (.lit v) b:=⟨h.2.2.2.1,h.2.2.2.2.1,h.2.2.2.2.2.1⟩
  rw[aX e,aX d]
 |[],h=>simp[MT] at h
 |[_],h=>simp[MT] at h
 |_::_::_::_,h=>simp[MT] at h
theorem qIs κ:gq (Pr κ) 108 gIs:=by
 intro c x i a;unfold gIs at a;split at a
 ·simp only[ar7,as3,true_and] at a
  subst a;refine⟨_,_,Tryz.func108,rfl,rfl,rfl,fun C h f g b=>?_⟩;rw[yb b];refine(callsIn_wide.2 (M9 _ C.w)).mono ?_;rintro e d ⟨rfl,rfl⟩;exact⟨rfl,hJ.refl _⟩
 ·simp only[ar7,as3,ar4] at a
  obtain⟨rfl,rfl⟩:=a;refine⟨_,_,Tryz.func108,rfl,rfl,rfl,fun C h f g b=>?_⟩;rw[yb b];refine(callsIn_wide.2 (HT _ C.w)).mono ?_;rintro e d ⟨rfl,rfl⟩;exact⟨rfl,hJ.refl _⟩
 ·cases a
end Go.Proofs.YtioeffnadipbaaaGreatDoor
namespace Go.Proofs.YtioeffnadipbaaaGreatDoor
open Go Go.Dn Go.Rl Go.Proofs
attribute [local irreducible] a0 vc
set_option maxRecDepth 20000
noncomputable def X8 κ:=(Ve κ).aK 108 gIs
theorem eIs κ:aE (X8 κ):=(ai5 _).eK (qIs _)
theorem mIs κ:aj (X8 κ):=(an2 _).aK
theorem y16 κ a K:(a0 (X8 κ) 12 96 [au a] [] K)=(
 letI b:=AV.ptr
 letI c:=AV.bool
 letI d:=Obj.box
 ∃(e0:dh),([b 2 0 [] 0],[d 48 (au a),d 171 (AV.lit Value.nilIface),d 48 (au a),Dn.Obj.loop (iG Tryz.prog 96 3 LoopState.ready none
 (hG (bM 15) [(0,au a),(1,b 0 0 [] 0),(2,c false),(3,b 1 0 [] 0),(5,au a),(6,AV.bm 171 [b 2 0 [] 0])]))])=([b 2 0 [] 0],
 [d 48 (au e0),d 171 (AV.lit Value.nilIface),d 48 (au e0),Dn.Obj.loop (iG Tryz.prog 96 3 LoopState.ready none (hG (bM 15) [(0,au e0),(1,
 b 0 0 [] 0),(2,c false),(3,b 1 0 [] 0),(5,au e0),(6,AV.bm 171 [b 2 0 [] 0])]))])/\(e0.hl.length<=9223372036854775807/\
 e0.bl.length<=9223372036854775807)/\aq (a8 (xM e0)) (K (c true) []) (aV (decide (Kp.tree κ=Kp.tree κ)) (K (c false) []))):=by kernel_rfl
def g16:List AV->Option (Bool×AV)
 |[.agg [.agg [.lit (.string a), .ah 38 c], .ah 80 b, .lit (.int .i64 _)]]=>some (decide (c.length<=aW)&&decide (b.length<=aW), .bool (a8 ⟨⟨a,aa c⟩,dw b⟩))
 |_=>none
theorem p16 κ:cd (X8 κ) 12 96 g16:=by
 intro g x c;unfold g16 at c;split at c
 ·rename_i a d f b
  simp only[ar7,as3,ar5,ar4] at c;obtain⟨⟨i,h⟩,rfl⟩:=c;refine⟨_,rfl,rfl,?_⟩;rw[y16 κ ⟨[],[],a,d,f,b,0⟩];refine⟨⟨[],[],a,d,f,b,0⟩,rfl,⟨i,h⟩,?_⟩;rw[ae];refine⟨fun e=>?_,fun e=>?_⟩
  ·rw[show a8 ⟨⟨a,aa d⟩,dw f⟩=true from e]
  ·rw[show a8 ⟨⟨a,aa d⟩,dw f⟩=false from e]
   simp[aV]
 ·cases c
noncomputable def E16 κ:=(X8 κ).aK 96 g16
theorem e16 κ:aE (E16 κ):=(eIs _).aK (mIs _) (p16 _)
theorem m16 κ:aj (E16 κ):=(mIs _).aK
def Wz(l:List AV):List AV×List Dn.Obj:=([.ah 38 l],[])
def Wo n l:=bk (aa l)=n/\n<=100000
def NS(l:List AV):Out (AV×List Dn.Obj):= .one (.ak 0 0 (ax (aa l)).length,[.row 9 (strs (ax (aa l)))])
def R6 n:=aO Wz (Wo n) NS
noncomputable def EG κ r:=(E16 κ).aw 155 fun a st K=>∃m,m<r/\R6 m a st K
theorem x31 κ r l i xs k I n K:(vc (EG κ r) 12 155 none 0 (ad (Pr κ).toProgram 155 3) (sp 27 [(3, .ak 0 0 k),(6, .ah 38 l),(7, .int l.length),(8, .int i)] [.row 9 xs]) (bj (EG κ r) 155 3 0 I n K))=(
 letI a:=AV.ah
 letI c:=IntKind.wrap IntKind.i64 (i+(1:Int))
 letI b:=nth l i.toNat
 letI d:=i<(↑(l.length):Int)
 aq (decide d) (aV (decide ((0:Int)<=i)&&decide d) (aq (toInt (ag b 0)==(1:Int)) (aV (decide ((k+1+1)*17<=70368744177664)) (∃(e2:Nat),e2<r/\∃(e1:List AV),letI e:=List.drop 0 (strs (ax (aa e1)));letI f:=List.length (ax (aa e1));letI g:=List.take f e;([a 38 (af (ag b 3))],aL)=([a 38 e1],aL)/\(bk (aa e1)=e2/\e2<=100000)/\aV (decide ((k+1+List.length g+1)*17<=70368744177664)) (∃(e0:Nat),e0<n/\I e0 (sp 27 [(3,AV.ak 0 0 (k+1+List.length g)),(6,a 38 l),(7,AV.int (↑(l.length):Int)),(8,AV.int c)] [Obj.row 9 (List.take (k+1) (List.take k xs++[AV.str (toStr (ag b 1))])++List.take f e)])))) (∃(e2:Nat),e2<r/\∃(e1:List AV),letI h:=List.drop 0 (strs (ax (aa e1)));letI j:=List.length (ax (aa e1));letI m:=List.take j h;([a 38 (af (ag b 3))],aL)=([a 38 e1],aL)/\(bk (aa e1)=e2/\e2<=100000)/\aV (decide ((k+List.length m+1)*17<=70368744177664)) (∃(e0:Nat),e0<n/\I e0 (sp 27 [(3,AV.ak 0 0 (k+List.length m)),(6,a 38 l),(7,AV.int (↑(l.length):Int)),(8,AV.int c)] [Obj.row 9 (List.take k xs++List.take j h)]))))) (K (Exit.exit 0) (sp 27 [(3,AV.ak 0 0 k)] [Obj.row 9 xs]))):=by kernel_rfl
abbrev I2(a:List _×Int×List _):=sp 27 [(3, .ak 0 0 a.2.2.length),(6, .ah 38 a.1),(7, .int a.1.length),(8, .int a.2.1)] [.row 9 (strs a.2.2)]
def IE r(a:List _×Int×List ByteArray):=a.1.length<=aW/\0<=a.2.1/\a.2.1<=a.1.length/\bk (aa (a.1.drop a.2.1.toNat))<=r/\a.2.2.length+bk (aa (a.1.drop a.2.1.toNat))<=100000
def xl(a:List AV×Int×List ByteArray):Out (Exit×S):= .one (.exit 0,sp 27 [(3, .ak 0 0 (a.2.2++ax (aa (a.1.drop a.2.1.toNat))).length)] [.row 9 (strs (a.2.2++ax (aa (a.1.drop a.2.1.toNat))))])
theorem Q7 l i(h:i<l.length):bk (aa (l.drop i))=1+bk (aa (af (ag (nth l i) 3)))+bk (aa (l.drop (i+1))):=by
 grind [eT,bk,de,Tm.mL]
theorem PY l i(h:i<l.length):ax (aa (l.drop i))=(bif decide (toInt (ag (nth l i) 0)=1) then[toStr (ag (nth l i) 1)] else[])++ax (aa (af (ag (nth l i) 3)))++ax (aa (l.drop (i+1))):=by
 grind [eT,ax,de,Tm.vars]
theorem l31 κ r:aU (EG κ r) 12 155 3 (aG 0 I2 (IE r) xl):=by
 refine aC (fun a=>a.1.length - a.2.1.toNat) ?_;rintro⟨l,i,c⟩ K ⟨d,f,j,k,m⟩ b;simp only at d f j k m;rw[show(EG κ r).P=Pr κ from rfl];refine Eq.mpr (x31 κ r l i (strs c) c.length _ _ K) ?_;simp only[as4,cQ];simp only[aW] at d;simp only[ae,ai,ar4,ar6,ar5,beq_iff_eq,beq_eq_false_iff_ne];refine⟨fun g=>⟨⟨f,g⟩,?_⟩,fun g=>?_⟩
 ·have p:=Q7 l i.toNat (by omega)
  have h:=PY l i.toNat (by omega);have o:=cK (aa (af (ag (nth l i.toNat) 3)));rw[az (n:=i+1) (by omega) (by omega)];refine⟨fun e=>⟨by omega,_,?_,af (ag (nth l i.toNat) 3),rfl,⟨rfl,by omega⟩,?_,_,?_,(l,i+1,c++[toStr (ag (nth l i.toNat) 1)]++ax (aa (af (ag (nth l i.toNat) 3)))),?_,⟨by simpa[aW] using d,by simp only;omega,by simp only;omega,?_,?_⟩,rfl,?_⟩,
   fun e=>⟨_,?_,af (ag (nth l i.toNat) 3),rfl,⟨rfl,by omega⟩,?_,_,?_,(l,i+1,c++ax (aa (af (ag (nth l i.toNat) 3)))),?_,⟨by simpa[aW] using d,by simp only;omega,by simp only;omega,?_,?_⟩,rfl,?_⟩⟩
  all_goals first
   |omega
   |(simp only[ba];omega)
   |(simp only[show(i+1).toNat=i.toNat+1 by omega,as9,List.length_cons,List.length_nil];omega)
   |skip
  ·simp only[I2,jq,ba,as9,List.length_cons,List.length_nil]
   rw[List.take_of_length_le (by simp[ba])];rfl
  ·simp only[xl,Out.run,show(i+1).toNat=i.toNat+1 by omega] at b⊢
   rw[h,as0 e] at b;simpa[List.append_assoc] using b
  ·simp only[I2,jq,ba,as9]
  ·simp only[xl,Out.run,show(i+1).toNat=i.toNat+1 by omega] at b⊢
   rw[h,ar8 e] at b;simpa[List.append_assoc] using b
 ·simp only[xl,Out.run] at b
  rw[as2 (by omega)] at b;simpa[aa,ax] using b
noncomputable def LM κ r:=(EG κ r).an 155 3 (aG 0 I2 (IE r) xl)
theorem y31 κ r l K:(a0 (LM κ r) 12 155 [.ah 38 l] [] K)=(
 ad (Pg.toProgram (Env.P (EG κ r))) 155 3=ad (Pg.toProgram (Env.P (EG κ r))) 155 3/\∃(a:List AV×Int×List ByteArray),letI b:=aa (List.drop a.2.1.toNat a.1);sp 27 [(3,AV.ak 0 0 0),(6,AV.ah 38 l),(7,AV.int (↑(l.length):Int)),(8,AV.int 0)] [Obj.row 9 []]=sp 27 [(3,AV.ak 0 0 (List.length a.2.2)),(6,AV.ah 38 a.1),(7,AV.int (↑(a.1.length):Int)),(8,AV.int a.2.1)] [Obj.row 9 (strs a.2.2)]/\(a.1.length<=9223372036854775807/\(0:Int)<=a.2.1/\a.2.1<=(↑(a.1.length):Int)/\bk b<=r/\List.length a.2.2+bk b<=100000)/\K (AV.ak 0 0 (List.length (a.2.2++ax b))) [Obj.row 9 (strs (a.2.2++ax b))]):=by kernel_rfl
theorem KU n:(R6 n).fU:=aI
theorem aj1 κ r(d: ∀a st K,(∃m,m<r/\R6 m a st K)->b7 (Pr κ) 155 a st K):aE (LM κ r)/\aj (LM κ r)/\(LM κ r).P=Pr κ:=
 have h:=(e16 _).fK d;have b:=(m16 _).aw fun _ _ _ _ e ⟨m,f,c⟩=>⟨m,f,KU m _ _ _ _ e c⟩
 ⟨h.an b (l31 _ r),b.an aJ,rfl⟩
theorem c31 κ r:bc (LM κ r) 12 155 (R6 r):=by
 refine aR ?_;rintro l K ⟨b,c⟩ a;refine Eq.mpr (y31 κ r l K) ?_;have:=gI (aa l)
 rw[eD] at this;refine⟨rfl,(l,0,[]),rfl,⟨by simp only;omega,by simp only;omega,by simp only;omega,?_,?_⟩,?_⟩
 ·grind
 ·grind
 ·exact a
def bE l:=bk (aa l)<=100000
theorem q31 κ: ∀a st K,aO Wz bE NS a st K->b7 (Pr κ) 155 a st K:=by
 rintro a st K ⟨l,c,d,b⟩;exact aE.pj _ _ (aj1 _) (c31 _) _ _ _ K ⟨l,c,⟨rfl,d⟩,b⟩
noncomputable def Qo κ:=(E16 κ).aw 155 (aO Wz bE NS)
theorem e31 κ:aE (Qo κ):=(e16 _).fK (q31 _)
theorem m31 κ:aj (Qo κ):=(m16 _).aw aI
theorem x23 κ l i es I n K:(vc (Qo κ) 12 112 none 1 (ad (Pr κ).toProgram 112 1) (sp 15 [(0, .mp 0),(6, .ah 9 l),(7, .int l.length),(8, .int i)] [.map 9 4 es]) (bj (Qo κ) 112 1 1 I n K))=(
 letI a:=i<(↑(l.length):Int)
 aq (decide a) (aV (decide ((0:Int)<=i)&&decide a) (∃(e0:Nat),e0<n/\I e0 (sp 15 [(0,AV.mp 0),(6,AV.ah 9 l),(7,AV.int (↑(l.length):Int)),(8,
 AV.int (IntKind.wrap IntKind.i64 (i+(1:Int))))] [Dn.Obj.map 9 4 (eE es (Value.string (toStr (nth l i.toNat))) (AV.bool true))]))) (K (Exit.exit 0) (sp 15 []
 [Dn.Obj.map 9 4 es]))):=by kernel_rfl
abbrev TV(a:List _×Int×List _):=sp 15 [(0, .mp 0),(6, .ah 9 a.1),(7, .int a.1.length),(8, .int a.2.1)] [.map 9 4 a.2.2]
def vh(a:List AV×Int×List (Value×AV)):=a.1.length<=aW/\0<=a.2.1/\a.2.1<=a.1.length
def Bk(a:List AV×Int×List (Value×AV)):Out (Exit×S):= .one (.exit 0,sp 15 [] [.map 9 4 (fD a.2.2 (a.1.drop a.2.1.toNat))])
theorem l23 κ:aU (Qo κ) 12 112 1 (aG 1 TV vh Bk):=by
 refine aC (fun a=>a.1.length - a.2.1.toNat) ?_;rintro⟨l,i,f⟩ K ⟨b,d,g⟩ c;simp only at b d g;rw[show(Qo κ).P=Pr κ from rfl];refine Eq.mpr (x23 κ l i f _ _ K) ?_;simp only[aW] at b;simp only[ae,ai,ar4,ar6,ar5];refine⟨fun e=>⟨⟨d,e⟩,?_⟩,fun e=>?_⟩
 ·rw[az (n:=i+1) (by omega) (by omega)]
  refine⟨_,?_,(l,i+1,eE f (.string (toStr (nth l i.toNat))) (.lit (.bool true))),rfl,⟨by simpa[aW] using b,by simp only;omega,by simp only;omega⟩,rfl,?_⟩
  ·simp only;omega
  grind [Bk,Out.run,List.drop_eq_getElem_cons,fD,aM]
 ·simp only[Bk,Out.run] at c
  rw[as2 (by omega)] at c;exact c
noncomputable def LK κ:=(Qo κ).an 112 1 (aG 1 TV vh Bk)
theorem ai9 κ:aE (LK κ):=(e31 _).an (m31 _) (l23 _)
theorem Ze κ:aj (LK κ):=(m31 _).an aJ
theorem y23 κ l es K:(a0 (LK κ) 12 112 [.mp 0, .ah 9 l] [.map 9 4 es] K)=(
 letI a:=Dn.Obj.map
 letI b:=Pg.toProgram (Env.P (Qo κ))
 ad b 112 1=ad b 112 1/\∃(e0:List AV×Int×List (Value×AV)),sp 15 [(0,AV.mp 0),(6,AV.ah 9 l),(7,AV.int (↑(l.length):Int)),(8,AV.int 0)]
 [a 9 4 es]=sp 15 [(0,AV.mp 0),(6,AV.ah 9 e0.1),(7,AV.int (↑(e0.1.length):Int)),(8,AV.int e0.2.1)] [a 9 4 e0.2.2]/\(e0.1.length<=
 9223372036854775807/\(0:Int)<=e0.2.1/\e0.2.1<=(↑(e0.1.length):Int))/\K (AV.aH []) [a 9 4 (fD e0.2.2 (List.drop e0.2.1.toNat e0.1))]):=by kernel_rfl
def Sa(a:List AV×List (Value×AV)):List AV×List Dn.Obj:=([.mp 0, .ah 9 a.1],[.map 9 4 a.2])
def bq(a:List AV×List (Value×AV)):=a.1.length<=aW
def Tk(a:List AV×List (Value×AV)):Out (AV×List Dn.Obj):= .one (.aH [],[.map 9 4 (fD a.2 a.1)])
theorem c23 κ:bc (LK κ) 12 112 (aO Sa bq Tk):=by
 refine aR ?_;rintro⟨l,b⟩ K c a;refine Eq.mpr (y23 _ l _ K) ?_;exact⟨rfl,(l,0,b),rfl,⟨c,by simp,by simp⟩,a⟩
noncomputable def Qm κ:=(LK κ).aw 112 (aO Sa bq Tk)
theorem e23 κ:aE (Qm κ):=(ai9 _).aw (Ze _) (c23 _)
theorem m23 κ:aj (Qm κ):=(Ze _).aw aI
theorem x41 κ l i es I n K:(vc (Qm κ) 12 161 none 2 (ad (Pr κ).toProgram 161 2) (sp 19 [(0, .ah 9 l),(1, .bm 183 [.ptr 1 0 [] 0]),(7, .int l.length),(8, .int i)] [.map 9 4 es, .box 178 (.mp 0)]) (bj (Qm κ) 161 2 2 I n K))=(
 letI a:=Dn.Obj.map
 letI b:=i<(↑(l.length):Int)
 aq (decide b) (aV (decide ((0:Int)<=i)&&decide b) (aq (!Dn.toBool (c6 es (Value.string (toStr (nth l i.toNat))) (AV.bool false))) (K Exit.ret (sp 19 [(4,
 AV.int i)] [a 9 4 es,Obj.box 178 (AV.mp 0)])) (∃(e0:Nat),e0<n/\I e0 (sp 19 [(0,AV.ah 9 l),(1,AV.bm 183 [AV.ptr 1 0 [] 0]),(7,AV.int
 (↑(l.length):Int)),(8,AV.int (IntKind.wrap IntKind.i64 (i+(1:Int))))] [a 9 4 es,Obj.box 178 (AV.mp 0)])))) (K (Exit.exit 0) (sp 19 []
 [a 9 4 es,Obj.box 178 (AV.mp 0)]))):=by kernel_rfl
abbrev PO(a:List (Value×AV)):List Dn.Obj:=[.map 9 4 a, .box 178 (.mp 0)]
abbrev TX(a:List _×Int×List _):=sp 19 [(0, .ah 9 a.1),(1, .bm 183 [.ptr 1 0 [] 0]),(7, .int a.1.length),(8, .int a.2.1)] (PO a.2.2)
def Bm(a:List AV×Int×List (Value×AV)):Out (Exit×S):=
 .aq (fZ a.2.2 (a.1.drop a.2.1.toNat)) (.one (.exit 0,sp 19 [] (PO a.2.2))) (.all (fun j=>0<=j) fun j=> .one (.ret,sp 19 [(4, .int j)] (PO a.2.2)))
theorem l41 κ:aU (Qm κ) 12 161 2 (aG 2 TX vh Bm):=by
 refine aC (fun a=>a.1.length - a.2.1.toNat) ?_;rintro⟨l,i,c⟩ K ⟨d,f,h⟩ b;simp only at d f h;rw[show(Qm κ).P=Pr κ from rfl];refine Eq.mpr (x41 κ l i c _ _ K) ?_;simp only[aW] at d;simp only[Bm,Out.run,ae] at b;simp only[ae,ai,ar4,ar6,ar5,Bool.not_eq_true',as6];refine⟨fun g=>⟨⟨f,g⟩,?_⟩,fun g=>?_⟩
 ·rw[as5 (show i.toNat<l.length by omega),←aM l i.toNat (by omega)] at b
  simp only[fZ,List.all_cons] at b;refine⟨fun e=>?_,fun e=>?_⟩
  ·grind [yq,toStr,nth]
  ·have j:yq c (toStr (nth l i.toNat))=true:=e
   rw[j,at2] at b;rw[az (n:=i+1) (by omega) (by omega)];refine⟨_,?_,(l,i+1,c),rfl,⟨by simpa[aW] using d,by simp only;omega,by simp only;omega⟩,rfl,?_⟩
   ·simp only;omega
   ·simp only[Bm,Out.run,ae,show(i+1).toNat=i.toNat+1 by omega]
    exact b
 ·rw[as2 (by omega)] at b
  exact b.1 rfl
noncomputable def LQ κ:=(Qm κ).an 161 2 (aG 2 TX vh Bm)
theorem aj5 κ:aE (LQ κ):=(e23 _).an (m23 _) (l41 _)
theorem Zj κ:aj (LQ κ):=(m23 _).an aJ
theorem y30 κ l es K:(a0 (LQ κ) 12 154 [.mp 0, .ah 9 l] [.map 9 4 es] K)=(
 letI b:=Dn.Obj.map
 ad (Pg.toProgram (Env.P (Qm κ))) 161 2=ad (Pg.toProgram (Env.P (Qm κ))) 161 2/\∃(a:List AV×Int×List (Value×AV)),sp 19 [(0,AV.ah 9
 l),(1,AV.bm 183 [AV.ptr 1 0 [] 0]),(7,AV.int (↑(l.length):Int)),(8,AV.int 0)] [b 9 4 es,Obj.box 178 (AV.mp 0)]=sp 19 [(0,AV.ah 9 a.1),
 (1,AV.bm 183 [AV.ptr 1 0 [] 0]),(7,AV.int (↑(a.1.length):Int)),(8,AV.int a.2.1)] [b 9 4 a.2.2,Obj.box 178 (AV.mp 0)]/\(a.1.length<=
 9223372036854775807/\(0:Int)<=a.2.1/\a.2.1<=(↑(a.1.length):Int))/\aq (fZ a.2.2 (List.drop a.2.1.toNat a.1)) (K (AV.bool true) [b 9 4
 a.2.2]) (∀(y:Int),(0:Int)<=y->K (AV.lit (Value.bool !decide (y>=(0:Int)))) [b 9 4 a.2.2])):=by kernel_rfl
def NR(a:List AV×List (Value×AV)):Out (AV×List Dn.Obj):= .one (.bool (fZ a.2 a.1),[.map 9 4 a.2])
theorem c30 κ:bc (LQ κ) 12 154 (aO Sa bq NR):=by
 refine aR ?_;rintro⟨l,a⟩ K b c;refine Eq.mpr (y30 κ l a K) ?_;refine⟨rfl,(l,0,a),rfl,⟨b,by simp only;omega,by simp⟩,?_⟩
 grind [NR,Out.run,ae]
noncomputable def Qn κ:=(LQ κ).aw 154 (aO Sa bq NR)
theorem e30 κ:aE (Qn κ):=(aj5 _).aw (Zj _) (c30 _)
theorem m30 κ:aj (Qn κ):=(Zj _).aw aI
theorem x62 κ l i vs I n K:(vc (Qn κ) 12 200 none 0 (ad (Pr κ).toProgram 200 3) (sp 23 [(3, .ak 0 0 vs.length),(7, .ah 38 l),(8, .int l.length),(9, .int i)] [.row 9 (strs vs)]) (bj (Qn κ) 200 3 0 I n K))=(
 letI a:=AV.int
 letI b:=nth l i.toNat
 letI c:=IntKind.wrap IntKind.i64 (i+(1:Int))
 letI d:=i<(↑(l.length):Int)
 aq (decide d) (aV (decide ((0:Int)<=i)&&decide d) (aq (decide (toInt (ag b 0)>=(5:Int))) (∃(e1:List AV),letI e:=List.drop 0 (strs (ax (aa e1)));letI f:=List.length (ax (aa e1));letI g:=List.take f e;([AV.ah 38 [AV.agg [a (toInt (ag b 0)),AV.str (toStr (ag b 1)),a (toInt (ag b 2)),AV.ah 38 (af (ag b 3))]]],aL)=([AV.ah 38 e1],aL)/\bE e1/\aV (decide ((vs.length+List.length g+1)*17<=70368744177664)) (∃(e0:Nat),e0<n/\I e0 (sp 23 [(3,AV.ak 0 0 (vs.length+List.length g)),(7,AV.ah 38 l),(8,a (↑(l.length):Int)),(9,a c)] [Obj.row 9 (List.take vs.length (strs vs)++List.take f e)]))) (∃(e0:Nat),e0<n/\I e0 (sp 23 [(3,AV.ak 0 0 vs.length),(7,AV.ah 38 l),(8,a (↑(l.length):Int)),(9,a c)] [Obj.row 9 (strs vs)])))) (K (Exit.exit 0) (sp 23 [(3,AV.ak 0 0 vs.length)] [Obj.row 9 (strs vs)]))):=by kernel_rfl
abbrev PA(a:List _×Int×List _):=sp 23 [(3, .ak 0 0 a.2.2.length),(7, .ah 38 a.1),(8, .int a.1.length),(9, .int a.2.1)] [.row 9 (strs a.2.2)]
def IM(a:List _×Int×List ByteArray):=a.1.length<=aW/\0<=a.2.1/\a.2.1<=a.1.length/\a.2.2.length+bk (aa (a.1.drop a.2.1.toNat))<=100000
def xp(a:List AV×Int×List ByteArray):Out (Exit×S):= .one (.exit 0,sp 23 [(3, .ak 0 0 (a.2.2++dN (aa (a.1.drop a.2.1.toNat))).length)] [.row 9 (strs (a.2.2++dN (aa (a.1.drop a.2.1.toNat))))])
theorem l62 κ:aU (Qn κ) 12 200 3 (aG 0 PA IM xp):=by
 refine aC (fun a=>a.1.length - a.2.1.toNat) ?_;rintro⟨l,i,e⟩ K ⟨c,h,k,m⟩ b;simp only at c h k m;rw[show(Qn κ).P=Pr κ from rfl];refine Eq.mpr (x62 κ l i e _ _ K) ?_;simp only[as4,cQ];simp only[aW] at c;simp only[ae,ai,ar4,ar6,ar5];refine⟨fun j=>⟨⟨h,j⟩,?_⟩,fun j=>?_⟩
 ·have g:=Ou l i.toNat (by omega)
  have p:bk (aa (l.drop i.toNat))=bk [cI (nth l i.toNat)]+bk (aa (l.drop (i.toNat+1))):=by
   rw[eT l i.toNat (by omega)];simp only[bk,Nat.add_zero]
  have o:=cK [cI (nth l i.toNat)];have f:aa [.agg [.int (toInt (ag (nth l i.toNat) 0)), .lit (.string (toStr (ag (nth l i.toNat) 1))), .int (toInt (ag (nth l i.toNat) 2)), .ah 38 (af (ag (nth l i.toNat) 3))]]=[cI (nth l i.toNat)]:=by
   simp only[aa,at3,List.map_nil];rw[sf,←de]
  rw[az (n:=i+1) (by omega) (by omega)];refine⟨fun d=>⟨_,rfl,?_,?_,_,?_,(l,i+1,e++ax [cI (nth l i.toNat)]),?_,⟨by simpa[aW] using c,by simp only;omega,by simp only;omega,?_⟩,rfl,?_⟩,fun d=>⟨_,?_,(l,i+1,e),rfl,⟨by simpa[aW] using c,by simp only;omega,by simp only;omega,?_⟩,rfl,?_⟩⟩
  ·simp only[bE,f];omega
  ·rw[f,ba];omega
  ·simp only;omega
  ·rw[f];simp only[PA,jq,ba,as9]
  ·simp only[show(i+1).toNat=i.toNat+1 by omega,as9];omega
  ·simp only[xp,Out.run,show(i+1).toNat=i.toNat+1 by omega] at b⊢
   rw[g,as0 (show 5<=toInt (ag (nth l i.toNat) 0) from d)] at b;simpa[List.append_assoc] using b
  ·simp only;omega
  ·simp only[show(i+1).toNat=i.toNat+1 by omega];omega
  ·simp only[xp,Out.run,show(i+1).toNat=i.toNat+1 by omega] at b⊢
   rw[g,ar8 (show ¬ 5<=toInt (ag (nth l i.toNat) 0) from d)] at b;simpa[List.append_assoc] using b
 ·simp only[xp,Out.run] at b
  rw[as2 (by omega)] at b;simpa[aa,dN] using b
noncomputable def L2 κ:=(Qn κ).an 200 3 (aG 0 PA IM xp)
theorem ak8 κ:aE (L2 κ):=(e30 _).an (m30 _) (l62 _)
theorem Zu κ:aj (L2 κ):=(m30 _).an aJ
theorem y62 κ s l K:(a0 (L2 κ) 12 200 [.agg [.lit (.string s), .ah 38 l]] [] K)=(
 ad (Pg.toProgram (Env.P (Qn κ))) 200 3=ad (Pg.toProgram (Env.P (Qn κ))) 200 3/\∃(a:List AV×Int×List ByteArray),letI b:=aa (List.drop a.2.1.toNat a.1);sp 23 [(3,AV.ak 0 0 0),(7,AV.ah 38 l),(8,AV.int (↑(l.length):Int)),(9,AV.int 0)] [Obj.row 9 []]=sp 23 [(3,AV.ak 0 0 (List.length a.2.2)),(7,AV.ah 38 a.1),(8,AV.int (↑(a.1.length):Int)),(9,AV.int a.2.1)] [Obj.row 9 (strs a.2.2)]/\(a.1.length<=9223372036854775807/\(0:Int)<=a.2.1/\a.2.1<=(↑(a.1.length):Int)/\List.length a.2.2+bk b<=100000)/\K (AV.ak 0 0 (List.length (a.2.2++dN b))) [Obj.row 9 (strs (a.2.2++dN b))]):=by kernel_rfl
def ac7(a:ByteArray×List AV):List AV×List Dn.Obj:=([.agg [.lit (.string a.1), .ah 38 a.2]],[])
def kb(a:ByteArray×List _):=bk (aa a.2)<=100000
def Tq(a:ByteArray×List AV):Out (AV×List Dn.Obj):= .one (.ak 0 0 (dN (aa a.2)).length,[.row 9 (strs (dN (aa a.2)))])
theorem c62 κ:bc (L2 κ) 12 200 (aO ac7 kb Tq):=by
 refine aR ?_;rintro⟨s,l⟩ K a b;simp only[kb] at a;refine Eq.mpr (y62 κ s l K) ?_;have:=gI (aa l)
 rw[eD] at this;refine⟨rfl,(l,0,[]),rfl,⟨by simp only;omega,by simp,by simp only;omega,?_⟩,?_⟩
 ·grind
 ·exact b
noncomputable def XT κ:=(L2 κ).aw 200 (aO ac7 kb Tq)
theorem e62 κ:aE (XT κ):=(ak8 _).aw (Zu _) (c62 _)
theorem m62 κ:aj (XT κ):=(Zu _).aw aI
structure LA where
 op:Int
 s:ByteArray
 l:List AV
 o1:Int
 s1:ByteArray
 n1:Int
 l1:List AV
 o2:Int
 s2:ByteArray
 n2:Int
 l2:List AV
abbrev LA.av(a:LA):AV:= .agg [.int a.op, .agg [.lit (.string a.s), .ah 38 a.l], .agg [.int a.o1, .lit (.string a.s1), .int a.n1, .ah 38 a.l1], .agg [.int a.o2, .lit (.string a.s2), .int a.n2, .ah 38 a.l2]]
theorem y21 κ(a:LA) K:(a0 (XT κ) 12 137 [a.av] [] K)=(
 K (AV.bool (decide (a.op>=(7:Int)))) []):=by kernel_rfl
def g21:List AV->Option (Bool×AV)
 |[.agg [.lit (.int .i64 a), .agg [.lit (.string _), .ah 38 _], .agg [.lit (.int .i64 _), .lit (.string _), .lit (.int .i64 _), .ah 38 _], .agg [.lit (.int .i64 _), .lit (.string _), .lit (.int .i64 _), .ah 38 _]]]=>some (true, .bool (decide (7<=a)))
 |_=>none
theorem p21 κ:cd (XT κ) 12 137 g21:=by
 intro b x a;unfold g21 at a;split at a
 ·rename_i d s l e s1 f g h s2 i c
  simp only[ar7,as3,true_and] at a;subst a;exact⟨_,rfl,rfl,Eq.mpr (y21 κ ⟨d,s,l,e,s1,f,g,h,s2,i,c⟩ _) rfl⟩
 ·cases a
noncomputable def XO κ:=(XT κ).aK 137 g21
theorem e21 κ:aE (XO κ):=(e62 _).aK (m62 _) (p21 _)
theorem m21 κ:aj (XO κ):=(m62 _).aK
theorem y40 κ(a:LA) K:(a0 (XO κ) 12 160 [a.av] [] K)=(
 letI b:=AV.ah
 letI c:=∃(e1:List AV),letI d:=ax (aa e1);([b 38 [AV.agg [AV.int a.o1,AV.str a.s1,AV.int a.n1,b 38 a.l1],AV.agg [AV.int a.o2,AV.str a.s2,AV.int a.n2,b 38 a.l2]]],aL)=([b 38 e1],aL)/\bE e1/\∃(e0:List AV),letI e:=List.drop 0 (strs (ax (aa e0)));letI f:=List.length (ax (aa e0));letI g:=List.take f e;([b 38 a.l],aL)=([b 38 e0],aL)/\bE e0/\aV (decide ((List.length d+List.length g+1)*17<=70368744177664)) (K (AV.ak 0 0 (List.length d+List.length g)) [Obj.row 9 (List.take (List.length d) (strs d)++List.take f e)])
 (c/\c/\c/\c)/\(c/\c/\c)/\(c/\c)/\c):=by kernel_rfl
def LA.lt(a:LA):Lt:=⟨a.op,⟨a.s,aa a.l⟩, .mk a.o1 a.s1 a.n1 (aa a.l1), .mk a.o2 a.s2 a.n2 (aa a.l2)⟩
def ac3(a:LA):List AV×List Dn.Obj:=([a.av],[])
def gp(a:LA):Prop:=jS a.lt<=100000
def NT(a:LA):Out (AV×List Dn.Obj):= .one (.ak 0 0 (er a.lt).length,[.row 9 (strs (er a.lt))])
theorem c40 κ:bc (XO κ) 12 160 (aO ac3 gp NT):=by
 refine aR ?_;rintro a K c e;refine Eq.mpr (y40 κ a K) ?_;simp only[and_self];simp only[gp,jS,LA.lt] at c;have b:aa [.agg [.int a.o1, .lit (.string a.s1), .int a.n1, .ah 38 a.l1], .agg [.int a.o2, .lit (.string a.s2), .int a.n2, .ah 38 a.l2]]=[.mk a.o1 a.s1 a.n1 (aa a.l1), .mk a.o2 a.s2 a.n2 (aa a.l2)]:=by
  simp only[aa,at3,List.map_nil];rw[sf,sf];rfl
 have f:=cK (aa a.l);have d:=cK [.mk a.o1 a.s1 a.n1 (aa a.l1), .mk a.o2 a.s2 a.n2 (aa a.l2)];refine⟨_,rfl,?_,_,rfl,?_,?_⟩
 ·simp only[bE,b];omega
 ·simp only[bE];omega
 ·simp only[as4,cQ,b,ba]
  rw[ai,ar4]
  grind [NT,Out.run,er,LA.lt,jq,List.length_append]
noncomputable def XQ κ:=(XO κ).aw 160 (aO ac3 gp NT)
theorem e40 κ:aE (XQ κ):=(e21 _).aw (m21 _) (c40 _)
theorem m40 κ:aj (XQ κ):=(m21 _).aw aI
structure TA where
 o1:Int
 s1:ByteArray
 n1:Int
 l1:List AV
 o2:Int
 s2:ByteArray
 n2:Int
 l2:List AV
 es:List (Value×AV)
theorem y20 κ(a:TA) K:(a0 (XQ κ) 12 136 [.mp 0, .agg [.int a.o1, .lit (.string a.s1), .int a.n1, .ah 38 a.l1], .agg [.int a.o2, .lit (.string a.s2), .int a.n2, .ah 38 a.l2]] [.map 9 4 a.es] K)=(
 letI b:=Dn.Obj.map
 letI c:=K (AV.bool false) [b 9 4 a.es]
 aq (a.o1==(1:Int)) (aq (!Dn.toBool (c6 a.es (Value.string a.s1) (AV.bool false))) (∃(e1:List AV),([AV.ah 38 [AV.agg [AV.int a.o2,AV.str a.s2,AV.int
 a.n2,AV.ah 38 a.l2]]],aL)=([AV.ah 38 e1],aL)/\bE e1/\∃(e0:List AV×List (Value×AV)),([AV.mp 0,AV.ah 9 (List.take (List.length (ax (aa e1)))
 (List.drop 0 (strs (ax (aa e1)))))],[b 9 4 a.es])=([AV.mp 0,AV.ah 9 e0.1],[b 9 4 e0.2])/\bq e0/\K (AV.bool (fZ e0.2 e0.1)) [b
 9 4 e0.2]) c) c):=by kernel_rfl
def TA.x(a:TA):Tm:= .mk a.o1 a.s1 a.n1 (aa a.l1)
def TA.y(a:TA):Tm:= .mk a.o2 a.s2 a.n2 (aa a.l2)
def ac1(a:TA):List AV×List Dn.Obj:=([.mp 0, .agg [.int a.o1, .lit (.string a.s1), .int a.n1, .ah 38 a.l1], .agg [.int a.o2, .lit (.string a.s2), .int a.n2, .ah 38 a.l2]],[.map 9 4 a.es])
def jn(a:TA):=bk [a.y]<=100000
def Tj(a:TA):Out (AV×List Dn.Obj):= .one (.bool (lY a.es a.x a.y),[.map 9 4 a.es])
theorem c20 κ:bc (XQ κ) 12 136 (aO ac1 jn Tj):=by
 refine aR ?_;rintro a K d i;refine Eq.mpr (y20 κ a K) ?_;have e:aa [.agg [.int a.o2, .lit (.string a.s2), .int a.n2, .ah 38 a.l2]]=[a.y]:=by
  simp only[aa,at3,List.map_nil];rw[sf];rfl
 have h:=cK [a.y];have b:K (.bool (decide (a.o1=1)&&(!yq a.es a.s1&&fZ a.es (strs (ax [a.y]))))) [.map 9 4 a.es]:=i;simp only[jn] at d;simp only[ae,beq_iff_eq,beq_eq_false_iff_ne,Bool.not_eq_true',as6];refine⟨fun f=>⟨fun g=>?_,fun g=>?_⟩,fun f=>?_⟩
 ·have c:yq a.es a.s1=false:=g
  rw[as0 f,c] at b;refine⟨_,rfl,by simp only[bE,e];exact d,(strs (ax [a.y]),a.es),?_,?_,b⟩
  ·simp only[as4,cQ,e]
  ·simp only[bq,ba,aW];omega
 ·grind [yq,decide_eq_true]
 grind
noncomputable def E20 κ:=(XQ κ).aw 136 (aO ac1 jn Tj)
theorem e20 κ:aE (E20 κ):=(e40 _).aw (m40 _) (c20 _)
theorem m20 κ:aj (E20 κ):=(m40 _).aw aI
end Go.Proofs.YtioeffnadipbaaaGreatDoor
