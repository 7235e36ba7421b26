import Derived.Test.YtioeffnadipbaaaGreatDoorDoI
namespace Go.Rl
open Go Go.Dn
inductive Tm where
 |mk (op:Int) (s:ByteArray) (n:Int) (l:List Tm)
def Tm.op:Tm->Int| .mk o _ _ _=>o
def Tm.s:Tm->ByteArray| .mk _ s _ _=>s
def Tm.n:Tm->Int| .mk _ _ n _=>n
def Tm.l:Tm->List Tm| .mk _ _ _ l=>l
theorem PI a k:SizeOf.sizeOf (af a k)<SizeOf.sizeOf a\/af a k= .cC:=by
 cases a with
 | agg l=>
  simp only[af];have: ∀l k,SizeOf.sizeOf (nth l k)<SizeOf.sizeOf l\/nth l k= .cC:=by
   intro l;induction l with
   |nil=>intro k;exact .inr rfl
   |cons a l b=>
    intro k;cases k<;>grind [nth]
  grind
 |_=>exact .inr rfl
theorem Px{a x}(h:x∈ag a):SizeOf.sizeOf x<SizeOf.sizeOf a:=by
 cases a with
 |ah T l=>
  have:=List.sizeOf_lt_of_mem (show x∈l from h)
  grind
 |_=>grind [ag]
theorem rM{a x k}(h:x∈ag (af a k)):SizeOf.sizeOf x<SizeOf.sizeOf a:=by
 rcases PI a k with b|b
 ·have:=Px h;omega
 grind [ag]
def cH(a:AV):Tm:= .mk (toInt (af a 0)) (toStr (af a 1)) (toInt (af a 2)) ((ag (af a 3)).attach.map fun x=>cH x.1)
termination_by SizeOf.sizeOf a
decreasing_by exact rM x.2
def aa(l:List AV):List Tm:=l.map cH
theorem dc a:cH a= .mk (toInt (af a 0)) (toStr (af a 1)) (toInt (af a 2)) (aa (ag (af a 3))):=by
 rw[cH]
 simp_all[aa]
theorem rK a s n T l:cH (.agg [.lit (.int .i64 a), .lit (.string s), .lit (.int .i64 n), .ah T l])= .mk a s n (aa l):=by
 rw[dc];rfl
structure At where
 rel:ByteArray
 l:List Tm
def Nm(a:AV):At:=⟨toStr (af a 0),aa (ag (af a 1))⟩
structure Lt where
 op:Int
 a:At
 x:Tm
 y:Tm
def cZ(a:AV):Lt:=⟨toInt (af a 0),Nm (af a 1),cH (af a 2),cH (af a 3)⟩
structure Rl where
 head:At
 body:List Lt
def dv(l:List AV):List Lt:=l.map cZ
def xJ(a:AV):Rl:=⟨Nm (af a 0),dv (ag (af a 1))⟩
def letter(c:Int):=decide (97<=c)&&decide (c<=122)||decide (65<=c)&&decide (c<=90)||decide (c=95)
theorem y2 s p:1<=(Utf8.decode s p).2:=by
 grind [Utf8.decode]
def nameAt(s:ByteArray)(p:Nat):Bool:=
 if h:p<s.size then
  (letter (Utf8.decode s p).1||(!(decide ((p:Int)=0)||decide (((Utf8.decode s p).1:Int)<48)||decide ((57:Int)<(Utf8.decode s p).1))))&&nameAt s (p+(Utf8.decode s p).2)
 else true
termination_by s.size - p
decreasing_by have:=y2 s p;omega
def o8(a b:ByteArray):=a.toList==b.toList
def isName s:=!(o8 s (ByteArray.mk #[])||o8 s (ByteArray.mk #[95])||decide ((40:Int)<s.size))&&nameAt s 0
def mA(a:Int):=decide (a=5)||decide (a=6)||decide (a=7)
def bare(a:Int) s(n:Int):=
 bif decide (a=1) then isName s&&decide (n=0)
 else bif decide (a=2) then o8 s (ByteArray.mk #[])
 else bif decide (a=3) then decide (n=0)
 else bif decide (a=4)||decide (a=0) then o8 s (ByteArray.mk #[])&&decide (n=0)
 else false
def ar:Nat->Tm->Bool
 |0,_=>false
 |h+1,t=>
  bif decide (t.op=0) then false
  else bif mA t.op then o8 t.s (ByteArray.mk #[])&&decide (t.n=0)&&decide (t.l.length=2)&&t.l.all fun x=>!(decide (x.op=3)||decide (x.op=4))&&ar h x
  else bare t.op t.s t.n&&decide (t.l.length=0)
def l4 h(l:List _):=l.all fun x=>!(decide (x.op=3)||decide (x.op=4))&&ar h x
theorem eE l:(aa l).length=l.length:=by simp[aa]
theorem tH h a s n l:ar (h+1) (.mk a s n l)=bif decide (a=0) then false
  else bif mA a then o8 s (ByteArray.mk #[])&&decide (n=0)&&decide (l.length=2)&&l4 h l
  else bare a s n&&decide (l.length=0):=rfl
theorem aV: ∀l i h,nth l i=l[i]
 |[],_,h=>by grind
 |_::_,0,_=>rfl
 |_::l,i+1,h=>by simpa[nth] using aV l i _
theorem eL l i(h:i<l.length):aa (l.drop i)=cH (nth l i)::aa (l.drop (i+1)):=by
 rw[ap0 h,aV l i h];rfl
def aW:Nat:=9223372036854775807
theorem az{n}(a: -9223372036854775808<=n)(b:n<=9223372036854775807):IntKind.wrap .i64 n=n:=by
 grind [IntKind.wrap,IntKind.bits,IntKind.signed]
def bm(a:At):=isName a.rel&& !decide (a.l.length=0)&&decide (a.l.length<=8)&&a.l.all (ar 20)
def Lo(t:Tm):=decide (t.op=0)&&bare t.op t.s t.n&&decide (t.l.length=0)
def UA(a:At):=o8 a.rel (ByteArray.mk #[])&&decide (a.l.length=0)
def VT(t:Tm):=decide (t.op=1)||decide (t.op=2)
theorem V2(o:Int) s n l:Lo (.mk o s n (aa l))=(decide (o=0)&&bare o s n&&decide ((l.length:Int)=0)):=by
 grind [Lo,Tm.op,Tm.s,Tm.n,Tm.l,eE]
theorem UN s l:UA ⟨s,aa l⟩=(o8 s (ByteArray.mk #[])&&decide ((l.length:Int)=0)):=by
 grind [UA,eE]
def jq(l:Lt):=
 bif decide (l.op=1)||decide (l.op=2) then bm l.a&&(Lo l.x&&Lo l.y)
 else bif decide (l.op=3)||decide (l.op=4)||decide (l.op=5)||decide (l.op=6) then UA l.a&& !decide (l.x.op=4)&& !decide (l.y.op=4)&&ar 20 l.x&&ar 20 l.y
 else bif decide (l.op=7) then bm l.a&&(VT l.x&&Lo l.y)&&ar 20 l.x
 else bif decide (l.op=8)||decide (l.op=9)||decide (l.op=10) then bm l.a&&(VT l.x&&decide (l.y.op=1))&&ar 20 l.x&&ar 20 l.y
 else false
theorem KD b a c s1 d e f s2 g h:jq ⟨b,a, .mk c s1 d e, .mk f s2 g h⟩=
 bif decide (b=1)||decide (b=2) then bm a&&(Lo (.mk c s1 d e)&&Lo (.mk f s2 g h))
 else bif decide (b=3)||decide (b=4)||decide (b=5)||decide (b=6) then UA a&& !decide (c=4)&& !decide (f=4)&&ar 20 (.mk c s1 d e)&&ar 20 (.mk f s2 g h)
 else bif decide (b=7) then bm a&&(VT (.mk c s1 d e)&&Lo (.mk f s2 g h))&&ar 20 (.mk c s1 d e)
 else bif decide (b=8)||decide (b=9)||decide (b=10) then bm a&&(VT (.mk c s1 d e)&&decide (f=1))&&ar 20 (.mk c s1 d e)&&ar 20 (.mk f s2 g h)
 else false:=rfl
def sF n(t:Tm):=!decide (t.op=4)&& !mA t.op&&(!decide (t.op=1)||decide (0<n))
def ba(r:Rl):=bm r.head&&decide (r.body.length<=20)&&r.head.l.all (sF r.body.length)&&r.body.all jq
def tr(r:Rl):=bm r.head::decide (r.body.length<=20)::(r.head.l.map (sF r.body.length)++r.body.map jq)
theorem Fm r:ba r=(tr r).all id:=by
 simp[ba,tr,Bool.and_assoc]
theorem lt_eq a:cZ a=⟨toInt (af a 0),⟨toStr (af (af a 1) 0),aa (ag (af (af a 1) 1))⟩, .mk (toInt (af (af a 2) 0)) (toStr (af (af a 2) 1)) (toInt (af (af a 2) 2)) (aa (ag (af (af a 2) 3))),
  .mk (toInt (af (af a 3) 0)) (toStr (af (af a 3) 1)) (toInt (af (af a 3) 2)) (aa (ag (af (af a 3) 3)))⟩:=by
 rw[←dc,←dc];rfl
theorem nY l i(h:i<l.length):dv (l.drop i)=cZ (nth l i)::dv (l.drop (i+1)):=by
 rw[ap0 h,aV l i h];rfl
theorem AE l:(dv l).length=l.length:=by simp[dv]
mutual
def Tm.vars:Tm->List ByteArray
 | .mk op s _ l=>(bif decide (op=1) then[s] else[])++ax l
def ax:List Tm->List ByteArray
 |[]=>[]
 |t::l=>t.vars++ax l
end
mutual
def Tm.mP:Tm->Nat
 | .mk _ _ _ l=>1+bk l
def bk:List Tm->Nat
 |[]=>0
 |t::l=>t.mP+bk l
end
mutual
theorem Tm.SA: ∀t:Tm,t.vars.length<=t.mP
 | .mk op s n l=>by
  have:=cF l
  simp only[Tm.vars,Tm.mP,ap4];cases decide (op=1)<;>simp<;>omega
theorem cF: ∀l:List Tm,(ax l).length<=bk l
 |[]=>by simp[ax,bk]
 |t::l=>by
  have h1:=Tm.SA t;have h2:=cF l;simp only[ax,bk,ap4];omega
end
theorem gF: ∀l,l.length<=bk l
 |[]=>by simp
 | .mk _ _ _ m::l=>by
  have:=gF l
  grind [bk,Tm.mP]
def strs(l:List ByteArray):List AV:=l.map fun s=> .lit (.string s)
theorem bd l:(strs l).length=l.length:=by simp[strs]
theorem cM l:List.take l.length (strs l)=strs l:=List.take_of_length_le (by grind [bd])
theorem jr l m:strs (l++m)=strs l++strs m:=by simp[strs]
def dO:List Tm->List ByteArray
 |[]=>[]
 |t::l=>(bif decide (5<=t.op) then ax [t] else[])++dO l
theorem DG: ∀l,(dO l).length<=bk l
 |[]=>by simp[dO]
 |t::l=>by
  have a:=DG l
  grind [cF,dO,bk]
theorem PH l i(h:i<l.length):dO (aa (l.drop i))=(bif decide (5<=toInt (af (nth l i) 0)) then ax [cH (nth l i)] else[])++dO (aa (l.drop (i+1))):=by
 rw[eL l i h];rw[dc];rfl
instance lawS:LawfulBEq ByteArray where
 eq_of_beq h:=(MapKept.bytes_beq _ _).1 h
 rfl:=(MapKept.bytes_beq _ _).2 rfl
theorem Su{a b}:o8 a b=true↔a=b:=by
 unfold o8;obtain⟨⟨a⟩⟩:=a;obtain⟨⟨b⟩⟩:=b;simp
theorem Ve a b:o8 a b=(a==b):=by
 rw[Bool.eq_iff_iff,Su,beq_iff_eq]
def fF(b:List (Value×AV)):List AV->List (Value×AV)
 |[]=>b
 |a::l=>fF (eD b (.string (toStr a)) (.lit (.bool true))) l
def yC a s:=Dn.toBool (cX a (.string s) (.lit (.bool false)))
def gg b(l:List _):=l.all fun a=>yC b (toStr a)
def bR l:=fF [] (strs l)
theorem Df: ∀a b c,fF c (a++b)=fF (fF c a) b
 |[],_,_=>rfl
 |x::a,b,c=>by exact Df a b _
theorem mo a b:fF (bR a) (strs b)=bR (a++b):=by
 grind [bR,jr,Df]
theorem zJ{s}: ∀{k},ei (.string s) k=true->k= .string s:=by
 intro k h;cases k<;>try cases h
 rw[eq_of_beq h]
theorem Hj s t: ∀a,yC (eD a (.string s) (.lit (.bool true))) t=(t==s||yC a t)
 |[]=>by
  simp only[yC,eD,cX,ei];cases t==s<;>rfl
 | (b,e)::a=>by
  have d:=Hj s t a;simp only[yC,eD,cX] at d⊢;cases h:ei _ b with
  |true=>
   have c:=zJ h;subst c;simp only[ao6,cX,ei];cases f:t==s<;>rfl
  |false=>
   simp only[ao4,cX]
   grind
theorem HR t: ∀l a,yC (fF a (strs l)) t=(yC a t||l.contains t)
 |[],a=>by simp[strs,fF]
 |s::l,a=>by
  have:=HR t l (eD a (.string s) (.lit (.bool true)))
  rw[show fF a _=fF (eD _ (.string s) _) (strs l) from rfl,this,Hj]
  grind
theorem pF l t:yC (bR l) t=l.contains t:=by
 unfold bR;rw[HR];rfl
theorem QI b s:eD (bR b) (.string s) (.lit (.bool true))=bR (b++[s]):=by
 rw[←mo];rfl
def hasB(b l:List ByteArray):=l.all fun s=>b.contains s
theorem fp b l:gg (bR b) (strs l)=hasB b l:=by
 simp[gg,strs];congr 1;funext s
 exact pF b s
def eu(l:Lt):=ax [l.x,l.y]++ax l.a.l
def jT(l:Lt):=bk [l.x,l.y]+bk l.a.l
def mh a(x y:Tm):=decide (x.op=1)&&(!yC a x.s&&gg a (strs (ax [y])))
def mc b(x y:Tm):=decide (x.op=1)&&(!b.contains x.s&&hasB b (ax [y]))
theorem pE b x y:mh (bR b) x y=mc b x y:=by
 grind [mh,mc,pF,fp]
def mY(a:List ByteArray):List ByteArray->List ByteArray
 |[]=>[]
 |s::l=>bif a.contains s then mY a l else s::mY (a++[s]) l
theorem wJ{t}: ∀{l a},t∈mY a l↔t∈l/\t∉a
 |[],a=>by simp[mY]
 | s::l,a=>by
  simp only[mY];cases h:a.contains s with
  |true=>
   rw[ao6,wJ]
   grind
  |false=>
   rw[ao4,ap7,wJ]
   grind
theorem la: ∀l a,(mY a l).length<=l.length
 |[],_=>by simp[mY]
 |s::l,a=>by
  simp only[mY];cases a.contains s with
  |true=>have:=la l a;grind
  |false=>have:=la l (a++[s]);grind
def fD(r:Rl):=ax r.head.l++r.body.flatMap eu
def de r:=bif ba r then mY [] (fD r) else[]
theorem zV{r}(h:ba r=true){s}:s∈de r↔s∈fD r:=by
 grind [de,wJ]
def af5:Lt:=⟨0,⟨ByteArray.empty,[]⟩, .mk 0 ByteArray.empty 0 [], .mk 0 ByteArray.empty 0 []⟩
def dX(l:List _) k:=l.getD k af5
def CA(k:Nat):List Lt->Nat->List ByteArray
 |[],_=>[]
 |l::b,i=>(bif Nat.beq i k then ax [l.x] else eu l)++CA k b (i+1)
def TS(r:Rl) k:=ax r.head.l++CA k r.body 0
def ep r k:=(de r).filter fun v=>(ax (dX r.body k).a.l).contains v&&(TS r k).contains v
def cI r k:=bif decide (7<=(dX r.body k).op) then ax [(dX r.body k).x]++ep r k else eu (dX r.body k)
def oQ b r k:=
 bif decide ((dX r.body k).op=1) then hasB b (dO (dX r.body k).a.l)
 else bif decide ((dX r.body k).op=3) then mc b (dX r.body k).x (dX r.body k).y||(mc b (dX r.body k).y (dX r.body k).x||hasB b (eu (dX r.body k)))
 else bif decide ((dX r.body k).op=2)||(decide ((dX r.body k).op=4)||(decide ((dX r.body k).op=5)||decide ((dX r.body k).op=6))) then hasB b (eu (dX r.body k))
 else(decide ((dX r.body k).op=7)||(ax (dX r.body k).a.l).contains (dX r.body k).y.s)&&(hasB b (ep r k)&&hasB b (dO (dX r.body k).a.l))
def fx(l:List _) k:=l.getD k false
def mx(r:Rl)(done:List Bool)(b:List ByteArray):Nat->Nat->Int->Int
 |0,_,a=>a
 |n+1,k,a=>
  bif fx done k|| !oQ b r k then mx r done b n (k+1) a
  else bif !decide ((dX r.body k).op=1) then k
  else mx r done b n (k+1) (bif decide (a<0) then(k:Int) else a)
def aF r done b:=mx r done b r.body.length 0 (-1)
def oA(r:Rl):Nat->List Bool->List ByteArray->List Nat
 |0,_,_=>[]
 |n+1,done,b=>bif decide (aF r done b<0) then[] else(aF r done b).toNat::oA r n (done.set (aF r done b).toNat true) (b++cI r (aF r done b).toNat)
def K7(r:Rl) b k:=
 decide ((dX r.body k).op=3)&&(mc b (dX r.body k).x (dX r.body k).y&&decide ((dX r.body k).y.op>=5)||mc b (dX r.body k).y (dX r.body k).x&&decide ((dX r.body k).x.op>=5))||decide (7<=(dX r.body k).op)
def LX(r:Rl):Nat->List Bool->List ByteArray->Bool
 |0,_,_=>false
 |n+1,done,b=>bif decide (aF r done b<0) then false else K7 r b (aF r done b).toNat||LX r n (done.set (aF r done b).toNat true) (b++cI r (aF r done b).toNat)
def Ok r:=LX r r.body.length (List.replicate r.body.length false) []
def cO r:=oA r r.body.length (List.replicate r.body.length false) []
def fa r(l:List _):=l.flatMap (cI r)
def jY r:=decide (r.body.length<=(cO r).length)&&hasB (fa r (cO r)) (ax r.head.l)
def EE(r:Rl):Int:=bif ba r then bif jY r then 0 else 60 else 30
def okI r done b(x:Int):=0<=x/\x.toNat<r.body.length/\fx done x.toNat=false/\oQ b r x.toNat=true
theorem x3 r done b: ∀n k a,k+n=r.body.length->a<0\/okI r done b a->
  mx r done b n k a=a/\a<0\/okI r done b (mx r done b n k a)
 |0,_,a,_,h=>by
  grind [mx]
 | n+1,k,a,g,h=>by
  have e:=fun f h=>x3 r done b n (k+1) f (by omega) h
  simp only[mx];cases c:fx done k|| !oQ b r k with
  |true=>grind
  |false=>
   simp only[Bool.or_eq_false_iff,ap1] at c;have d:okI r done b (k:Int):=⟨by omega,by simp;omega,by simpa using c.1,by simpa using c.2⟩
   grind
theorem qP r done b:aF r done b= -1\/okI r done b (aF r done b):=by
 rcases x3 r _ b r.body.length 0 (-1) (by simp) (by simp) with h|h
 ·exact .inl h.1
 ·exact .inr h
theorem mT r: ∀n done b,done.length=r.body.length->
  (∀k,k∈oA r n done b->k<r.body.length/\fx done k=false)/\(oA r n done b).Nodup/\(oA r n done b).length<=n
 |0,_,_,_=>by simp[oA]
 | n +1,done,b,hd=>by
  simp only[oA];cases h:decide (aF r done b<0) with
  |true=>simp
  | false=>
   have i:0<=aF r done b:=by simpa using h
   rcases qP r done b with e|⟨_,e,g,_⟩
   ·omega
   have d:=mT r n (done.set (aF r done b).toNat true) (b++cI r (aF r done b).toNat) (by simpa using hd);rw[ao4];refine⟨fun k c=>?_,?_,by have:=d.2.2;simp only[List.length_cons];omega⟩
   ·rcases List.mem_cons.1 c with rfl|c
    ·exact⟨e,g⟩
    ·obtain⟨f,a⟩:=d.1 k c
     refine⟨f,?_⟩;simp only[fx,List.getD_eq_getElem?_getD,List.getElem?_set] at a⊢;split at a
     ·split at a
      ·simp at a
      ·simp at a;omega
     ·exact a
   ·refine List.nodup_cons.2 ⟨fun c=>?_,d.2.1⟩
    have:=(d.1 _ c).2
    simp[fx,List.getD_eq_getElem?_getD,hd,e] at this
theorem rI{r k}(h:k∈cO r):k<r.body.length:=((mT r _ _ _ (by simp)).1 k h).1
theorem Dt r:(cO r).Nodup:=(mT r _ _ _ (by simp)).2.1
theorem Kh r:(cO r).length<=r.body.length:=(mT r _ _ _ (by simp)).2.2
def Fx r k:=(de r).filter fun v=>(fa r ((cO r).take k)).contains v
theorem tC{a b:Nat}(h:a≠b):Nat.beq a b=false:=by
 grind [Nat.eq_of_beq_eq_true]
theorem Fe r n done b:oA r (n+1) done b=
  bif decide (aF r done b<0) then[] else(aF r done b).toNat::oA r n (done.set (aF r done b).toNat true) (b++cI r (aF r done b).toNat):=rfl
theorem EK r done b n k a:mx r done b (n+1) k a=
  bif fx done k|| !oQ b r k then mx r done b n (k+1) a
  else bif !decide ((dX r.body k).op=1) then k
  else mx r done b n (k+1) (bif decide (a<0) then k else a):=rfl
def ac5(r:Rl)(l:Lt):Rl:=⟨r.head,r.body++[l]⟩
structure an7(r:Rl)(l:Lt):Prop where
 right:ba r=true
 more:ba (ac5 r l)=true
 op:l.op=1
 an8:dO l.a.l=[]
 vars: ∀s,s∈eu l->s∈fa r (cO r)
def pV(T:TypeId)(a:AV):AV:= .agg [.lit (.int .i64 (toInt (af a 0))), .lit (.string (toStr (af a 1))), .lit (.int .i64 (toInt (af a 2))), .ah T (ag (af a 3))]
def pR(T:TypeId)(a:AV):List AV:= .aJ [pV T a]::((ag (af a 3)).attach.flatMap fun x=>pR T x.1)
termination_by SizeOf.sizeOf a
decreasing_by exact rM x.2
def fH T(l:List _):=l.flatMap (pR T)
theorem Bk T a:pR T a= .aJ [pV T a]::fH T (ag (af a 3)):=by
 rw[pR]
 simp_all[fH]
theorem xW T l i(h:i<l.length):fH T (l.drop i)=pR T (nth l i)++fH T (l.drop (i+1)):=by
 rw[ap0 h,aV l i h];rfl
def s7 T(x:AV):=∃y,x= .aJ [pV T y]
theorem nk T: ∀n a,SizeOf.sizeOf a<n->∀x,x∈pR T a->s7 T x
 |0,_,h=>by omega
 | n+1,a,h=>by
  intro x b;rw[Bk,ap7] at b;rcases b with rfl|b
  ·exact⟨a,rfl⟩
  ·unfold fH at b
   rw[List.mem_flatMap] at b;obtain⟨y,d,c⟩:=b;exact nk T n y (by have:=rM d;omega) x c
theorem Ec T l: ∀x,x∈fH T l->s7 T x:=by
 intro x a;unfold fH at a;rw[List.mem_flatMap] at a;obtain⟨y,_,b⟩:=a;exact nk T _ y (Nat.lt_succ_self _) x b
def zp:AV->List ByteArray
 | .aJ [t]=>bif decide (toInt (af t 0)=1) then[toStr (af t 1)] else[]
 |_=>[]
theorem yl T: ∀n a,SizeOf.sizeOf a<n->(pR T a).flatMap zp=(cH a).vars
 |0,_,h=>by omega
 | n+1,a,h=>by
  rw[Bk,dc,Tm.vars,List.flatMap_cons];congr 1
  have: ∀m:List AV,(∀x,x∈m->SizeOf.sizeOf x<SizeOf.sizeOf a)->(fH T m).flatMap zp=ax (aa m):=by
   intro m;induction m with
   |nil=>intro _;rfl
   |cons x m d=>
    intro c;have e:=yl T n x (by have:=c x (by simp);omega)
    grind [pR,fH,zp,cH,ax,aa]
  exact this _ fun x b=>rM b
theorem uj T: ∀l,(fH T l).flatMap zp=ax (aa l)
 |[]=>rfl
 |x::l=>by
  show(pR T x++fH T l).flatMap _=(cH x).vars++ax (aa l)
  rw[List.flatMap_append,yl T _ x (Nat.lt_succ_self _),uj T l]
def bo T(c b:List _):=c++b.flatMap fun a=>[pV T (af a 2),pV T (af a 3)]++ag (af (af a 1) 1)
theorem sd T a:cH (pV T a)=cH a:=by rw[dc,dc];rfl
theorem tz: ∀l m,ax (l++m)=ax l++ax m
 |[],_=>rfl
 |t::l,m=>by simp[ax,tz l m]
theorem iJ T c d b:ax (aa (bo T d b))=fD ⟨⟨c,aa d⟩,dv b⟩:=by
 unfold bo fD aa;rw[List.map_append,tz];congr 1
 induction b with
 |nil=>rfl
 |cons a b e=>
  simp only[List.flatMap_cons,List.map_append,tz];congr 1
  simp[eu,cZ,Nm,aa,List.map_nil,sd]
theorem gR: ∀l i x,(bt l i x).length=l.length
 |[],_,_=>rfl
 |_::_,0,_=>rfl
 |_::l,i+1,x=>by simp[bt,gR l i x]
theorem tM: ∀l i x,i<l.length->(bt l i x).take (i+1)=l.take i++[x]
 |[],_,_,h=>by grind
 |_::_,0,_,_=>rfl
 |a::l,i+1,x,h=>by
  have:=tM l i x (by grind)
  grind [bt]
theorem sU: ∀l i j x,i<j->(bt l i x).drop j=l.drop j
 |[],_,_,_,_=>rfl
 |_::_,0,j+1,_,_=>rfl
 |a::l,i+1,j+1,x,h=>by
  have:=sU l i j x (by omega)
  grind [bt]
theorem wE l i h:nth (strs l) i= .lit (.string l[i]):=by
 grind [aV,strs]
theorem jN{R j a l}(h:R.drop j=a::l):j<R.length/\nth R j=a/\R.drop (j+1)=l:=by
 grind [List.drop_eq_nil_of_le,List.drop_eq_getElem_cons,aV]
def xK(a:ByteArray->Bool)(b:List _)(j:Int):=0<=j/\∃h,(∀s,s∈b.take j.toNat->a s=true)/\a b[j.toNat]=false
theorem ss{a b j}(h:xK a b j):b.filter a=b.take j.toNat++(b.drop (j.toNat+1)).filter a:=by
 obtain⟨_,c,e,d⟩:=h
 conv=>lhs;rw[←List.take_append_drop j.toNat b]
 rw[List.filter_append,ap0 c,List.filter_cons]
 simp_all
theorem pb: ∀R lo n z,(db R lo n z).take lo=R.take lo
 |[],_,_,_=>rfl
 |_::_,0,_,_=>by rfl
 |a::R,lo+1,n,z=>by simp[db,pb R _ n z]
def fM(s:ByteArray):List AV->Int->Int
 |[],_=> -1
 |a::l,i=>bif o8 s (toStr a) then i else fM s l (i+1)
theorem zY s: ∀l i,0<=i->decide (fM s (strs l) i>=0)=l.contains s
 |[],i,_=>rfl
 |a::l,i,h=>by
  have b:=zY s l (i+1) (by omega);show decide ((bif o8 s a then i else fM s (strs l) _)>=0)=_
  grind [Ve]
mutual
def Tm.size:Tm->Int->Int
 | .mk _ s _ l,left=>bif decide ((1000:Int)<s.size) then -1 else jg l (left - 1)
def jg:List Tm->Int->Int
 |[],left=>left
 |t::l,left=>bif decide (0<=left) then jg l (t.size left) else left
end
def du(a:At) b:=bif decide ((1000:Int)<a.rel.size) then -1 else jg a.l b
def sizeLt(l:Lt) b:=
 bif decide (0<=du l.a (b - 1)) then bif decide (0<=l.x.size (du l.a (b - 1))) then l.y.size (l.x.size (du l.a (b - 1))) else l.x.size (du l.a (b - 1)) else du l.a (b - 1)
def lR:List Lt->Int->Int
 |[],a=>a
 |l::b,a=>bif decide (0<=a) then lR b (sizeLt l a) else a
def nN(r:Rl) a:=lR r.body (du r.head (a - 1))
def nL:List Rl->Int->Int
 |[],a=>a
 |r::l,a=>bif decide (0<=a) then nL l (nN r a) else a
mutual
theorem Tm.size_le: ∀(t:Tm) (left:Int),0<=left-> -1<=t.size left/\t.size left<left\/t.size left= -1
 | .mk _ s _ l,left,h=>by
  unfold Tm.size;cases decide ((1000:Int)<s.size) with
  |true=>exact .inr rfl
  | false=>
   rw[ao4];by_cases h1:0<=left - 1
   ·have:=oY l (left - 1) (by omega)
    omega
   ·have:=oY l (left - 1) (by omega)
    omega
theorem oY: ∀(l:List Tm) (left:Int), -1<=left-> -1<=jg l left/\jg l left<=left
 |[],left,h=>by unfold jg;omega
 | t::l,left,h=>by
  unfold jg;by_cases h1:0<=left
  ·rw[ao5 h1,ao6]
   have h2:=Tm.size_le t left h1;have h3:=oY l (t.size left) (by omega);omega
  ·rw[ao3 h1,ao4];omega
end
theorem oW a b(h: -1<=b): -1<=du a b/\(du a b<=b\/du a b= -1):=by
 unfold du;cases decide ((1000:Int)<a.rel.size)<;>simp_all[oY]
theorem tu l b(h:0<=b): -1<=sizeLt l b/\sizeLt l b<b:=by
 unfold sizeLt;have e:=oW l.a (b - 1) (by omega);by_cases c:0<=du l.a (b - 1)
 ·rw[ao5 c,ao6]
  have f:=Tm.size_le l.x _ c;by_cases d:0<=l.x.size (du l.a (b - 1))
  ·rw[ao5 d,ao6]
   have g:=Tm.size_le l.y _ d;omega
  grind
 grind
theorem DY: ∀b a, -1<=a-> -1<=lR b a/\lR b a<=a
 |[],a,h=>by grind [lR]
 | l::b,a,h=>by
  unfold lR;by_cases c:0<=a
  ·rw[ao5 c,ao6]
   have e:=tu l _ c;have d:=DY b (sizeLt l a) (by omega);omega
  grind
theorem wO r a(h:0<=a): -1<=nN r a/\nN r a<a:=by
 unfold nN;have c:=oW r.head (a - 1) (by omega);have b:=DY r.body (du r.head (a - 1)) (by omega);omega
theorem Du: ∀l a, -1<=a-> -1<=nL l a/\nL l a<=a
 |[],a,h=>by grind [nL]
 | r::b,a,h=>by
  unfold nL;by_cases c:0<=a
  ·rw[ao5 c,ao6]
   have e:=wO r _ c;have d:=Du b (nN r a) (by omega);omega
  grind
mutual
theorem Tm.vV: ∀(t:Tm) (left:Int),0<=t.size left->t.mP+t.size left<=left
 | .mk _ s _ l,left,h=>by
  unfold Tm.size at h⊢;cases e:decide ((1000:Int)<s.size) with
  |true=>rw[e] at h;simp at h
  |false=>
   rw[e,ao4] at h;rw[ao4,Tm.mP];have:=td l (left - 1) h
   omega
theorem td: ∀(l:List Tm) (left:Int),0<=jg l left->bk l+jg l left<=left
 |[],left,h=>by unfold jg bk;omega
 | t::l,left,h=>by
  unfold jg at h⊢;by_cases h1:0<=left
  ·rw[ao5 h1,ao6] at h⊢
   have h3:=td l (t.size left) h;have h4:0<=t.size left:=by
    have h2:=Tm.size_le t left h1;have:=oY l (t.size left) (by omega)
    omega
   have h2:=Tm.vV t left h4;unfold bk;omega
  ·rw[ao3 h1,ao4] at h;omega
end
theorem zw a b(h:0<=du a b):bk a.l+du a b<=b:=by
 unfold du at h⊢;cases e:decide ((1000:Int)<a.rel.size)<;>simp_all[td]
theorem FL l b(g:0<=b)(h:0<=sizeLt l b):1+jT l+sizeLt l b<=b:=by
 unfold sizeLt at h⊢;by_cases c:0<=du l.a (b - 1)
 ·rw[ao5 c,ao6] at h⊢
  have f:=zw l.a (b - 1) c;by_cases d:0<=l.x.size (du l.a (b - 1))
  ·rw[ao5 d,ao6] at h⊢
   have i:=Tm.vV l.x _ d;have e:=Tm.vV l.y _ h
   grind [jT,bk]
  grind
 grind
theorem y6: ∀b a, -1<=a->0<=lR b a->b.length+(b.map jT).sum+lR b a<=a
 |[],a,_,h=>by unfold lR;simp
 | l::b,a,d,h=>by
  unfold lR at h⊢;by_cases c:0<=a
  ·rw[ao5 c,ao6] at h⊢
   have f:=tu l a c;have g:=y6 b _ (by omega) h;have e:=FL l a c (by omega)
   grind
  grind
def zu(r:Rl):=bk r.head.l+(r.body.map jT).sum
theorem Jt r a(c:0<=a)(h:0<=nN r a):zu r+r.body.length+1+nN r a<=a:=by
 unfold nN at h⊢;have d:=oW r.head (a - 1) (by omega);have e:=y6 _ _ (by omega) h;have b:=zw r.head (a - 1) (by omega)
 grind [zu]
theorem zK: ∀l a, -1<=a->0<=nL l a->∀r,r∈l->(zu r+r.body.length:Nat)<=a
 |[],_,_,_,r,b=>by simp at b
 | d::l,a,f,h,r,b=>by
  unfold nL at h;by_cases c:0<=a
  ·rw[ao5 c,ao6] at h
   have g:=wO d a c;have e:=Du l (nN d a) (by omega);rcases List.mem_cons.1 b with rfl|b
   ·have:=Jt r a c (by omega)
    omega
   ·have:=zK l _ (by omega) h r b
    omega
  grind
theorem EP T d f c:bk (aa (bo T f c))=zu ⟨⟨d,aa f⟩,dv c⟩:=by
 have b: ∀l m,bk (l++m)=bk l+bk m:=by
  intro l;induction l with
  |nil=>simp[bk]
  |cons t l e=>simp only[List.cons_append,bk,e];omega
 unfold bo zu aa;rw[List.map_append,b];congr 1
 induction c with
 |nil=>rfl
 |cons a c e=>
  simp only[List.flatMap_cons,List.map_append,b,dv,ap6];congr 1
  simp only[jT,cZ,Nm,aa,List.map_nil,sd]
def zh(l:List _):=l.any fun a=>decide ((1000:Int)<(toStr a).size)
def J8 a:=decide ((1000:Int)<(toStr (af a 0)).size)||zh (ag (af a 1))
def na(ds a:List _):=!ds.any J8&&(decide (0<=nL (a.map xJ) 2000)&&(decide (ds.length<=100)&&decide (a.length<=300)))
def sx:ByteArray:=ByteArray.mk #[120]
def sy:ByteArray:=ByteArray.mk #[121]
def s0:ByteArray:=ByteArray.mk #[]
def ti(n:Int):Tm:= .mk 2 s0 n []
end Go.Rl
