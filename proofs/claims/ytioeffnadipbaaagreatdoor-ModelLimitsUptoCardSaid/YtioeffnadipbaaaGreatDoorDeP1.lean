import Derived.Test.YtioeffnadipbaaaGreatDoorDoI
namespace Go.Rl
open Go Go.Dn
inductive Tm where
 |mk (op:Int) (s:ByteArray) (n:Int) (l:List Tm)
def Tm.op:Tm->Int| .mk o _ _ _=>o
def Tm.s:Tm->ByteArray| .mk _ s _ _=>s
def Tm.n:Tm->Int| .mk _ _ n _=>n
def Tm.l:Tm->List Tm| .mk _ _ _ l=>l
theorem Oy a k:SizeOf.sizeOf (af a k)<SizeOf.sizeOf a\/af a k= .cB:=by
 cases a with
 | agg l=>
  simp only[af];have: ∀l k,SizeOf.sizeOf (nth l k)<SizeOf.sizeOf l\/nth l k= .cB:=by
   intro l;induction l with
   |nil=>intro k;exact .inr rfl
   |cons a l ih=>
    intro k;cases k<;>grind [nth]
  grind
 |_=>exact .inr rfl
theorem NA{a x}(h:x∈ag a):SizeOf.sizeOf x<SizeOf.sizeOf a:=by
 cases a with
 |ah T l=>
  have:=List.sizeOf_lt_of_mem (show x∈l from h)
  grind
 |_=>grind [ag]
theorem rO{a x k}(h:x∈ag (af a k)):SizeOf.sizeOf x<SizeOf.sizeOf a:=by
 rcases Oy a k with h1|h1
 ·have:=NA h;omega
 grind [ag]
def cE(a:AV):Tm:= .mk (toInt (af a 0)) (toStr (af a 1)) (toInt (af a 2)) ((ag (af a 3)).attach.map fun x=>cE x.1)
termination_by SizeOf.sizeOf a
decreasing_by exact rO x.2
def aa(l:List AV):List Tm:=l.map cE
theorem da a:cE a= .mk (toInt (af a 0)) (toStr (af a 1)) (toInt (af a 2)) (aa (ag (af a 3))):=by
 rw[cE]
 simp_all[aa]
theorem sc op s n T l:cE (.agg [.lit (.int .i64 op), .lit (.string s), .lit (.int .i64 n), .ah T l])= .mk op s n (aa l):=by
 rw[da];rfl
structure At where
 rel:ByteArray
 l:List Tm
def PK(a:AV):At:=⟨toStr (af a 0),aa (ag (af a 1))⟩
structure Lt where
 op:Int
 a:At
 x:Tm
 y:Tm
def cX(a:AV):Lt:=⟨toInt (af a 0),PK (af a 1),cE (af a 2),cE (af a 3)⟩
structure Rl where
 head:At
 body:List Lt
def dv(l:List AV):List Lt:=l.map cX
def wN(a:AV):Rl:=⟨PK (af a 0),dv (ag (af a 1))⟩
def letter(c:Int):=decide (97<=c)&&decide (c<=122)||decide (65<=c)&&decide (c<=90)||decide (c=95)
theorem yY s p:1<=(Utf8.decode s p).2:=by
 grind [Utf8.decode]
def nameAt(s:ByteArray)(p:Nat):Bool:=
 if _h:p<s.size then
  (letter (Utf8.decode s p).1||(!(decide ((p:Int)=0)||decide (((Utf8.decode s p).1:Int)<48)||decide ((57:Int)<(Utf8.decode s p).1))))&&nameAt s (p+(Utf8.decode s p).2)
 else true
termination_by s.size - p
decreasing_by have:=yY s p;omega
def o7(a b:ByteArray):=a.toList==b.toList
def isName s:=!(o7 s (ByteArray.mk #[])||o7 s (ByteArray.mk #[95])||decide ((40:Int)<s.size))&&nameAt s 0
def mI(op:Int):=decide (op=5)||decide (op=6)||decide (op=7)
def bare(op:Int) s(n:Int):=
 bif decide (op=1) then isName s&&decide (n=0)
 else bif decide (op=2) then o7 s (ByteArray.mk #[])
 else bif decide (op=3) then decide (n=0)
 else bif decide (op=4)||decide (op=0) then o7 s (ByteArray.mk #[])&&decide (n=0)
 else false
def ar:Nat->Tm->Bool
 |0,_=>false
 |h+1,t=>
  bif decide (t.op=0) then false
  else bif mI t.op then o7 t.s (ByteArray.mk #[])&&decide (t.n=0)&&decide (t.l.length=2)&&t.l.all fun x=>!(decide (x.op=3)||decide (x.op=4))&&ar h x
  else bare t.op t.s t.n&&decide (t.l.length=0)
def lB h(l:List _):=l.all fun x=>!(decide (x.op=3)||decide (x.op=4))&&ar h x
theorem er l:(aa l).length=l.length:=by simp[aa]
theorem tJ h op s n l:ar (h+1) (.mk op s n l)=bif decide (op=0) then false
  else bif mI op then o7 s (ByteArray.mk #[])&&decide (n=0)&&decide (l.length=2)&&lB h l
  else bare op s n&&decide (l.length=0):=rfl
theorem aX: ∀l i h,nth l i=l[i]
 |[],_,h=>by grind
 |_::_,0,_=>rfl
 |_::l,i+1,h=>by simpa[nth] using aX l i _
theorem eR l i(h:i<l.length):aa (l.drop i)=cE (nth l i)::aa (l.drop (i+1)):=by
 rw[ao3 h,aX l i h];rfl
def aU:Nat:=9223372036854775807
theorem az{n}(h0: -9223372036854775808<=n)(h1:n<=9223372036854775807):IntKind.wrap .i64 n=n:=by
 grind [IntKind.wrap,IntKind.bits,IntKind.signed]
def bk(a:At):=isName a.rel&& !decide (a.l.length=0)&&decide (a.l.length<=8)&&a.l.all (ar 20)
def Le(t:Tm):=decide (t.op=0)&&bare t.op t.s t.n&&decide (t.l.length=0)
def VM(a:At):=o7 a.rel (ByteArray.mk #[])&&decide (a.l.length=0)
def Vn(t:Tm):=decide (t.op=1)||decide (t.op=2)
theorem UK(o:Int) s n l:Le (.mk o s n (aa l))=(decide (o=0)&&bare o s n&&decide ((l.length:Int)=0)):=by
 grind [Le,Tm.op,Tm.s,Tm.n,Tm.l,er]
theorem UT s l:VM ⟨s,aa l⟩=(o7 s (ByteArray.mk #[])&&decide ((l.length:Int)=0)):=by
 grind [VM,er]
def j6(l:Lt):=
 bif decide (l.op=1)||decide (l.op=2) then bk l.a&&(Le l.x&&Le l.y)
 else bif decide (l.op=3)||decide (l.op=4)||decide (l.op=5)||decide (l.op=6) then VM l.a&& !decide (l.x.op=4)&& !decide (l.y.op=4)&&ar 20 l.x&&ar 20 l.y
 else bif decide (l.op=7) then bk l.a&&(Vn l.x&&Le l.y)&&ar 20 l.x
 else bif decide (l.op=8)||decide (l.op=9)||decide (l.op=10) then bk l.a&&(Vn l.x&&decide (l.y.op=1))&&ar 20 l.x&&ar 20 l.y
 else false
theorem Ks op a o1 s1 n1 l1 o2 s2 n2 l2:j6 ⟨op,a, .mk o1 s1 n1 l1, .mk o2 s2 n2 l2⟩=
 bif decide (op=1)||decide (op=2) then bk a&&(Le (.mk o1 s1 n1 l1)&&Le (.mk o2 s2 n2 l2))
 else bif decide (op=3)||decide (op=4)||decide (op=5)||decide (op=6) then VM a&& !decide (o1=4)&& !decide (o2=4)&&ar 20 (.mk o1 s1 n1 l1)&&ar 20 (.mk o2 s2 n2 l2)
 else bif decide (op=7) then bk a&&(Vn (.mk o1 s1 n1 l1)&&Le (.mk o2 s2 n2 l2))&&ar 20 (.mk o1 s1 n1 l1)
 else bif decide (op=8)||decide (op=9)||decide (op=10) then bk a&&(Vn (.mk o1 s1 n1 l1)&&decide (o2=1))&&ar 20 (.mk o1 s1 n1 l1)&&ar 20 (.mk o2 s2 n2 l2)
 else false:=rfl
def tC n(t:Tm):=!decide (t.op=4)&& !mI t.op&&(!decide (t.op=1)||decide (0<n))
def a9(r:Rl):=bk r.head&&decide (r.body.length<=20)&&r.head.l.all (tC r.body.length)&&r.body.all j6
def ud(r:Rl):=bk r.head::decide (r.body.length<=20)::(r.head.l.map (tC r.body.length)++r.body.map j6)
theorem Ff r:a9 r=(ud r).all id:=by
 simp[a9,ud,Bool.and_assoc]
theorem lt_eq a:cX a=⟨toInt (af a 0),⟨toStr (af (af a 1) 0),aa (ag (af (af a 1) 1))⟩, .mk (toInt (af (af a 2) 0)) (toStr (af (af a 2) 1)) (toInt (af (af a 2) 2)) (aa (ag (af (af a 2) 3))),
  .mk (toInt (af (af a 3) 0)) (toStr (af (af a 3) 1)) (toInt (af (af a 3) 2)) (aa (ag (af (af a 3) 3)))⟩:=by
 rw[←da,←da];rfl
theorem o5 l i(h:i<l.length):dv (l.drop i)=cX (nth l i)::dv (l.drop (i+1)):=by
 rw[ao3 h,aX l i h];rfl
theorem Al l:(dv l).length=l.length:=by simp[dv]
mutual
def Tm.vars:Tm->List ByteArray
 | .mk op s _ l=>(bif decide (op=1) then[s] else[])++ax l
def ax:List Tm->List ByteArray
 |[]=>[]
 |t::l=>t.vars++ax l
end
mutual
def Tm.mS:Tm->Nat
 | .mk _ _ _ l=>1+bj l
def bj:List Tm->Nat
 |[]=>0
 |t::l=>t.mS+bj l
end
mutual
theorem Tm.Sk: ∀t:Tm,t.vars.length<=t.mS
 | .mk op s n l=>by
  have:=cF l
  simp only[Tm.vars,Tm.mS,ao7];cases decide (op=1)<;>simp<;>omega
theorem cF: ∀l:List Tm,(ax l).length<=bj l
 |[]=>by simp[ax,bj]
 |t::l=>by
  have h1:=Tm.Sk t;have h2:=cF l;simp only[ax,bj,ao7];omega
end
theorem gI: ∀l,l.length<=bj l
 |[]=>by simp
 | .mk _ _ _ m::l=>by
  have:=gI l
  grind [bj,Tm.mS]
def strs(l:List ByteArray):List AV:=l.map fun s=> .lit (.string s)
theorem bc l:(strs l).length=l.length:=by simp[strs]
theorem cL l:List.take l.length (strs l)=strs l:=List.take_of_length_le (by grind [bc])
theorem iY l m:strs (l++m)=strs l++strs m:=by simp[strs]
def dK:List Tm->List ByteArray
 |[]=>[]
 |t::l=>(bif decide (5<=t.op) then ax [t] else[])++dK l
theorem Dl: ∀l,(dK l).length<=bj l
 |[]=>by simp[dK]
 |t::l=>by
  have h1:=Dl l
  grind [cF,dK,bj]
theorem Mz l i(h:i<l.length):dK (aa (l.drop i))=(bif decide (5<=toInt (af (nth l i) 0)) then ax [cE (nth l i)] else[])++dK (aa (l.drop (i+1))):=by
 rw[eR l i h];rw[da];rfl
instance lawS:LawfulBEq ByteArray where
 eq_of_beq h:=(MapKept.bytes_beq _ _).1 h
 rfl:=(MapKept.bytes_beq _ _).2 rfl
theorem Q4{a b}:o7 a b=true↔a=b:=by
 unfold o7;obtain⟨⟨a⟩⟩:=a;obtain⟨⟨b⟩⟩:=b;simp
theorem UL a b:o7 a b=(a==b):=by
 rw[Bool.eq_iff_iff,Q4,beq_iff_eq]
def fK(es:List (Value×AV)):List AV->List (Value×AV)
 |[]=>es
 |a::l=>fK (eC es (.string (toStr a)) (.lit (.bool true))) l
def yH es s:=Dn.toBool (cV es (.string s) (.lit (.bool false)))
def gi es(l:List _):=l.all fun a=>yH es (toStr a)
def bU l:=fK [] (strs l)
theorem Ec: ∀a b es,fK es (a++b)=fK (fK es a) b
 |[],_,_=>rfl
 |x::a,b,es=>by exact Ec a b _
theorem mx a b:fK (bU a) (strs b)=bU (a++b):=by
 grind [bU,iY,Ec]
theorem zA{s}: ∀{k},eg (.string s) k=true->k= .string s:=by
 intro k h;cases k<;>try cases h
 rw[eq_of_beq h]
theorem IJ s t: ∀es,yH (eC es (.string s) (.lit (.bool true))) t=(t==s||yH es t)
 |[]=>by
  simp only[yH,eC,cV,eg];cases t==s<;>rfl
 | (k',a')::es=>by
  have ih:=IJ s t es;simp only[yH,eC,cV] at ih⊢;cases h:eg _ k' with
  |true=>
   have hk:=zA h;subst hk;simp only[an9,cV,eg];cases h2:t==s<;>rfl
  |false=>
   simp only[an7,cV]
   grind
theorem ID t: ∀l es,yH (fK es (strs l)) t=(yH es t||l.contains t)
 |[],es=>by simp[strs,fK]
 |s::l,es=>by
  have:=ID t l (eC es (.string s) (.lit (.bool true)))
  rw[show fK es _=fK (eC _ (.string s) _) (strs l) from rfl,this,IJ]
  grind
theorem pW l t:yH (bU l) t=l.contains t:=by
 unfold bU;rw[ID];rfl
theorem Rg b s:eC (bU b) (.string s) (.lit (.bool true))=bU (b++[s]):=by
 rw[←mx];rfl
def hasB(b l:List ByteArray):=l.all fun s=>b.contains s
theorem fo b l:gi (bU b) (strs l)=hasB b l:=by
 simp[gi,strs];congr 1;funext s
 exact pW b s
def ej(l:Lt):=ax [l.x,l.y]++ax l.a.l
def jZ(l:Lt):=bj [l.x,l.y]+bj l.a.l
def mb es(x y:Tm):=decide (x.op=1)&&(!yH es x.s&&gi es (strs (ax [y])))
def ma b(x y:Tm):=decide (x.op=1)&&(!b.contains x.s&&hasB b (ax [y]))
theorem pS b x y:mb (bU b) x y=ma b x y:=by
 grind [mb,ma,pW,fo]
def ng(met:List ByteArray):List ByteArray->List ByteArray
 |[]=>[]
 |s::l=>bif met.contains s then ng met l else s::ng (met++[s]) l
theorem wk{t}: ∀{l met},t∈ng met l↔t∈l/\t∉met
 |[],met=>by simp[ng]
 | s::l,met=>by
  simp only[ng];cases h:met.contains s with
  |true=>
   rw[an9,wk]
   grind
  |false=>
   rw[an7,ap0,wk]
   grind
theorem kM: ∀l met,(ng met l).length<=l.length
 |[],_=>by simp[ng]
 |s::l,met=>by
  simp only[ng];cases met.contains s with
  |true=>have:=kM l met;grind
  |false=>have:=kM l (met++[s]);grind
def fB(r:Rl):=ax r.head.l++r.body.flatMap ej
def de r:=bif a9 r then ng [] (fB r) else[]
theorem zK{r}(h:a9 r=true){s}:s∈de r↔s∈fB r:=by
 grind [de,wk]
def ak3:Lt:=⟨0,⟨ByteArray.empty,[]⟩, .mk 0 ByteArray.empty 0 [], .mk 0 ByteArray.empty 0 []⟩
def dS(l:List _) k:=l.getD k ak3
def DK(k:Nat):List Lt->Nat->List ByteArray
 |[],_=>[]
 |l::b,i=>(bif Nat.beq i k then ax [l.x] else ej l)++DK k b (i+1)
def S0(r:Rl) k:=ax r.head.l++DK k r.body 0
def eh r k:=(de r).filter fun v=>(ax (dS r.body k).a.l).contains v&&(S0 r k).contains v
def cI r k:=bif decide (7<=(dS r.body k).op) then ax [(dS r.body k).x]++eh r k else ej (dS r.body k)
def oq b r k:=
 bif decide ((dS r.body k).op=1) then hasB b (dK (dS r.body k).a.l)
 else bif decide ((dS r.body k).op=3) then ma b (dS r.body k).x (dS r.body k).y||(ma b (dS r.body k).y (dS r.body k).x||hasB b (ej (dS r.body k)))
 else bif decide ((dS r.body k).op=2)||(decide ((dS r.body k).op=4)||(decide ((dS r.body k).op=5)||decide ((dS r.body k).op=6))) then hasB b (ej (dS r.body k))
 else(decide ((dS r.body k).op=7)||(ax (dS r.body k).a.l).contains (dS r.body k).y.s)&&(hasB b (eh r k)&&hasB b (dK (dS r.body k).a.l))
def fy(l:List _) k:=l.getD k false
def mF(r:Rl)(done:List Bool)(b:List ByteArray):Nat->Nat->Int->Int
 |0,_,first=>first
 |n+1,k,first=>
  bif fy done k|| !oq b r k then mF r done b n (k+1) first
  else bif !decide ((dS r.body k).op=1) then k
  else mF r done b n (k+1) (bif decide (first<0) then(k:Int) else first)
def aF r done b:=mF r done b r.body.length 0 (-1)
def oU(r:Rl):Nat->List Bool->List ByteArray->List Nat
 |0,_,_=>[]
 |n+1,done,b=>bif decide (aF r done b<0) then[] else(aF r done b).toNat::oU r n (done.set (aF r done b).toNat true) (b++cI r (aF r done b).toNat)
def Lc(r:Rl) b k:=
 decide ((dS r.body k).op=3)&&(ma b (dS r.body k).x (dS r.body k).y&&decide ((dS r.body k).y.op>=5)||ma b (dS r.body k).y (dS r.body k).x&&decide ((dS r.body k).x.op>=5))||decide (7<=(dS r.body k).op)
def OW(r:Rl):Nat->List Bool->List ByteArray->Bool
 |0,_,_=>false
 |n+1,done,b=>bif decide (aF r done b<0) then false else Lc r b (aF r done b).toNat||OW r n (done.set (aF r done b).toNat true) (b++cI r (aF r done b).toNat)
def N5 r:=OW r r.body.length (List.replicate r.body.length false) []
def cW r:=oU r r.body.length (List.replicate r.body.length false) []
def fb r(l:List _):=l.flatMap (cI r)
def jW r:=decide (r.body.length<=(cW r).length)&&hasB (fb r (cW r)) (ax r.head.l)
def G2(r:Rl):Int:=bif a9 r then bif jW r then 0 else 60 else 30
def okI r done b(x:Int):=0<=x/\x.toNat<r.body.length/\fy done x.toNat=false/\oq b r x.toNat=true
theorem w7 r done b: ∀n k first,k+n=r.body.length->first<0\/okI r done b first->
  mF r done b n k first=first/\first<0\/okI r done b (mF r done b n k first)
 |0,_,first,_,h=>by
  grind [mF]
 | n+1,k,first,hk,h=>by
  have ih:=fun f h=>w7 r done b n (k+1) f (by omega) h
  simp only[mF];cases h1:fy done k|| !oq b r k with
  |true=>grind
  |false=>
   simp only[Bool.or_eq_false_iff,ao4] at h1;have hok:okI r done b (k:Int):=⟨by omega,by simp;omega,by simpa using h1.1,by simpa using h1.2⟩
   grind
theorem qF r done b:aF r done b= -1\/okI r done b (aF r done b):=by
 rcases w7 r _ b r.body.length 0 (-1) (by simp) (by simp) with h|h
 ·exact .inl h.1
 ·exact .inr h
theorem nK r: ∀n done b,done.length=r.body.length->
  (∀k,k∈oU r n done b->k<r.body.length/\fy done k=false)/\(oU r n done b).Nodup/\(oU r n done b).length<=n
 |0,_,_,_=>by simp[oU]
 | n +1,done,b,hd=>by
  simp only[oU];cases h:decide (aF r done b<0) with
  |true=>simp
  | false=>
   have h0:0<=aF r done b:=by simpa using h
   rcases qF r done b with h1|⟨_,h1,h2,_⟩
   ·omega
   have ih:=nK r n (done.set (aF r done b).toNat true) (b++cI r (aF r done b).toNat) (by simpa using hd);rw[an7];refine⟨fun k hk=>?_,?_,by have:=ih.2.2;simp only[List.length_cons];omega⟩
   ·rcases List.mem_cons.1 hk with rfl|hk
    ·exact⟨h1,h2⟩
    ·obtain⟨g1,g2⟩:=ih.1 k hk
     refine⟨g1,?_⟩;simp only[fy,List.getD_eq_getElem?_getD,List.getElem?_set] at g2⊢;split at g2
     ·split at g2
      ·simp at g2
      ·simp at g2;omega
     ·exact g2
   ·refine List.nodup_cons.2 ⟨fun hk=>?_,ih.2.1⟩
    have:=(ih.1 _ hk).2
    simp[fy,List.getD_eq_getElem?_getD,hd,h1] at this
theorem xv{r k}(h:k∈cW r):k<r.body.length:=((nK r _ _ _ (by simp)).1 k h).1
theorem En r:(cW r).Nodup:=(nK r _ _ _ (by simp)).2.1
theorem KO r:(cW r).length<=r.body.length:=(nK r _ _ _ (by simp)).2.2
def Gy r k:=(de r).filter fun v=>(fb r ((cW r).take k)).contains v
theorem s7{a b:Nat}(h:a≠b):Nat.beq a b=false:=by
 grind [Nat.eq_of_beq_eq_true]
theorem GW r n done b:oU r (n+1) done b=
  bif decide (aF r done b<0) then[] else(aF r done b).toNat::oU r n (done.set (aF r done b).toNat true) (b++cI r (aF r done b).toNat):=rfl
theorem Gq r done b n k first:mF r done b (n+1) k first=
  bif fy done k|| !oq b r k then mF r done b n (k+1) first
  else bif !decide ((dS r.body k).op=1) then k
  else mF r done b n (k+1) (bif decide (first<0) then k else first):=rfl
def ZM(r:Rl)(l:Lt):Rl:=⟨r.head,r.body++[l]⟩
structure an0(r:Rl)(l:Lt):Prop where
 right:a9 r=true
 more:a9 (ZM r l)=true
 op:l.op=1
 an1:dK l.a.l=[]
 vars: ∀s,s∈ej l->s∈fb r (cW r)
def qx(T:TypeId)(a:AV):AV:= .agg [.lit (.int .i64 (toInt (af a 0))), .lit (.string (toStr (af a 1))), .lit (.int .i64 (toInt (af a 2))), .ah T (ag (af a 3))]
def qh(T:TypeId)(a:AV):List AV:= .aJ [qx T a]::((ag (af a 3)).attach.flatMap fun x=>qh T x.1)
termination_by SizeOf.sizeOf a
decreasing_by exact rO x.2
def fM T(l:List _):=l.flatMap (qh T)
theorem B0 T a:qh T a= .aJ [qx T a]::fM T (ag (af a 3)):=by
 rw[qh]
 simp_all[fM]
theorem x5 T l i(h:i<l.length):fM T (l.drop i)=qh T (nth l i)++fM T (l.drop (i+1)):=by
 rw[ao3 h,aX l i h];rfl
def th T(x:AV):=∃y,x= .aJ [qx T y]
theorem nh T: ∀n a,SizeOf.sizeOf a<n->∀x,x∈qh T a->th T x
 |0,_,h=>by omega
 | n+1,a,h=>by
  intro x hx;rw[B0,ap0] at hx;rcases hx with rfl|hx
  ·exact⟨a,rfl⟩
  ·unfold fM at hx
   rw[List.mem_flatMap] at hx;obtain⟨y,h1,h2⟩:=hx;exact nh T n y (by have:=rO h1;omega) x h2
theorem CH T l: ∀x,x∈fM T l->th T x:=by
 intro x hx;unfold fM at hx;rw[List.mem_flatMap] at hx;obtain⟨y,_,h2⟩:=hx;exact nh T _ y (Nat.lt_succ_self _) x h2
def y3:AV->List ByteArray
 | .aJ [t]=>bif decide (toInt (af t 0)=1) then[toStr (af t 1)] else[]
 |_=>[]
theorem xf T: ∀n a,SizeOf.sizeOf a<n->(qh T a).flatMap y3=(cE a).vars
 |0,_,h=>by omega
 | n+1,a,h=>by
  rw[B0,da,Tm.vars,List.flatMap_cons];congr 1
  have: ∀m:List AV,(∀x,x∈m->SizeOf.sizeOf x<SizeOf.sizeOf a)->(fM T m).flatMap y3=ax (aa m):=by
   intro m;induction m with
   |nil=>intro _;rfl
   |cons x m ih=>
    intro hm;have h1:=xf T n x (by have:=hm x (by simp);omega)
    grind [qh,fM,y3,cE,ax,aa]
  exact this _ fun x hx=>rO hx
theorem uz T: ∀l,(fM T l).flatMap y3=ax (aa l)
 |[]=>rfl
 |x::l=>by
  show(qh T x++fM T l).flatMap _=(cE x).vars++ax (aa l)
  rw[List.flatMap_append,xf T _ x (Nat.lt_succ_self _),uz T l]
def bn T(hl bl:List _):=hl++bl.flatMap fun a=>[qx T (af a 2),qx T (af a 3)]++ag (af (af a 1) 1)
theorem sM T a:cE (qx T a)=cE a:=by rw[da,da];rfl
theorem tu: ∀l m,ax (l++m)=ax l++ax m
 |[],_=>rfl
 |t::l,m=>by simp[ax,tu l m]
theorem iM T rel hl bl:ax (aa (bn T hl bl))=fB ⟨⟨rel,aa hl⟩,dv bl⟩:=by
 unfold bn fB aa;rw[List.map_append,tu];congr 1
 induction bl with
 |nil=>rfl
 |cons a bl ih=>
  simp only[List.flatMap_cons,List.map_append,tu];congr 1
  simp[ej,cX,PK,aa,List.map_nil,sM]
theorem gF: ∀l i x,(bM l i x).length=l.length
 |[],_,_=>rfl
 |_::_,0,_=>rfl
 |_::l,i+1,x=>by simp[bM,gF l i x]
theorem ui: ∀l i x,i<l.length->(bM l i x).take (i+1)=l.take i++[x]
 |[],_,_,h=>by grind
 |_::_,0,_,_=>rfl
 |a::l,i+1,x,h=>by
  have:=ui l i x (by grind)
  grind [bM]
theorem tc: ∀l i j x,i<j->(bM l i x).drop j=l.drop j
 |[],_,_,_,_=>rfl
 |_::_,0,j+1,_,_=>rfl
 |a::l,i+1,j+1,x,h=>by
  have:=tc l i j x (by omega)
  grind [bM]
theorem xC l i h:nth (strs l) i= .lit (.string l[i]):=by
 grind [aX,strs]
theorem jM{R j a l}(h:R.drop j=a::l):j<R.length/\nth R j=a/\R.drop (j+1)=l:=by
 grind [List.drop_eq_nil_of_le,List.drop_eq_getElem_cons,aX]
def wy(eY:ByteArray->Bool)(vs:List _)(j:Int):=0<=j/\∃h,(∀s,s∈vs.take j.toNat->eY s=true)/\eY vs[j.toNat]=false
theorem rS{eY vs j}(h:wy eY vs j):vs.filter eY=vs.take j.toNat++(vs.drop (j.toNat+1)).filter eY:=by
 obtain⟨_,h1,h2,h3⟩:=h
 conv=>lhs;rw[←List.take_append_drop j.toNat vs]
 rw[List.filter_append,ao3 h1,List.filter_cons]
 simp_all
theorem oC: ∀R lo n z,(c6 R lo n z).take lo=R.take lo
 |[],_,_,_=>rfl
 |_::_,0,_,_=>by rfl
 |a::R,lo+1,n,z=>by simp[c6,oC R _ n z]
def fX(s:ByteArray):List AV->Int->Int
 |[],_=> -1
 |a::l,i=>bif o7 s (toStr a) then i else fX s l (i+1)
theorem z7 s: ∀l i,0<=i->decide (fX s (strs l) i>=0)=l.contains s
 |[],i,_=>rfl
 |a::l,i,h=>by
  have ih:=z7 s l (i+1) (by omega);show decide ((bif o7 s a then i else fX s (strs l) _)>=0)=_
  grind [UL]
mutual
def Tm.size:Tm->Int->Int
 | .mk _ s _ l,left=>bif decide ((1000:Int)<s.size) then -1 else jg l (left - 1)
def jg:List Tm->Int->Int
 |[],left=>left
 |t::l,left=>bif decide (0<=left) then jg l (t.size left) else left
end
def du(a:At) left:=bif decide ((1000:Int)<a.rel.size) then -1 else jg a.l left
def sizeLt(l:Lt) left:=
 bif decide (0<=du l.a (left - 1)) then bif decide (0<=l.x.size (du l.a (left - 1))) then l.y.size (l.x.size (du l.a (left - 1))) else l.x.size (du l.a (left - 1)) else du l.a (left - 1)
def lR:List Lt->Int->Int
 |[],left=>left
 |l::b,left=>bif decide (0<=left) then lR b (sizeLt l left) else left
def nR(r:Rl) left:=lR r.body (du r.head (left - 1))
def nV:List Rl->Int->Int
 |[],left=>left
 |r::l,left=>bif decide (0<=left) then nV l (nR r left) else left
mutual
theorem Tm.size_le: ∀(t:Tm) (left:Int),0<=left-> -1<=t.size left/\t.size left<left\/t.size left= -1
 | .mk _ s _ l,left,h=>by
  unfold Tm.size;cases decide ((1000:Int)<s.size) with
  |true=>exact .inr rfl
  | false=>
   rw[an7];by_cases h1:0<=left - 1
   ·have:=oz l (left - 1) (by omega)
    omega
   ·have:=oz l (left - 1) (by omega)
    omega
theorem oz: ∀(l:List Tm) (left:Int), -1<=left-> -1<=jg l left/\jg l left<=left
 |[],left,h=>by unfold jg;omega
 | t::l,left,h=>by
  unfold jg;by_cases h1:0<=left
  ·rw[an8 h1,an9]
   have h2:=Tm.size_le t left h1;have h3:=oz l (t.size left) (by omega);omega
  ·rw[an6 h1,an7];omega
end
theorem o6 a left(h: -1<=left): -1<=du a left/\(du a left<=left\/du a left= -1):=by
 unfold du;cases decide ((1000:Int)<a.rel.size)<;>simp_all[oz]
theorem tW l left(h:0<=left): -1<=sizeLt l left/\sizeLt l left<left:=by
 unfold sizeLt;have h1:=o6 l.a (left - 1) (by omega);by_cases h2:0<=du l.a (left - 1)
 ·rw[an8 h2,an9]
  have h3:=Tm.size_le l.x _ h2;by_cases h4:0<=l.x.size (du l.a (left - 1))
  ·rw[an8 h4,an9]
   have h5:=Tm.size_le l.y _ h4;omega
  grind
 grind
theorem CT: ∀b left, -1<=left-> -1<=lR b left/\lR b left<=left
 |[],left,h=>by grind [lR]
 | l::b,left,h=>by
  unfold lR;by_cases h1:0<=left
  ·rw[an8 h1,an9]
   have h2:=tW l _ h1;have h3:=CT b (sizeLt l left) (by omega);omega
  grind
theorem wL r left(h:0<=left): -1<=nR r left/\nR r left<left:=by
 unfold nR;have h1:=o6 r.head (left - 1) (by omega);have h2:=CT r.body (du r.head (left - 1)) (by omega);omega
theorem Ek: ∀l left, -1<=left-> -1<=nV l left/\nV l left<=left
 |[],left,h=>by grind [nV]
 | r::b,left,h=>by
  unfold nV;by_cases h1:0<=left
  ·rw[an8 h1,an9]
   have h2:=wL r _ h1;have h3:=Ek b (nR r left) (by omega);omega
  grind
mutual
theorem Tm.yh: ∀(t:Tm) (left:Int),0<=t.size left->t.mS+t.size left<=left
 | .mk _ s _ l,left,h=>by
  unfold Tm.size at h⊢;cases e:decide ((1000:Int)<s.size) with
  |true=>rw[e] at h;simp at h
  |false=>
   rw[e,an7] at h;rw[an7,Tm.mS];have:=ug l (left - 1) h
   omega
theorem ug: ∀(l:List Tm) (left:Int),0<=jg l left->bj l+jg l left<=left
 |[],left,h=>by unfold jg bj;omega
 | t::l,left,h=>by
  unfold jg at h⊢;by_cases h1:0<=left
  ·rw[an8 h1,an9] at h⊢
   have h3:=ug l (t.size left) h;have h4:0<=t.size left:=by
    have h2:=Tm.size_le t left h1;have:=oz l (t.size left) (by omega)
    omega
   have h2:=Tm.yh t left h4;unfold bj;omega
  ·rw[an6 h1,an7] at h;omega
end
theorem zT a left(h:0<=du a left):bj a.l+du a left<=left:=by
 unfold du at h⊢;cases e:decide ((1000:Int)<a.rel.size)<;>simp_all[ug]
theorem GM l left(_hl:0<=left)(h:0<=sizeLt l left):1+jZ l+sizeLt l left<=left:=by
 unfold sizeLt at h⊢;by_cases h2:0<=du l.a (left - 1)
 ·rw[an8 h2,an9] at h⊢
  have e1:=zT l.a (left - 1) h2;by_cases h4:0<=l.x.size (du l.a (left - 1))
  ·rw[an8 h4,an9] at h⊢
   have e2:=Tm.yh l.x _ h4;have e3:=Tm.yh l.y _ h
   grind [jZ,bj]
  grind
 grind
theorem zH: ∀b left, -1<=left->0<=lR b left->b.length+(b.map jZ).sum+lR b left<=left
 |[],left,_,h=>by unfold lR;simp
 | l::b,left,hl,h=>by
  unfold lR at h⊢;by_cases h1:0<=left
  ·rw[an8 h1,an9] at h⊢
   have h2:=tW l left h1;have h3:=zH b _ (by omega) h;have h4:=GM l left h1 (by omega)
   grind
  grind
def zW(r:Rl):=bj r.head.l+(r.body.map jZ).sum
theorem Kn r left(hl:0<=left)(h:0<=nR r left):zW r+r.body.length+1+nR r left<=left:=by
 unfold nR at h⊢;have h1:=o6 r.head (left - 1) (by omega);have h2:=zH _ _ (by omega) h;have h4:=zT r.head (left - 1) (by omega)
 grind [zW]
theorem Ab: ∀l left, -1<=left->0<=nV l left->∀r,r∈l->(zW r+r.body.length:Nat)<=left
 |[],_,_,_,r,hr=>by simp at hr
 | r0::l,left,hl,h,r,hr=>by
  unfold nV at h;by_cases h1:0<=left
  ·rw[an8 h1,an9] at h
   have h2:=wL r0 left h1;have h5:=Ek l (nR r0 left) (by omega);rcases List.mem_cons.1 hr with rfl|hr
   ·have:=Kn r left h1 (by omega)
    omega
   ·have:=Ab l _ (by omega) h r hr
    omega
  grind
theorem GJ T rel hl bl:bj (aa (bn T hl bl))=zW ⟨⟨rel,aa hl⟩,dv bl⟩:=by
 have happ: ∀l m,bj (l++m)=bj l+bj m:=by
  intro l;induction l with
  |nil=>simp[bj]
  |cons t l ih=>simp only[List.cons_append,bj,ih];omega
 unfold bn zW aa;rw[List.map_append,happ];congr 1
 induction bl with
 |nil=>rfl
 |cons a bl ih=>
  simp only[List.flatMap_cons,List.map_append,happ,dv,ao9];congr 1
  simp only[jZ,cX,PK,aa,List.map_nil,sM]
def zn(l:List _):=l.any fun a=>decide ((1000:Int)<(toStr a).size)
def Jv a:=decide ((1000:Int)<(toStr (af a 0)).size)||zn (ag (af a 1))
def nr(ds rs:List _):=!ds.any Jv&&(decide (0<=nV (rs.map wN) 2000)&&(decide (ds.length<=100)&&decide (rs.length<=300)))
def sx:ByteArray:=ByteArray.mk #[120]
def sy:ByteArray:=ByteArray.mk #[121]
def s0:ByteArray:=ByteArray.mk #[]
def ti(n:Int):Tm:= .mk 2 s0 n []
end Go.Rl
