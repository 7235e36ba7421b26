import Derived.Test.YtioeffnadipbaaaGreatDoorDnI
namespace Go.Dn
open Go
theorem cM{C l a}(h:MT C l a.toList):Rel C (.aK l) (.tuple a):=
 ⟨.inl rfl, .inl rfl,by grind [M,Value.cells]⟩
theorem vw{C K V e d v}(h:Rel C (.eO K V e d) v):Nv C.P.toProgram V=true/\v= .map none/\e=[]/\d=[]\/ ∃b a c,v= .map (some b)/\C.X b/\C.w.heap[b]? =some (.map a c)/\lF C.P K a.toList c/\
  a.toList.map (·.key)=e/\b8 C.P d V/\MT C d (a.toList.map (·.val)):=by
 have g:eF v=false:=h.1.resolve_right (by simp);have f:=h.2.2
 grind [gZ,M]
theorem wq{C V}: ∀b c,b8 C.P c V->MT C c (b.map (·.val))->cE C V ((b.map (·.key)).zip c) b
 |[],[],_,_=>trivial
 |[],_::_,_,h=>by grind [MT]
 |_::_,[],_,h=>by grind [MT]
 |e::b,a::c,d,h=>by
  simp only[ao9,List.zip_cons_cons,cE];exact⟨trivial,d.1,⟨h.1,h.2.1,h.2.2.1⟩,wq _ _ d.2 h.2.2.2⟩
theorem zg{C}(n:Inv C){T K V h m ok z}(A:C.P.underlying T=some (.map K V))(g:plainKey C.P K m=true)(H:iC C.P V=some z){b a f}
  (t:C.w.heap[b]? =some (.map a f)) (i:cE C V h a.toList) (k:lF C.P K a.toList f):
  ∃v,(Instr.lookup T (.map (some b)) m ok).run C.P C.w= .ok v C.w/\Rel C (if ok then .aK [expand C.P cd V (de h m z), .lit (.bool (r7 h m))] else expand C.P cd V (de h m z)) v:=by
 obtain⟨I,x,q,o,r,D,p⟩:=dY n H;obtain⟨d,hd,_⟩:=fO g;have l:=run_checkKey (P:=C.P) (w:=C.w) g a.isEmpty 9999;rcases findNow_spec hd g z h a.toList 0 i k.keys with⟨s,y,u⟩|⟨s,j,e,y,u,E,B,F⟩
 ·have c:=(eR n p r).1
  refine⟨if ok then .tuple #[x, .bool false] else x,?_,?_⟩
  ·simp[Instr.lookup,run_underlying A,run_getObj_map t,l,Instr.findKey,run_underlying hd,u,jq q o]
  ·rw[y,s]
   cases ok
   ·simpa using c
   ·simp only[if_true]
    refine cM ?_;simp only[MT];exact⟨c.1,c.2.1,c.2.2, .inl rfl, .inl rfl,(aW rfl).2.2,trivial⟩
 ·have c:=(eR n F B).1
  refine⟨if ok then .tuple #[e.val, .bool true] else e.val,?_,?_⟩
  ·simp[Instr.lookup,run_underlying A,run_getObj_map t,l,Instr.findKey,run_underlying hd,E]
  ·rw[s]
   cases ok
   ·simpa using c
   ·simp only[if_true]
    refine cM ?_;simp only[MT];exact⟨c.1,c.2.1,c.2.2, .inl rfl, .inl rfl,(aW rfl).2.2,trivial⟩
theorem lookup_nil{C:Ctx}{T K V c a ok e}(h:C.P.underlying T=some (.map K V))(b:plainKey C.P K c=true)(f:C.P.info? V=some e)(g:e.zero=some a):
  (Instr.lookup T (.map none) c ok).run C.P C.w= .ok (if ok then .tuple #[a, .bool false] else a) C.w:=by
 obtain⟨d,hd,_⟩:=fO b
 simp_all[run_checkKey,Instr.lookup,run_underlying,Instr.findKey,Instr.findNow,jq]
theorem AX{C}(q:Inv C){s}(Z:C.st=s.st){T m k x ok c L N}(h:nG C.P s T m k ok=some (c,x))(F:Rel C m L)(X:Rel C k N):
  ∃v,(Instr.lookup T L N ok).run C.P C.w= .ok v C.w/\Rel C x v:=by
 have f: ∀{a:AV} {b:Bool} {t:Value},Rel C a t->Rel C (if ok then .aK [a, .lit (.bool b)] else a) (if ok then .tuple #[t, .bool b] else t):=fun{a b t} D=>by
  cases ok
  ·simpa using D
  ·simp only[if_true]
   refine cM ?_;simp only[MT];exact⟨D.1,D.2.1,D.2.2, .inl rfl, .inl rfl,(aW rfl).2.2,trivial⟩
 unfold nG at h;split at h
 ·rename_i K V kv B
  have:=aL X;subst this
  split at h
  ·rename_i z i d r
   split at h
   ·rename_i R U Y n
    split at h
    ·rename_i j
     obtain⟨rfl,rfl⟩:=j;simp only[an5,ao1] at h;obtain⟨_,rfl⟩:=h;obtain⟨hi,I⟩:=tP F;rw[←Z] at n;have:=I K V Y n;subst this
     obtain⟨y,g,E,A,e⟩:=nH q hi n;exact zg q B d r E A e
    ·simp at h
   ·simp at h
  ·rename_i z R U ks vs d r
   split at h
   ·rename_i j
    obtain⟨rfl,rfl⟩:=j;simp only[an5,ao1] at h;obtain⟨_,rfl⟩:=h;rcases vw F with⟨_,rfl,rfl,rfl⟩|⟨b,O,g,rfl,_,E,e,rfl,Q,H⟩
    ·obtain⟨W,t,l,o,p,J,u⟩:=dY q r
     exact⟨_,lookup_nil B d l o,f (eR q u p).1⟩
    ·exact zg q B d r E (wq _ _ Q H) e
   ·simp at h
  ·rename_i z d r
   simp only[an5,ao1] at h;obtain⟨_,rfl⟩:=h;have:=aL F;subst this
   obtain⟨W,t,l,o,p,J,u⟩:=dY q r;exact⟨_,lookup_nil B d l o,f p⟩
  ·simp at h
 ·simp at h
theorem OR{a}(h:bV a=false):wid a=1:=by cases a<;>simp_all[bV,wid]
theorem Cu{C}(r:Inv C){T p x f c t}(h:ES C.P T p f=some (c,x))(F:Rel C p t):
  ∃v,(Instr.field T t f).run C.P C.w= .ok v C.w/\Rel C x v:=by
 unfold ES at h;split at h
 ·rename_i k l n
  split at h
  ·rename_i y
   simp only[an3,an2,beq_iff_eq] at y;obtain⟨⟨⟨⟨⟨s,z⟩,D⟩,o⟩,I⟩,i⟩:=y;obtain⟨_,rfl⟩:=h;obtain⟨L,b,u⟩:=oW n;obtain⟨H,rfl,J,E⟩:=sF F;have g:=Cb l f _ 0 s E;rw[Nat.zero_add,z] at g;obtain⟨d,hd⟩:=Option.isSome_iff_exists.1 I;have e:=sq l f s;rw[z] at e;cases a:bV (nth l f) with
   |false=>
    have N:=OR a;obtain⟨v,A,q⟩:=gX a i g;refine⟨v,?_,Dq r a g A (xj q)⟩;simp[Instr.field,run_underlying b,u,asAgg,part,hG hd,o,a,A]
   |true=>
    cases B:nth l f<;>rw[B] at a<;>simp[bV] at a
    rename_i m;rw[B] at g D e o;refine⟨.agg (H.extract k.offset (k.offset+C.P.cellsOf k.type)),?_,mP r g ?_ (fun j K=>?_)⟩
    ·simp[Instr.field,run_underlying b,u,asAgg,part,hG hd,o,bV,run_sizeOf hd]
    ·simp only[Array.size_extract];omega
    grind
  ·simp at h
 ·simp at h
theorem oL: ∀(l:List (Value×Nat)) (a:Array _) off,(l.foldl (fun b x=>b.setIfInBounds (off+x.2) x.1) a).size=a.size
 |[],_,_=>rfl
 |x::l,a,off=>by simp;rw[oL l];simp
theorem kV off: ∀(l:List Value) k (a:Array _) j,off+k+l.length<=a.size->
  ((l.zipIdx k).foldl (fun c x=>c.setIfInBounds (off+x.2) x.1) a)[j]? =if off+k<=j/\j<off+k+l.length then l[j - (off+k)]? else a[j]?
 |[],k,a,j,_=>by simp;omega
 |v::l,k,a,j,b=>by
  simp;rw[kV off l _ _ j (by grind)]
  grind
theorem xV: ∀l i j x,wid x=wid (nth l i)->mm (bQ l i x) j=mm l j
 |[],_,_,_,_=>rfl
 |_::_,0,0,_,_=>rfl
 |a::l,0,j+1,x,h=>by grind [bQ,mm,nth]
 |a::l,i+1,0,x,_=>rfl
 |a::l,i+1,j+1,x,h=>by simp[bQ,mm];rw[xV l i j x (by grind [nth])]
theorem tW: ∀l i x,wid x=wid (nth l i)->eL (bQ l i x)=eL l
 |[],_,_,_=>rfl
 |a::l,0,x,h=>by grind [bQ,eL,nth]
 |a::l,i+1,x,h=>by simp[bQ,eL];rw[tW l i x (by grind [nth])]
theorem Ev{C}(e:Inv C){x sx ox}(g:M C x sx ox): ∀l i off s s' o,mm l i=off->i<l.length->wid x=wid (nth l i)->ML C l s o->
  (∀j,j<eL l->s' (o+j)=if off<=j/\j<off+wid x then sx (ox+(j - off)) else s (o+j))->ML C (bQ l i x) s' o
 |[],_,_,_,_,_,_,h,_,_,_=>by simp at h
 | a::l,0,off,s,s',o,b,_,d,h,c=>by
  simp only[ML] at h;simp only[nth] at d;simp only[mm] at b;subst b;simp only[bQ,ML];simp only[eL] at c;refine⟨j5 e (fun j f=>?_) g,?_⟩
  ·rw[c j (by omega),if_pos (by omega)];congr 1
  ·have:=j5 (a:= .agg l) e (s:=s) (s':=s') (o:=o+wid a) (o':=o+wid x) (fun j f=>by
    simp only[wid] at f;have:=c (wid x+j) (by omega)
    rw[if_neg (by omega)] at this;rw[show o+wid x+j=o+(wid x+j) by omega,this,d];congr 1;omega) (by simpa[M] using h.2)
   simpa[M] using this
 | a::l,i+1,off,s,s',o,b,k,d,h,c=>by
  simp only[ML] at h;simp only[nth] at d;simp only[mm] at b;subst b;simp only[bQ,ML];simp only[eL] at c;refine⟨j5 e (fun j f=>?_) h.1,Ev e g l i _ s s' (o+wid a) rfl (by simpa using k) d h.2 (fun j f=>?_)⟩
  ·rw[c j (by omega),if_neg (by omega)]
  ·have:=c (wid a+j) (by omega)
   grind
theorem qL{C}(r:Inv C){s b}(A:dh C s b){B place}
  (d: ∀i p,B i=some p->place i=some p):
  ∀ps l cells x,tf B l (fj s ps)=some x->ML C l (fun j=>cells[j]?) 0->cells.size=eL l->
   ∃a,Instr.fill place cells (ps.map fun p=>(p.1,b.eval p.2))=some a/\Rel C x (.agg a)
 |[],l,cells,x,h,t,f=>by
  simp only[fj,tf,an5] at h;subst h
  exact⟨cells,rfl,mP r (s:=fun j=>cells[j]?) (o:=0) (by simpa[M] using t) (by simpa[wid] using f) (fun j _=>by simp)⟩
 | (i,o)::ps,l,cells,x,h,t,f=>by
  simp only[fj,tf] at h;split at h
  ·simp at h
  rename_i off K q;split at h
  ·rename_i w
   simp only[an3,an2,beq_iff_eq] at w;obtain⟨⟨⟨⟨z,v⟩,F⟩,N⟩,L⟩:=w;have k:=bo A o;have u:ev s o≠ .cK:=by intro e;rw[e] at z;simp[cR] at z
   have E:=k.2.1.resolve_right u;have I:=sq l i v;have y:wid (ev s o)=wid (nth l i):=by omega
   have m:=Ev r k.2.2 l i _ (fun j=>cells[j]?) (fun j=>(((b.eval o).cells.zipIdx.foldl (fun g (c,j)=>g.setIfInBounds (off+j) c) cells))[j]?) 0 F v y t (fun j H=>by
    have:=kV off (b.eval o).cells.toList 0 cells j (by simp;omega)
    simp only[Nat.add_zero,Array.length_toList] at this;simp only[Nat.zero_add];have e:((b.eval o).cells.zipIdx.foldl (fun g (x:Value×Nat)=>g.setIfInBounds (off+x.2) x.1) cells)=(((b.eval o).cells.toList.zipIdx 0).foldl (fun g (x:Value×Nat)=>g.setIfInBounds (off+x.2) x.1) cells):=by
     rw[←Array.foldl_toList];simp
    grind)
   have n:((b.eval o).cells.zipIdx.foldl (fun g (x:Value×Nat)=>g.setIfInBounds (off+x.2) x.1) cells).size=eL (bQ l i (ev s o)):=by
    rw[←Array.foldl_toList,oL,tW l i _ y,f]
   obtain⟨a,J,D⟩:=qL r A d ps _ _ x h m n;refine⟨a,?_,D⟩;simp only[ao9,Instr.fill,d i _ q];rw[if_neg (by simp;omega)];exact J
  ·simp at h
theorem Dh{P T a}(b:P.underlying T=some (.struct a)): ∀i p,FI P T i=some p->(fun j=>(a.map fun f=>(f.offset,P.cellsOf f.type))[j]?) i=some p:=by
 grind [FI,oW]
theorem Hb{C}: ∀(l:List _) s o,l.all bg=true->(∀j,j<l.length->s (o+j)=l[j]?)->ML C (l.map .lit) s o
 |[],_,_,_,_=>trivial
 |v::l,s,o,h,a=>by
  simp only[ao8,an3] at h;refine⟨⟨by simpa using a 0 (by simp),h.1⟩,Hb l s (o+1) h.2 fun j b=>?_⟩;have:=a (j+1) (by grind)
  grind
theorem CN: ∀l:List _,eL (l.map AV.lit)=l.length
 |[]=>rfl
 |_::l=>by simp[eL,wid,CN l];omega
theorem yN{C T c l}(h:PI C.P.toProgram T=some (c,l)):
  ∃a E i b d,C.P.underlying T=some (.array a E)/\C.P.info? T=some i/\i.zero=some (.agg b)/\c=C.P.cellsOf E/\C.P.underlying E=some d/\ML C l (fun j=>b[j]?) 0/\b.size=eL l:=by
 unfold PI at h;split at h
 ·rename_i a E f
  split at h
  ·rename_i i g
   split at h
   ·rename_i b k
    split at h
    ·rename_i e
     grind [Option.some.injEq,Prod.mk.injEq,Option.isSome_iff_exists,Hb,CN]
    ·cases h
   ·cases h
  ·cases h
 ·cases h
end Go.Dn
