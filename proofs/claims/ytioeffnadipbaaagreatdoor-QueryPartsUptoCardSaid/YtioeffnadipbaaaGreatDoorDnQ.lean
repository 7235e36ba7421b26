import Derived.Test.YtioeffnadipbaaaGreatDoorDnP
import Derived.RangeFuncRecord
namespace Go.Dn
open Go
theorem oB(s:ByteArray):(s==s)=true:=by
 cases s with|mk a=>exact beq_self_eq_true a
theorem kZ{P K k}(h:plainKey P K k=true):eM k k=true:=by
 unfold plainKey at h
 grind [eM,oB]
theorem qC{P K k}(h:plainKey P K k=true):Instr.sameBits 10000 k k=true:=by
 unfold plainKey at h
 grind [Instr.sameBits,oB]
theorem rV{C K V d}(r:C.P.underlying K=some d){g}(n:plainKey C.P K g=true){a v}(p:bu C.P a V)(o:Rel C a v) b:
  ∀l c i,cE C V l c->(∀e,e∈c->plainKey C.P K e.key=true)->
   (r7 l g=false/\Instr.findNow d g c i=some none/\cE C V (fw l g a) (c++[⟨g,v,b⟩])/\∀e,e∈c->eM g e.key=false)\/
   r7 l g=true/\∃j e,c[j]? =some e/\e.key=g/\Instr.findNow d g c i=some (some (i+j,e.val))/\cE C V (fw l g a) (c.set j ⟨g,v,e.born⟩)
 |[],[],i,_,_=> .inl ⟨rfl,rfl,by simp[fw,cE,p,o],by simp⟩
 |[],_::_,_,h,_=>by simp[cE] at h
 |_::_,[],_,h,_=>by simp[cE] at h
 | (k,x)::l,e::c,i,h,t=>by
  simp only[cE] at h;obtain⟨m,B,D,s⟩:=h;have q:=qD r n (t e (by simp));rw[m] at q;cases f:eM g k with
  |true=>
   right
   refine⟨by simp[r7,f],0,e,rfl,by rw[m];exact(CL f).symm,by simp[Instr.findNow,m,q,f],?_⟩;simp[fw,f,cE,p,o,s]
  | false=>
   rcases rV r n p o b l c (i+1) s (fun e E=>t e (by simp[E])) with⟨w,u,y,z⟩|⟨w,j,F,u,y,z,A⟩
   ·simp_all[r7,Instr.findNow,fw,cE,ap0]
   ·right
    exact⟨by simp[r7,w],j+1,F,by simpa using u,y,by simp[Instr.findNow,m,q,f,z];omega,by simp[fw,f,cE,m,B,D,A]⟩
theorem xa{P K b a}(h:lF P K b a){f v}(g:plainKey P K f=true)(i: ∀e,e∈b->eM f e.key=false):lF P K (b++[⟨f,v,a⟩]) (a+1):=by
 refine⟨fun e c=>?_,?_,?_,fun e c=>?_⟩
 ·rcases List.mem_append.1 c with c|c
  ·exact h.keys e c
  grind
 ·rw[List.pairwise_append]
  exact⟨h.apart,by simp,by grind⟩
 ·rw[List.pairwise_append]
  exact⟨h.born,by simp,fun e c j d=>by simp[List.mem_singleton] at d;subst d;exact h.clock e c⟩
 ·rcases List.mem_append.1 c with c|c
  ·have:=h.clock e c;omega
  grind
theorem rn{α β:Type}(f:α->β): ∀(l:List _) j x y,l[j]? =some y->f x=f y->(l.set j x).map f=l.map f
 |[],_,_,_,h,_=>by rfl
 |a::l,0,x,y,h,b=>by grind
 |a::l,j+1,x,y,h,b=>by
  have:=rn f l j x y (by grind) b
  grind
theorem tx{P K c d}(h:lF P K c d){j e}(l:c[j]? =some e){v}:lF P K (c.set j ⟨e.key,v,e.born⟩) d:=by
 have m:=rn (fun x:MapEntry=>x.key) c j ⟨e.key,v,e.born⟩ e l rfl;have k:=rn (fun x:MapEntry=>x.born) c j ⟨e.key,v,e.born⟩ e l rfl;refine⟨fun x i=>?_,?_,?_,fun x i=>?_⟩
 ·have:x.key∈(c.set j _).map _:=List.mem_map.2 ⟨x,i,rfl⟩
  rw[m] at this;obtain⟨y,g,f⟩:=List.mem_map.1 this;rw[←f];exact h.keys y g
 ·have:((c.set j ⟨e.key,v,e.born⟩).map (fun x:MapEntry=>x.key)).Pairwise (fun a b=>eM b a=false):=by
   rw[m,List.pairwise_map];exact h.apart
  grind
 ·have:((c.set j ⟨e.key,v,e.born⟩).map (fun x:MapEntry=>x.born)).Pairwise (fun a b=>a<b):=by
   rw[k,List.pairwise_map];exact h.born
  grind
 ·have:x.born∈(c.set j _).map _:=List.mem_map.2 ⟨x,i,rfl⟩
  rw[k] at this;obtain⟨y,g,f⟩:=List.mem_map.1 this;rw[←f];exact h.clock y g
theorem sg{C}(hI:Inv C){i}(hi:i<C.st.length){K V es es'}(hst:au C.st i= .map K V es){entries entries' clock clock'}
  (hh:C.w.heap[(C.ι i).block]? =some (.map entries clock)) (hkeep:eb entries clock entries' clock') (hent:cE C V es' entries'.toList) (hm:lF C.P K entries'.toList clock'):
  Inv (C.dR i (.map K V es') (C.w.putObj (C.ι i).block (.map entries' clock')))/\Ext C.st.length C (C.dR i (.map K V es') (C.w.putObj (C.ι i).block (.map entries' clock'))):=by
 have hob:=hI.obj i hi;rw[hst] at hob;have hX:=hob.1;have hlt:=(Array.getElem?_eq_some_iff.1 hh).1;have hown:cv (C.ι i) (au C.st i)=true:=by rw[hst];rfl
 have hother: ∀b,b≠(C.ι i).block->(C.w.putObj (C.ι i).block (.map entries' clock')).heap[b]? =C.w.heap[b]? :=fun b hb=>World.putObj_heap_other hb
 have hsame:(C.w.putObj (C.ι i).block (.map entries' clock')).heap[(C.ι i).block]? =some (.map entries' clock'):=World.putObj_heap_same hlt;have hs:au (C.dR i (.map K V es') (C.w.putObj (C.ι i).block (.map entries' clock'))).st i= .map K V es':=bn _ _ _ hi;have hk:bK C (C.dR i (.map K V es') _):=⟨rfl,fun _ h=>h,fun b hb=>hother b (fun e=>hX (e▸hb))⟩
 refine hJ hI hi hown (by simp) ⟨rfl,rfl,rfl⟩ hother ⟨by simp only[Ctx.dR,a9];exact hi,fun T xs hx=>?_,fun T b hx=>?_,fun K' V' es0 hx=>?_,fun r hx=>?_,fun m n ks hx=>?_,fun t hx=>?_,fun s p hx=>?_,by grind,by grind⟩ ⟨hX,entries',clock',hsame,hent.gr hk hI.lay,hm⟩
 ·rw[hs] at hx;simp[ib] at hx
 ·rw[hs] at hx;cases hx
 ·rw[hs] at hx;cases hx
  refine⟨es,hst,rfl,fun en cl hh'=>⟨entries',clock',hsame,?_⟩⟩;rw[hh] at hh';cases hh'
  exact hkeep
 ·rw[hs] at hx;cases hx
 ·rw[hs] at hx;cases hx
 ·rw[hs] at hx;cases hx
 ·rw[hs] at hx;cases hx
theorem run_setObj_map{P w b a c} o(h:w.heap[b]? =some (.map a c)):(setObj b o).run P w= .ok () (w.putObj b o):=by
 grind [setObj,Sem.run,World.putObj]
theorem A4{a:List MapEntry}{j e}(f:a[j]? =some e) v: ∀x,x∈a->∃d,d∈a.set j ⟨e.key,v,e.born⟩/\d.key=x.key/\d.born=x.born:=by
 intro x h;obtain⟨k,g⟩:=List.mem_iff_getElem?.1 h;by_cases c:j=k
 ·subst c
  rw[f] at g;cases g
  have b:=(List.getElem?_eq_some_iff.1 f).1;exact⟨⟨e.key,v,_⟩,List.mem_iff_getElem?.2 ⟨j,by simp[b]⟩,rfl,rfl⟩
 ·exact⟨x,List.mem_iff_getElem?.2 ⟨k,by grind⟩,rfl,rfl⟩
theorem wQ b a k v:eb b a (b.push ⟨k,v,a⟩) (a+1):=by
 refine⟨by grind,fun e d c=>?_,by grind,by simp⟩
 grind
theorem tw{b a d j e v}(f:b.toList[j]? =some e)(h:a.toList=b.toList.set j ⟨e.key,v,e.born⟩):eb b d a d:=by
 refine⟨fun x c=>?_,fun x c _=>?_,?_,Nat.le_refl _⟩
 ·obtain⟨i,k,l,g⟩:=A4 f v x (by grind)
  grind
 ·rw[←Array.mem_toList_iff] at c
  grind
 ·have:=congrArg List.length h
  grind
theorem qV(a:Array MapEntry) j e f(b:a.toList[j]? =some e):(a.modify j f).toList=a.toList.set j (f e):=by
 apply List.ext_getElem?
 grind
theorem yx{C}(z:Inv C){i}(D:i<C.st.length){T K V}(t:C.P.underlying T=some (.map K V)){n}(p:au C.st i= .map K V n){g v a}(f:plainKey C.P K g=true)
  (y:bu C.P a V) (B:Rel C a v): ∃q,(Instr.mapUpdate T (.map (some (C.ι i).block)) g v).run C.P C.w= .ok () q/\Inv (C.dR i (.map K V (fw n g a)) q)/\Ext C.st.length C (C.dR i (.map K V (fw n g a)) q):=by
 obtain⟨b,c,m,k,h⟩:=nH z D p;obtain⟨d,hd,_⟩:=fO f;have l:=run_checkKey (P:=C.P) (w:=C.w) f false 9999;have o:=qC f;rcases rV hd f y B c n b.toList 0 k h.keys with⟨A,r,u,x⟩|⟨A,j,e,r,u,x,E⟩
 ·refine⟨C.w.putObj (C.ι i).block (.map (b.push ⟨g,v,c⟩) (c+1)),?_,?_⟩
  ·simp[Instr.mapUpdate,run_underlying t,run_getObj_map m,l,Instr.findKey,run_underlying hd,r,run_setObj_map _ m]
  grind [sg,wQ,xa]
 ·have s:b[j]? =some e:=by simpa using r
  refine⟨C.w.putObj (C.ι i).block (.map (b.modify j fun e=>{e with key:=g,val:=v}) c),?_,?_⟩
  ·simp[Instr.mapUpdate,run_underlying t,run_getObj_map m,l,Instr.findKey,run_underlying hd,x,s,Instr.keyThatStays,u,o,run_setObj_map _ m]
  ·grind [qV,sg,tw,tx]
theorem A2{C}(hI:Inv C){i}(hi:i<C.st.length){T K V}(hT:C.P.underlying T=some (.map K V)){es}(hst:au C.st i= .map K V es){kv z}(hkv:plainKey C.P K kv=true)
  (hz:iC C.P V=some z): ∃w' v,(Instr.mapEntry T (.map (some (C.ι i).block)) kv).run C.P C.w= .ok v w'/\Inv (C.dR i (.map K V (fw es kv (expand C.P cd V (de es kv z)))) w')/\
   Ext C.st.length C (C.dR i (.map K V (fw es kv (expand C.P cd V (de es kv z)))) w')/\Rel (C.dR i (.map K V (fw es kv (expand C.P cd V (de es kv z)))) w') (.aK [expand C.P cd V (de es kv z), .lC i kv]) v:=by
 obtain⟨entries,clock,hh,hent,hmap⟩:=nH hI hi hst;obtain⟨d,hd,_⟩:=fO hkv;obtain⟨ti,zv,hti,hzv,hrz,hcz,hpz⟩:=dY hI hz;have hck:=run_checkKey (P:=C.P) (w:=C.w) hkv false 9999;have hsb:=qC hkv;have aK: ∀{C':Ctx} {x:AV} {u:Value} {b:Nat},Inv C'->Rel C' x u->i<C'.st.length->vM C' i kv (goInt b)->Rel C' (.aK [x, .lC i kv]) (.tuple #[u,goInt b]):=fun hI' hx hi' hs=>by
  refine cM ?_;simp only[MT];refine⟨hx.1,hx.2.1,hx.2.2, .inl rfl, .inl rfl,?_,trivial⟩;simp only[M];exact⟨hi',_,rfl,rfl,hs⟩
 have hlt:=(Array.getElem?_eq_some_iff.1 hh).1;rcases findNow_spec hd hkv z es entries.toList 0 hent hmap.keys with⟨f1,f2,f3⟩|⟨f1,j0,e0,f2,f3,f4,f5,f6⟩
 ·obtain⟨hre,hpe⟩:=eR hI hpz hrz
  rw[f2];rcases rV hd hkv hpe hre clock es entries.toList 0 hent hmap.keys with⟨g1,g2,g3,g4⟩|⟨g1,_⟩
  ·have hup:=sg hI hi hst hh (entries':=entries.push ⟨kv,zv,clock⟩) (clock':=clock+1) (wQ _ _ _ _) (by simpa using g3) (by simpa using xa hmap hkv g4)
   refine⟨C.w.putObj (C.ι i).block (.map (entries.push ⟨kv,zv,clock⟩) (clock+1)), .tuple #[zv,goInt clock],?_,hup.1,hup.2,?_⟩
   ·simp[Instr.mapEntry,run_underlying hT,run_getObj_map hh,hck,Instr.findKey,run_underlying hd,g2,run_setObj_map _ hh,jq hti hzv]
   ·refine aK hup.1 (hre.pure hup.2.keeps hI.lay hpe) (by simp only[Ctx.dR,a9];exact hi) (fun K' V' es' hx=>⟨entries.push ⟨kv,zv,clock⟩,clock+1,World.putObj_heap_same hlt,⟨kv,zv,clock⟩,by simp,rfl,rfl⟩)
  ·rw[f1] at g1;cases g1
 ·obtain⟨hre,hpe⟩:=eR hI f6 f5
  rcases rV hd hkv hpe hre clock es entries.toList 0 hent hmap.keys with⟨g1,_⟩|⟨g1,j,e,g2,g3,g4,g5⟩
  ·rw[f1] at g1;cases g1
  ·rw[f4] at g4
   simp only[an5,ao1,Nat.zero_add] at g4;obtain⟨rfl,he0⟩:=g4;rw[f2] at g2;cases g2
   have g2':entries[j0]? =some e0:=by simpa using f2
   have hms:=qV entries j0 e0 (fun e=>{e with key:=kv}) f2;have hup:=sg hI hi hst hh (entries':=entries.modify j0 fun e=>{e with key:=kv}) (clock':=clock) (tw f2 (v:=e0.val) (by rw[hms,g3])) (by rw[hms];exact g5) (by rw[hms];have:=tx hmap f2 (v:=e0.val);rw[g3] at this;exact this);refine⟨C.w.putObj (C.ι i).block (.map (entries.modify j0 fun e=>{e with key:=kv}) clock), .tuple #[e0.val,goInt e0.born],?_,hup.1,hup.2,?_⟩
   ·simp[Instr.mapEntry,run_underlying hT,run_getObj_map hh,hck,Instr.findKey,run_underlying hd,f4,g2',Instr.keyThatStays,g3,hsb,run_setObj_map _ hh]
   ·refine aK hup.1 (hre.pure hup.2.keeps hI.lay hpe) (by simp only[Ctx.dR,a9];exact hi) (fun K' V' es' hx=>⟨_,clock,World.putObj_heap_same hlt,{e0 with key:=kv},?_,rfl,rfl⟩)
    rw[←Array.mem_toList_iff,hms];have hlt0:=(List.getElem?_eq_some_iff.1 f2).1;exact List.mem_iff_getElem?.2 ⟨j0,by rw[List.getElem?_set];simp;simpa using hlt0⟩
theorem wi{C}(O:Inv C){i}(U:i<C.st.length){T K V s}(y:au C.st i= .map K V s){B v J a}(l:plainKey C.P K B=true)
  (Q:bu C.P a V) (W:Rel C a v) (R:vM C i B J): ∃H,(Instr.entryStore T (.map (some (C.ι i).block)) J v).run C.P C.w= .ok () H/\Inv (C.dR i (.map K V (fw s B a)) H)/\Ext C.st.length C (C.dR i (.map K V (fw s B a)) H):=by
 obtain⟨b,g,E,t,f⟩:=nH O U y;obtain⟨d,hd,_⟩:=fO l;obtain⟨r,z,x,A,u,n,rfl⟩:=R K V s y;rw[E] at x;cases x
 obtain⟨m,c⟩:=List.mem_iff_getElem?.1 (Array.mem_toList_iff.2 u);rcases rV hd l Q W g s b.toList 0 t f.keys with⟨N,p,F,L⟩|⟨N,j,e,p,F,L,Z⟩
 ·have:=L A (Array.mem_toList_iff.2 u)
  rw[n,kZ l] at this;cases this
 ·
  have D:m=j:=by
   rcases Nat.lt_trichotomy m j with h|h|h
   ·have:=List.pairwise_iff_getElem.1 f.apart m j (List.getElem?_eq_some_iff.1 c).1 (List.getElem?_eq_some_iff.1 p).1 h
    rw[(List.getElem?_eq_some_iff.1 c).2,(List.getElem?_eq_some_iff.1 p).2,F,n,kZ l] at this;cases this
   ·exact h
   ·have:=List.pairwise_iff_getElem.1 f.apart j m (List.getElem?_eq_some_iff.1 p).1 (List.getElem?_eq_some_iff.1 c).1 h
    rw[(List.getElem?_eq_some_iff.1 c).2,(List.getElem?_eq_some_iff.1 p).2,F,n,kZ l] at this;cases this
  subst D;rw[c] at p;cases p
  have o:=(List.getElem?_eq_some_iff.1 c).1;have q:b.findIdx? (fun e=>(e.born:Int)==(A.born:Int))=some m:=by
   rw[Array.findIdx?_eq_some_iff_getElem];have I:b[m]'(by simpa using o)=A:=by have:=(List.getElem?_eq_some_iff.1 c).2;simpa using this
   refine⟨by simpa using o,by rw[I];simp,fun k Y=>?_⟩;have:=List.pairwise_iff_getElem.1 f.born k m (by omega) o Y
   rw[(List.getElem?_eq_some_iff.1 c).2] at this;simp only[Array.getElem_toList] at this;simp;omega
  have X:=qV b m A (fun e=>{e with val:=v}) c;refine⟨C.w.putObj (C.ι i).block (.map (b.modify m fun e=>{e with val:=v}) g),?_,?_⟩
  ·simp[Instr.entryStore,run_getObj_map E,asInt,asIntOf,q,run_setObj_map _ E]
  grind [sg,tw,tx]
end Go.Dn
