import Derived.Test.YtioeffnadipbaaaGreatDoorDnP
import Derived.RangeFuncRecord
namespace Go.Dn
open Go
theorem nL(s:ByteArray):(s==s)=true:=by
 cases s with|mk a=>exact beq_self_eq_true a
theorem ko{P:Program}{K:TypeId}{k:Value}(h:plainKey P K k=true):dm k k=true:=by
 unfold plainKey at h
 grind [dm,nL]
theorem o4{P:Program}{K:TypeId}{k:Value}(h:plainKey P K k=true):Instr.sameBits 10000 k k=true:=by
 unfold plainKey at h
 cases k<;>simp at h<;>simp[Instr.sameBits]
 rename_i s
 exact nL s
theorem qx{C:Ctx}{K V:TypeId}{d:TypeDesc}(hK:C.P.underlying K=some d){kv:Value}(hkv:plainKey C.P K kv=true){a:AV}{v:Value}(ht:br C.P a V)(hr:Rel C a v)(b:Nat):
  ∀(es:List (Value×AV)) (ents:List MapEntry) (i:Nat),bZ C V es ents->(∀e,e∈ents->plainKey C.P K e.key=true)->
   (re es kv=false/\Instr.findNow d kv ents i=some none/\bZ C V (eX es kv a) (ents++[⟨kv,v,b⟩])/\∀e,e∈ents->dm kv e.key=false)\/
   (re es kv=true/\∃j e,ents[j]? =some e/\e.key=kv/\Instr.findNow d kv ents i=some (some (i+j,e.val))/\bZ C V (eX es kv a) (ents.set j ⟨kv,v,e.born⟩))
 |[],[],i,_,_=> .inl ⟨rfl,rfl,by simp[eX,bZ,ht,hr],by simp⟩
 |[],_::_,_,h,_=>by simp[bZ] at h
 |_::_,[],_,h,_=>by simp[bZ] at h
 | (k,x)::es,e::ents,i,h,hp=>by
  simp only[bZ] at h
  obtain⟨h1,h2,h3,h4⟩:=h
  have hs:=pf hK hkv (hp e (by simp))
  rw[h1] at hs
  cases hke:dm kv k with
  |true=>
   right
   refine⟨by simp[re,hke],0,e,rfl,by rw[h1];exact(B4 hke).symm,by simp[Instr.findNow,h1,hs,hke],?_⟩
   simp[eX,hke,bZ,ht,hr,h4]
  | false=>
   rcases qx hK hkv ht hr b es ents (i+1) h4 (fun e he=>hp e (by simp[he])) with⟨g1,g2,g3,g4⟩|⟨g1,j,e',g2,g3,g4,g5⟩
   ·left
    refine⟨by simp[re,hke,g1],by simp[Instr.findNow,h1,hs,hke,g2],by simp[eX,hke,bZ,h1,h2,h3,g3],fun e' he'=>?_⟩
    rcases List.mem_cons.1 he' with rfl|he'
    ·rw[h1];exact hke
    ·exact g4 e' he'
   ·right
    exact⟨by simp[re,g1],j+1,e',by simpa using g2,g3,by simp[Instr.findNow,h1,hs,hke,g4];omega,by simp[eX,hke,bZ,h1,h2,h3,g5]⟩
theorem uw{P:Program}{K:TypeId}{ents:List MapEntry}{clock:Nat}(h:k9 P K ents clock){kv v:Value}(hkv:plainKey P K kv=true)(hno: ∀e,e∈ents->dm kv e.key=false):k9 P K (ents++[⟨kv,v,clock⟩]) (clock+1):=by
 refine⟨fun e he=>?_,?_,?_,fun e he=>?_⟩
 ·rcases List.mem_append.1 he with he|he
  ·exact h.keys e he
  ·simp only[List.mem_singleton] at he;subst he;exact hkv
 ·rw[List.pairwise_append]
  exact⟨h.apart,by simp,fun e he e' he'=>by simp only[List.mem_singleton] at he';subst he';exact hno e he⟩
 ·rw[List.pairwise_append]
  exact⟨h.born,by simp,fun e he e' he'=>by simp only[List.mem_singleton] at he';subst he';exact h.clock e he⟩
 ·rcases List.mem_append.1 he with he|he
  ·have:=h.clock e he;omega
  ·simp only[List.mem_singleton] at he;subst he;show clock<clock+1;omega
theorem pI{α β:Type}(f:α->β): ∀(l:List α) (j:Nat) (x y:α),l[j]? =some y->f x=f y->(l.set j x).map f=l.map f
 |[],_,_,_,h,_=>by simp at h
 |a::l,0,x,y,h,hf=>by simp at h;subst h;simp[hf]
 |a::l,j+1,x,y,h,hf=>by
  have:=pI f l j x y (by simpa using h) hf
  simp only[List.set_cons_succ,ac0,this]
theorem r4{P:Program}{K:TypeId}{ents:List MapEntry}{clock:Nat}(h:k9 P K ents clock){j:Nat}{e:MapEntry}(he:ents[j]? =some e){v:Value}:k9 P K (ents.set j ⟨e.key,v,e.born⟩) clock:=by
 have h1:=pI (fun x:MapEntry=>x.key) ents j ⟨e.key,v,e.born⟩ e he rfl
 have h2:=pI (fun x:MapEntry=>x.born) ents j ⟨e.key,v,e.born⟩ e he rfl
 refine⟨fun x hx=>?_,?_,?_,fun x hx=>?_⟩
 ·have:x.key∈(ents.set j ⟨e.key,v,e.born⟩).map (fun x:MapEntry=>x.key):=List.mem_map.2 ⟨x,hx,rfl⟩
  rw[h1] at this
  obtain⟨y,hy,hyk⟩:=List.mem_map.1 this
  rw[←hyk];exact h.keys y hy
 ·have:((ents.set j ⟨e.key,v,e.born⟩).map (fun x:MapEntry=>x.key)).Pairwise (fun a b=>dm b a=false):=by
   rw[h1,List.pairwise_map];exact h.apart
  rwa [List.pairwise_map] at this
 ·have:((ents.set j ⟨e.key,v,e.born⟩).map (fun x:MapEntry=>x.born)).Pairwise (fun a b=>a<b):=by
   rw[h2,List.pairwise_map];exact h.born
  rwa [List.pairwise_map] at this
 ·have:x.born∈(ents.set j ⟨e.key,v,e.born⟩).map (fun x:MapEntry=>x.born):=List.mem_map.2 ⟨x,hx,rfl⟩
  rw[h2] at this
  obtain⟨y,hy,hyk⟩:=List.mem_map.1 this
  rw[←hyk];exact h.clock y hy
theorem qD{C:Ctx}(hI:Inv C){i:Nat}(hi:i<C.st.length){K V:TypeId}{es es':List (Value×AV)}(hst:an C.st i= .map K V es){entries entries':Array MapEntry}{clock clock':Nat}
  (hh:C.w.heap[(C.ι i).block]? =some (.map entries clock)) (hkeep:dW entries clock entries' clock') (hent:bZ C V es' entries'.toList) (hm:k9 C.P K entries'.toList clock'):
  Inv (C.dC i (.map K V es') (C.w.putObj (C.ι i).block (.map entries' clock')))/\Ext C.st.length C (C.dC i (.map K V es') (C.w.putObj (C.ι i).block (.map entries' clock'))):=by
 have hob:=hI.obj i hi
 rw[hst] at hob
 have hX:=hob.1
 have hlt:=(Array.getElem?_eq_some_iff.1 hh).1
 have hown:cr (C.ι i) (an C.st i)=true:=by rw[hst];rfl
 have hother: ∀b,b≠(C.ι i).block->(C.w.putObj (C.ι i).block (.map entries' clock')).heap[b]? =C.w.heap[b]? :=fun b hb=>World.putObj_heap_other hb
 have hsame:(C.w.putObj (C.ι i).block (.map entries' clock')).heap[(C.ι i).block]? =some (.map entries' clock'):=World.putObj_heap_same hlt
 have hs:an (C.dC i (.map K V es') (C.w.putObj (C.ι i).block (.map entries' clock'))).st i= .map K V es':=bn _ _ _ hi
 have hk:bH C (C.dC i (.map K V es') (C.w.putObj (C.ι i).block (.map entries' clock'))):=⟨rfl,fun _ h=>h,fun b hb=>hother b (fun e=>hX (e▸hb))⟩
 refine gz hI hi hown (by simp) ⟨rfl,rfl,rfl⟩ hother ⟨by simp only[Ctx.dC,aU];exact hi,fun T xs hx=>?_,fun T b hx=>?_,fun K' V' es0 hx=>?_,fun r hx=>?_,fun m n ks hx=>?_,fun t hx=>?_,fun s p hx=>?_,fun _ _ _ _ _ hx=>(by rw[hs] at hx;cases hx),fun _ _ _ _ hx=>(by rw[hs] at hx;cases hx)⟩ ⟨hX,entries',clock',hsame,hent.eu hk hI.lay,hm⟩
 ·rw[hs] at hx;simp[gC] at hx
 ·rw[hs] at hx;cases hx
 ·rw[hs] at hx;cases hx
  refine⟨es,hst,rfl,fun en cl hh'=>⟨entries',clock',hsame,?_⟩⟩
  rw[hh] at hh';cases hh'
  exact hkeep
 ·rw[hs] at hx;cases hx
 ·rw[hs] at hx;cases hx
 ·rw[hs] at hx;cases hx
 ·rw[hs] at hx;cases hx
theorem run_setObj_map{P:Program}{w:World}{b:Nat}{es:Array MapEntry}{c:Nat}(o:Go.Obj)(h:w.heap[b]? =some (.map es c)):(setObj b o).run P w= .ok () (w.putObj b o):=by
 simp[setObj,Sem.run,h,World.putObj]
theorem yZ{ents:List MapEntry}{j:Nat}{e:MapEntry}(he:ents[j]? =some e)(v:Value): ∀x,x∈ents->∃x',x'∈ents.set j ⟨e.key,v,e.born⟩/\x'.key=x.key/\x'.born=x.born:=by
 intro x hx
 obtain⟨k,hk⟩:=List.mem_iff_getElem?.1 hx
 by_cases hjk:j=k
 ·subst hjk
  rw[he] at hk;cases hk
  have hlt:=(List.getElem?_eq_some_iff.1 he).1
  exact⟨⟨e.key,v,e.born⟩,List.mem_iff_getElem?.2 ⟨j,by simp[hlt]⟩,rfl,rfl⟩
 ·exact⟨x,List.mem_iff_getElem?.2 ⟨k,by rw[List.getElem?_set_ne hjk];exact hk⟩,rfl,rfl⟩
theorem wk(en:Array MapEntry)(cl:Nat)(k v:Value):dW en cl (en.push ⟨k,v,cl⟩) (cl+1):=by
 refine⟨fun e he=>⟨e,by simp[he],rfl,rfl⟩,fun e he hb=>?_,by simp;omega,by omega⟩
 grind
theorem rZ{en en':Array MapEntry}{cl j:Nat}{e:MapEntry}{v:Value}(he:en.toList[j]? =some e)(h:en'.toList=en.toList.set j ⟨e.key,v,e.born⟩):dW en cl en' cl:=by
 refine⟨fun x hx=>?_,fun x hx _=>?_,?_,Nat.le_refl _⟩
 ·obtain⟨x',h1,h2,h3⟩:=yZ he v x (by simpa using hx)
  grind
 ·rw[←Array.mem_toList_iff,h] at hx
  grind
 ·have:=congrArg List.length h
  simp at this
  omega
theorem pA(es:Array MapEntry)(j:Nat)(e:MapEntry)(f:MapEntry->MapEntry)(he:es.toList[j]? =some e):(es.modify j f).toList=es.toList.set j (f e):=by
 rw[Array.toList_modify]
 apply List.ext_getElem?
 grind
theorem wE{C:Ctx}(hI:Inv C){i:Nat}(hi:i<C.st.length){T K V:TypeId}(hT:C.P.underlying T=some (.map K V)){es:List (Value×AV)}(hst:an C.st i= .map K V es){kv v:Value}{a:AV}(hkv:plainKey C.P K kv=true)
  (ht:br C.P a V) (hr:Rel C a v): ∃w',(Instr.mapUpdate T (.map (some (C.ι i).block)) kv v).run C.P C.w= .ok () w'/\Inv (C.dC i (.map K V (eX es kv a)) w')/\Ext C.st.length C (C.dC i (.map K V (eX es kv a)) w'):=by
 obtain⟨entries,clock,hh,hent,hmap⟩:=mF hI hi hst
 obtain⟨d,hd,_⟩:=fk hkv
 have hck:=run_checkKey (P:=C.P) (w:=C.w) hkv false 9999
 have hsb:=o4 hkv
 rcases qx hd hkv ht hr clock es entries.toList 0 hent hmap.keys with⟨g1,g2,g3,g4⟩|⟨g1,j,e,g2,g3,g4,g5⟩
 ·refine⟨C.w.putObj (C.ι i).block (.map (entries.push ⟨kv,v,clock⟩) (clock+1)),?_,?_⟩
  ·simp[Instr.mapUpdate,run_underlying hT,run_getObj_map hh,hck,Instr.findKey,run_underlying hd,g2,run_setObj_map _ hh]
  ·exact qD hI hi hst hh (wk _ _ _ _) (by simpa using g3) (by simpa using uw hmap hkv g4)
 ·have g2':entries[j]? =some e:=by simpa using g2
  refine⟨C.w.putObj (C.ι i).block (.map (entries.modify j fun e=>{e with key:=kv,val:=v}) clock),?_,?_⟩
  ·simp[Instr.mapUpdate,run_underlying hT,run_getObj_map hh,hck,Instr.findKey,run_underlying hd,g4,g2',Instr.keyThatStays,g3,hsb,run_setObj_map _ hh]
  ·grind [pA,qD,rZ,r4]
theorem z6{C:Ctx}(hI:Inv C){i:Nat}(hi:i<C.st.length){T K V:TypeId}(hT:C.P.underlying T=some (.map K V)){es:List (Value×AV)}(hst:an C.st i= .map K V es){kv:Value}{z:AV}(hkv:plainKey C.P K kv=true)
  (hz:gG C.P V=some z): ∃w' v,(Instr.mapEntry T (.map (some (C.ι i).block)) kv).run C.P C.w= .ok v w'/\Inv (C.dC i (.map K V (eX es kv (expand C.P bX V (dO es kv z)))) w')/\
   Ext C.st.length C (C.dC i (.map K V (eX es kv (expand C.P bX V (dO es kv z)))) w')/\Rel (C.dC i (.map K V (eX es kv (expand C.P bX V (dO es kv z)))) w') (.aX [expand C.P bX V (dO es kv z), .jV i kv]) v:=by
 obtain⟨entries,clock,hh,hent,hmap⟩:=mF hI hi hst
 obtain⟨d,hd,_⟩:=fk hkv
 obtain⟨ti,zv,hti,hzv,hrz,hcz,hpz⟩:=ec hI hz
 have hck:=run_checkKey (P:=C.P) (w:=C.w) hkv false 9999
 have hsb:=o4 hkv
 have aX: ∀{C':Ctx} {x:AV} {u:Value} {b:Nat},Inv C'->Rel C' x u->i<C'.st.length->vR C' i kv (goInt b)->Rel C' (.aX [x, .jV i kv]) (.tuple #[u,goInt b]):=fun hI' hx hi' hs=>by
  refine cL ?_
  simp only[MT]
  refine⟨hx.1,hx.2.1,hx.2.2, .inl rfl, .inl rfl,?_,trivial⟩
  simp only[M]
  exact⟨hi',_,rfl,rfl,hs⟩
 have hlt:=(Array.getElem?_eq_some_iff.1 hh).1
 rcases findNow_spec hd hkv z es entries.toList 0 hent hmap.keys with⟨f1,f2,f3⟩|⟨f1,j0,e0,f2,f3,f4,f5,f6⟩
 ·obtain⟨hre,hpe⟩:=fc hI hpz hrz
  rw[f2]
  rcases qx hd hkv hpe hre clock es entries.toList 0 hent hmap.keys with⟨g1,g2,g3,g4⟩|⟨g1,_⟩
  ·have hup:=qD hI hi hst hh (entries':=entries.push ⟨kv,zv,clock⟩) (clock':=clock+1) (wk _ _ _ _) (by simpa using g3) (by simpa using uw hmap hkv g4)
   refine⟨C.w.putObj (C.ι i).block (.map (entries.push ⟨kv,zv,clock⟩) (clock+1)), .tuple #[zv,goInt clock],?_,hup.1,hup.2,?_⟩
   ·simp[Instr.mapEntry,run_underlying hT,run_getObj_map hh,hck,Instr.findKey,run_underlying hd,g2,run_setObj_map _ hh,jq hti hzv]
   ·refine aX hup.1 (hre.pure hup.2.keeps hI.lay hpe) (by simp only[Ctx.dC,aU];exact hi) (fun K' V' es' hx=>⟨entries.push ⟨kv,zv,clock⟩,clock+1,World.putObj_heap_same hlt,⟨kv,zv,clock⟩,by simp,rfl,rfl⟩)
  ·rw[f1] at g1;cases g1
 ·obtain⟨hre,hpe⟩:=fc hI f6 f5
  rcases qx hd hkv hpe hre clock es entries.toList 0 hent hmap.keys with⟨g1,_⟩|⟨g1,j,e,g2,g3,g4,g5⟩
  ·rw[f1] at g1;cases g1
  ·rw[f4] at g4
   simp only[aa3,aa9,Nat.zero_add] at g4
   obtain⟨rfl,he0⟩:=g4
   rw[f2] at g2;cases g2
   have g2':entries[j0]? =some e0:=by simpa using f2
   have hms:=pA entries j0 e0 (fun e=>{e with key:=kv}) f2
   have hup:=qD hI hi hst hh (entries':=entries.modify j0 fun e=>{e with key:=kv}) (clock':=clock) (rZ f2 (v:=e0.val) (by rw[hms,g3])) (by rw[hms];exact g5) (by rw[hms];have:=r4 hmap f2 (v:=e0.val);rw[g3] at this;exact this)
   refine⟨C.w.putObj (C.ι i).block (.map (entries.modify j0 fun e=>{e with key:=kv}) clock), .tuple #[e0.val,goInt e0.born],?_,hup.1,hup.2,?_⟩
   ·simp[Instr.mapEntry,run_underlying hT,run_getObj_map hh,hck,Instr.findKey,run_underlying hd,f4,g2',Instr.keyThatStays,g3,hsb,run_setObj_map _ hh]
   ·refine aX hup.1 (hre.pure hup.2.keeps hI.lay hpe) (by simp only[Ctx.dC,aU];exact hi) (fun K' V' es' hx=>⟨_,clock,World.putObj_heap_same hlt,{e0 with key:=kv},?_,rfl,rfl⟩)
    rw[←Array.mem_toList_iff,hms]
    have hlt0:=(List.getElem?_eq_some_iff.1 f2).1
    exact List.mem_iff_getElem?.2 ⟨j0,by rw[List.getElem?_set];simp;simpa using hlt0⟩
theorem ub{C:Ctx}(hI:Inv C){i:Nat}(hi:i<C.st.length){T K V:TypeId}{es:List (Value×AV)}(hst:an C.st i= .map K V es){kv v vs:Value}{a:AV}(hkv:plainKey C.P K kv=true)
  (ht:br C.P a V) (hr:Rel C a v) (hs:vR C i kv vs): ∃w',(Instr.entryStore T (.map (some (C.ι i).block)) vs v).run C.P C.w= .ok () w'/\Inv (C.dC i (.map K V (eX es kv a)) w')/\Ext C.st.length C (C.dC i (.map K V (eX es kv a)) w'):=by
 obtain⟨entries,clock,hh,hent,hmap⟩:=mF hI hi hst
 obtain⟨d,hd,_⟩:=fk hkv
 obtain⟨entries2,clock2,hh2,e1,he1,hk1,rfl⟩:=hs K V es hst
 rw[hh] at hh2;cases hh2
 obtain⟨j1,hj1⟩:=List.mem_iff_getElem?.1 (Array.mem_toList_iff.2 he1)
 rcases qx hd hkv ht hr clock es entries.toList 0 hent hmap.keys with⟨g1,g2,g3,g4⟩|⟨g1,j,e,g2,g3,g4,g5⟩
 ·have:=g4 e1 (Array.mem_toList_iff.2 he1)
  rw[hk1,ko hkv] at this;cases this
 ·
  have hjj:j1=j:=by
   rcases Nat.lt_trichotomy j1 j with h|h|h
   ·have:=List.pairwise_iff_getElem.1 hmap.apart j1 j (List.getElem?_eq_some_iff.1 hj1).1 (List.getElem?_eq_some_iff.1 g2).1 h
    rw[(List.getElem?_eq_some_iff.1 hj1).2,(List.getElem?_eq_some_iff.1 g2).2,g3,hk1,ko hkv] at this;cases this
   ·exact h
   ·have:=List.pairwise_iff_getElem.1 hmap.apart j j1 (List.getElem?_eq_some_iff.1 g2).1 (List.getElem?_eq_some_iff.1 hj1).1 h
    rw[(List.getElem?_eq_some_iff.1 hj1).2,(List.getElem?_eq_some_iff.1 g2).2,g3,hk1,ko hkv] at this;cases this
  subst hjj
  rw[hj1] at g2;cases g2
  have hlt:=(List.getElem?_eq_some_iff.1 hj1).1
  have hfind:entries.findIdx? (fun e=>(e.born:Int)==(e1.born:Int))=some j1:=by
   rw[Array.findIdx?_eq_some_iff_getElem]
   have hge:entries[j1]'(by simpa using hlt)=e1:=by have:=(List.getElem?_eq_some_iff.1 hj1).2;simpa using this
   refine⟨by simpa using hlt,by rw[hge];simp,fun k hk=>?_⟩
   have:=List.pairwise_iff_getElem.1 hmap.born k j1 (by omega) hlt hk
   rw[(List.getElem?_eq_some_iff.1 hj1).2] at this
   simp only[Array.getElem_toList] at this
   simp;omega
  have hms:=pA entries j1 e1 (fun e=>{e with val:=v}) hj1
  refine⟨C.w.putObj (C.ι i).block (.map (entries.modify j1 fun e=>{e with val:=v}) clock),?_,?_⟩
  ·simp[Instr.entryStore,run_getObj_map hh,asInt,asIntOf,hfind,run_setObj_map _ hh]
  ·have e1e:({e1 with val:=v}:MapEntry)=⟨kv,v,e1.born⟩:=by rw[←hk1]
   exact qD hI hi hst hh (rZ hj1 (v:=v) (by rw[hms])) (by rw[hms,e1e];exact g5) (by rw[hms,e1e];have:=r4 hmap hj1 (v:=v);rw[hk1] at this;exact this)
end Go.Dn
