import Derived.Test.YthaiinlfnommnaaGreatDoorDoA
namespace Go.Dn
open Go
def eh(rec:Rec):Prop:=∀f rd base c s (K K':Exit->S->Prop),(∀e s,K e s->K' e s)->rec f rd base c s K->rec f rd base c s K'
structure aj(E:Env):Prop where
 call: ∀f args st (K K':AV->List Obj->Prop),(∀a st,K a st->K' a st)->E.call f args st K->E.call f args st K'
 loop: ∀f k c rd base s (K K':Exit->S->Prop),(∀e s,K e s->K' e s)->E.loop f k c rd base s K->E.loop f k c rd base s K'
 lF: ∀f k g args st (K K':List Obj->Prop),(∀st,K st->K' st)->E.lF f k g args st K->E.lF f k g args st K'
theorem r4{E:Env}{rec:Rec}(hr:eh rec){f:FuncId}{args:List AV}{st:List Obj}{K K':AV->List Obj->Prop}(hK: ∀a st,K a st->K' a st)(h:mI E rec f args st K):mI E rec f args st K':=by
 unfold mI at h⊢
 split at h<;>try exact h.elim
 rename_i fn hfn
 split at h<;>try exact h.elim
 rename_i c hc
 try simp only[hfn]
 try simp only[hc]
 refine hr _ _ _ _ _ _ _ ?_ h
 intro e s hh
 cases e with
 |normal=>
  simp only[] at hh⊢;split at hh<;>try exact hh.elim
  exact hK _ _ hh
 |ret=>
  simp only[] at hh⊢;split at hh<;>try exact hh.elim
  exact hK _ _ hh
 |_=>exact hh.elim
theorem vf{E:Env}(hE:aj E){f:FuncId}{args:List AV}{st:List Obj}{K K':AV->List Obj->Prop}(hK: ∀a st,K a st->K' a st)(h:pE E f args st K):pE E f args st K':=
 dd (fun hh=>by
  simp only[kV,mj,kG] at hh⊢
  exact hE.call _ _ _ _ _ (fun _ _ hh=>hK _ _ hh) hh) h
theorem D5{rec:Rec}(hr:eh rec){l:Nat}{args:List AV}{st:List Obj}{K K':AV->List Obj->Prop}(hK: ∀a st,K a st->K' a st)(h:gG rec l args st K):gG rec l args st K':=by
 unfold gG at h⊢
 split at h<;>try exact h.elim
 rename_i r hl
 try simp only[hl]
 split at h<;>try exact h.elim
 rename_i hc
 try rw[if_pos hc]
 refine hr _ _ _ _ _ _ _ ?_ h
 intro e s hh
 cases e with
 | normal=>
  simp only[] at hh⊢
  split at hh<;>try exact hh.elim
  split at hh<;>try exact hh.elim
  rename_i hc2
  try rw[if_pos hc2]
  refine hr _ _ _ _ _ _ _ ?_ hh
  intro e2 s2 h2
  cases e2 with
  |normal=>
   simp only[] at h2⊢;split at h2<;>try exact h2.elim
   exact hK _ _ h2
  |ret=>
   simp only[] at h2⊢;split at h2<;>try exact h2.elim
   exact hK _ _ h2
  |exit id=>
   simp only[] at h2⊢;split at h2<;>try exact h2.elim
   exact hK _ _ h2
  |_=>simp only[] at h2;split at h2<;>exact h2.elim
 |_=>exact hh.elim
theorem mf{E:Env}(hE:aj E){rec:Rec}(hr:eh rec){g:AV}{args:List AV}{st:List Obj}{K K':AV->List Obj->Prop}(hK: ∀a st,K a st->K' a st)(h:nF E rec g args st K):nF E rec g args st K':=by
 unfold nF at h⊢
 split at h<;>try exact h.elim
 ·split at h
  ·rename_i h1
   try rw[if_pos h1]
   exact r4 hr hK h
  ·rename_i h1
   try rw[if_neg h1]
   split at h
   ·rename_i h2
    try rw[if_pos h2]
    exact vf hE hK h
   ·rename_i h2
    try rw[if_neg h2]
    split at h<;>try exact h.elim
    exact vf hE hK h
 ·split at h
  ·rename_i t ht
   try simp only[ht]
   unfold zp at h⊢
   split at h<;>try exact h.elim
   rename_i xs as is hl
   try simp only[hl]
   exact dd (fun⟨rest,e,h1,h2⟩=>⟨rest,e,hK _ _ h1,hK _ _ h2⟩) h
  ·exact D5 hr hK h
theorem Jm{E:Env}(hE:aj E){rec:Rec}(hr:eh rec){s1 s2:S}{o:Op}(hs:sJ o s1 s2)(hst:s1.st=s2.st){d1 d2:Option Tmp}{K1 K2:S->Prop}
  (hK: ∀st a,(ea E.quiet o<2->st=s2.st)->K1 (put {s1 with st:=st} d1 a)->K2 (put {s2 with st:=st} d2 a)) (h:sO E rec s1 d1 o K1):sO E rec s2 d2 o K2:=by
 have e1:({s1 with st:=s2.st}:S)=s1:=by rw[←hst]
 unfold sO at h⊢
 split at h
 ·rename_i hc
  have hK': ∀st a,K1 (put {s1 with st:=st} d1 a)->K2 (put {s2 with st:=st} d2 a):=fun st a=>hK st a (by rw[hc];omega)
  rw[Ae hs,hst] at h
  split at h
  ·rename_i g args hcal
   refine mf hE hr (fun a st h=>?_) h
   cases hq:(ua E.calm o&& !Hf E g args s2.st) with
   |true=>rw[hq] at h;exact⟨h.1,hK' st a h.2⟩
   |false=>rw[hq] at h;exact hK' st a h
  ·exact v8 hs hst hK' h
 ·rename_i x hc
  have hlt:ea E.quiet o<2:=by
   have:ea E.quiet o<=2:=by
    cases o with
    | call c=>
     obtain⟨callee,args,ats⟩:=c
     cases callee with
     |builtin b=>cases b<;>simp[ea]
     |value g=>
      cases g<;>simp only[ea]<;>try omega
      rename_i f
      cases E.quiet f<;>cases G4 args.toList<;>simp
     |invoke r m=>simp[ea]
    |_=>simp[ea]
   rcases Nat.lt_or_ge (ea E.quiet o) 2 with h|h
   ·exact h
   ·exact absurd (Nat.le_antisymm this h) (by intro e;exact hc e)
  rw[xq hs hst] at h
  split at h
  ·rename_i c a hr
   have:=hK s2.st a (fun _=>rfl)
   rw[e1] at this
   exact dd this h
  ·split at h<;>try exact h.elim
   rename_i c a b _
   have hc1:=hs.ev c (by simp[opsOf])
   have ha1:=hs.ev a (by simp[opsOf])
   have hb1:=hs.ev b (by simp[opsOf])
   rw[hc1] at h
   split at h<;>try exact h.elim
   rename_i t ht
   have ht1:ev s1 c= .lit (.bool t):=hc1.trans ht
   cases t with
   |true=>
    simp only[aD] at h⊢
    rw[eP ht1,ha1] at h
    rw[eP ht]
    have:=hK s2.st (ev s2 a) (fun _=>rfl)
    rw[e1] at this
    exact this h
   |false=>
    simp only[aD] at h⊢
    rw[eP ht1,hb1] at h
    rw[eP ht]
    have:=hK s2.st (ev s2 b) (fun _=>rfl)
    rw[e1] at this
    exact this h
def Looks(ops:List Oper)(o:Oper)(s1 s2:S):Prop:=∀t,zj ops o t=true->nth s1.bk t=nth s2.bk t
theorem rq{t:Nat}: ∀{l:List Operand},Operand.tmp t∈l->xX t l=true
 |[],h=>by simp at h
 | x::l,h=>by
  simp only[ac3] at h
  rcases h with rfl|h
  ·simp[xX]
  ·cases x<;>simp only[xX]
   ·rw[rq h];simp
   all_goals exact rq h
theorem Looks.same{ops:List Oper}{o:Oper}{s1 s2:S}(h:Looks ops o s1 s2):sJ o.op s1 s2:=⟨fun x hx=>by
 cases x with
 |tmp t=>exact h t (by simp[zj,rq hx])
 |_=>rfl⟩
theorem Looks.guard{ops:List Oper}{o:Oper}{s1 s2:S}(h:Looks ops o s1 s2){j:Nat}{b:Bool}{t:Tmp}(hg:o.guard=some (j,b))(ht:lb ops j=some t):nth s1.bk t=nth s2.bk t:=
 h t (by simp[zj,hg,ht])
theorem ie{ops:List Oper}{p1 p2:S->(S->Prop)->Prop}{o:Oper}{s1 s2:S}{K1 K2:S->Prop}(hl:Looks ops o s1 s2)(hp:p1 s1 K1->p2 s2 K2)(hK:K1 (put s1 o.dst (.ba []))->K2 (put s2 o.dst (.ba [])))(h:iQ ops p1 o s1 K1):iQ ops p2 o s2 K2:=by
 unfold iQ at h⊢
 cases hg:o.guard with
 |none=>rw[hg] at h;exact hp h
 | some g=>
  obtain⟨j,b⟩:=g
  rw[hg] at h
  simp only[] at h⊢
  cases ht:lb ops j with
  |none=>rw[ht] at h;exact h.elim
  | some t=>
   rw[ht] at h
   simp only[] at h⊢
   rw[hl.guard hg ht] at h
   split at h<;>try exact h.elim
   ·split at h
    ·rename_i h1
     try rw[if_pos h1]
     exact hp h
    ·rename_i h1
     try rw[if_neg h1]
     exact hK h
   ·exact hK h
theorem ma{E:Env}(hE:aj E){rec:Rec}(hr:eh rec){ops:List Oper}{s1 s2:S}{o:Oper}(hl:Looks ops o s1 s2)(hst:s1.st=s2.st){K1 K2:S->Prop}
  (hK: ∀st a,(ea E.quiet o.op<2->st=s2.st)->K1 (put {s1 with st:=st} o.dst a)->K2 (put {s2 with st:=st} o.dst a)) (h:dg E rec ops o s1 K1):dg E rec ops o s2 K2:=by
 rw[dT] at h⊢
 refine ie hl (Jm hE hr hl.same hst hK) ?_ h
 have:=hK s2.st (.ba []) (fun _=>rfl)
 have e1:({s1 with st:=s2.st}:S)=s1:=by rw[←hst]
 rw[e1] at this
 exact this
theorem de{E:Env}(hE:aj E){rec:Rec}(hr:eh rec){ops:List Oper}{s:S}{o:Oper}{K1 K2:S->Prop}(hK: ∀s,K1 s->K2 s)(h:dg E rec ops o s K1):dg E rec ops o s K2:=
 ma hE hr (fun _ _=>rfl) rfl (fun _ _ _=>hK _) h
theorem oh{E:Env}{rec:Rec}{ops:List Oper}{o:Oper}{s:S}{K:S->Prop}(hc:ea E.quiet o.op<2)(h:dg E rec ops o s K): ∃a,K (put s o.dst a)/\∀(s':S) (K':S->Prop),Looks ops o s s'->(ea E.quiet o.op=1->Kept s.st s'.st)->K' (put s' o.dst a)->dg E rec ops o s' K':=by
 rw[dT] at h
 have hop: ∀{s:S},sO E rec s o.dst o.op K->∃a,K (put s o.dst a)/\∀(s':S) (K':S->Prop),sJ o.op s s'->(ea E.quiet o.op=1->Kept s.st s'.st)->K' (put s' o.dst a)->sO E rec s' o.dst o.op K':=by
  intro s h
  unfold sO at h
  split at h
  ·omega
  ·have hcong: ∀s' x,sJ o.op s s'->(ea E.quiet o.op=1->Kept s.st s'.st)->bG E s o.op=some x->bG E s' o.op=some x:=fun s' x hs hst hx=>by
    rcases Nat.eq_zero_or_pos (ea E.quiet o.op) with e|e
    ·rw[←Cr hs e];exact hx
    ·exact GD hs (hst (by omega)) hx
   split at h
   ·rename_i c a hr
    obtain⟨hc1,hc2⟩:=an.1 h
    refine⟨a,hc2,fun s' K' hs hst hk=>?_⟩
    unfold sO
    split
    ·omega
    ·rw[hcong s' _ hs hst hr];exact an.2 ⟨hc1,hk⟩
   ·rename_i hr
    generalize hoo:o.op=oo at h
    split at h<;>try exact h.elim
    rename_i c x y
    split at h<;>try exact h.elim
    rename_i t ht
    rw[hoo] at hcong hr
    have hx: ∀s',sJ (.pick c x y) s s'->ev s c=ev s' c/\ev s x=ev s' x/\ev s y=ev s' y:=fun s' hs=>
     ⟨hs.ev c (by simp[opsOf]),hs.ev x (by simp[opsOf]),hs.ev y (by simp[opsOf])⟩
    cases t with
    |true=>
     simp only[aD] at h
     rw[eP ht] at h
     refine⟨ev s x,h,fun s' K' hs hst hk=>?_⟩
     obtain⟨e1,e2,_⟩:=hx s' hs
     have hr':bG E s' (.pick c x y)=none:=rfl
     simp only[sO,ea,hr']
     rw[←e1,ht]
     simp only[aD]
     rw[e1] at ht
     rw[eP ht,←e2];exact hk
    |false=>
     simp only[aD] at h
     rw[eP ht] at h
     refine⟨ev s y,h,fun s' K' hs hst hk=>?_⟩
     obtain⟨e1,_,e2⟩:=hx s' hs
     have hr':bG E s' (.pick c x y)=none:=rfl
     simp only[sO,ea,hr']
     rw[←e1,ht]
     simp only[aD]
     rw[e1] at ht
     rw[eP ht,←e2];exact hk
 unfold iQ at h
 cases hg:o.guard with
 |none=>
  rw[hg] at h
  obtain⟨a,h1,h2⟩:=hop h
  refine⟨a,h1,fun s' K' hl hst hk=>?_⟩
  rw[dT]
  unfold iQ
  rw[hg]
  exact h2 s' K' hl.same hst hk
 | some g=>
  obtain⟨j,b⟩:=g
  rw[hg] at h
  simp only[] at h
  cases ht:lb ops j with
  |none=>rw[ht] at h;exact h.elim
  | some t=>
   rw[ht] at h
   simp only[] at h
   split at h<;>try exact h.elim
   rotate_left
   ·rename_i hb
    refine⟨.ba [],h,fun s' K' hl hst hk=>?_⟩
    rw[dT]
    unfold iQ
    rw[hg]
    simp only[ht]
    rw[←hl.guard hg ht,hb]
    exact hk
   rename_i bb hb
   split at h
   ·rename_i h0
    obtain⟨a,h1,h2⟩:=hop h
    refine⟨a,h1,fun s' K' hl hst hk=>?_⟩
    rw[dT]
    unfold iQ
    rw[hg]
    simp only[ht]
    rw[←hl.guard hg ht,hb]
    simp only[]
    rw[if_pos h0]
    exact h2 s' K' hl.same hst hk
   ·rename_i h0
    refine⟨.ba [],h,fun s' K' hl hst hk=>?_⟩
    rw[dT]
    unfold iQ
    rw[hg]
    simp only[ht]
    rw[←hl.guard hg ht,hb]
    simp only[]
    rw[if_neg h0]
    exact hk
end Go.Dn
