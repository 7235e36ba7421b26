import Derived.Test.YtioeffnadipbaaaGreatDoorDoA
namespace Go.Dn
open Go
def eC(rec:Rec):Prop:=∀f rd base c s (K K':Exit->S->Prop),(∀e s,K e s->K' e s)->rec f rd base c s K->rec f rd base c s K'
structure aj(E:Env):Prop where
 call: ∀f args st (K K':AV->List Obj->Prop),(∀a st,K a st->K' a st)->E.call f args st K->E.call f args st K'
 loop: ∀f k c rd base s (K K':Exit->S->Prop),(∀e s,K e s->K' e s)->E.loop f k c rd base s K->E.loop f k c rd base s K'
 kW: ∀f k g args st (K K':List Obj->Prop),(∀st,K st->K' st)->E.kW f k g args st K->E.kW f k g args st K'
theorem sM{E:Env}{rec:Rec}(hr:eC rec){f:FuncId}{args:List AV}{st:List Obj}{K K':AV->List Obj->Prop}(hK: ∀a st,K a st->K' a st)(h:l6 E rec f args st K):l6 E rec f args st K':=by
 unfold l6 at h⊢
 split at h<;>try exact h.elim
 rename_i fn hfn
 split at h<;>try exact h.elim
 rename_i c hc
 try simp only[hfn]
 try simp only[hc]
 refine hr _ _ _ _ _ _ _ ?_ h
 intro e s hh
 cases e with
 |normal=>grind
 |ret=>grind
 |_=>exact hh.elim
theorem Dz{E:Env}(hE:aj E){f:FuncId}{args:List AV}{st:List Obj}{K K':AV->List Obj->Prop}(hK: ∀a st,K a st->K' a st)(h:pO E f args st K):pO E f args st K':=
 cq (fun hh=>by
  simp only[jQ,mu,kf] at hh⊢
  exact hE.call _ _ _ _ _ (fun _ _ hh=>hK _ _ hh) hh) h
theorem Cu{rec:Rec}(hr:eC rec){l:Nat}{args:List AV}{st:List Obj}{K K':AV->List Obj->Prop}(hK: ∀a st,K a st->K' a st)(h:iS rec l args st K):iS rec l args st K':=by
 unfold iS at h⊢
 split at h<;>try exact h.elim
 rename_i r hl
 try simp only[hl]
 split at h<;>try exact h.elim
 rename_i hc
 try rw[if_pos hc]
 refine hr _ _ _ _ _ _ _ ?_ h
 intro e s hh
 cases e with
 |normal=>
  simp only[] at hh⊢
  split at hh<;>try exact hh.elim
  split at hh<;>try exact hh.elim
  rename_i hc2
  try rw[if_pos hc2]
  refine hr _ _ _ _ _ _ _ ?_ hh
  intro e2 s2 h2
  cases e2 with
  |normal=>grind
  |ret=>grind
  |exit id=>grind
  |_=>grind
 |_=>exact hh.elim
theorem lW{E:Env}(hE:aj E){rec:Rec}(hr:eC rec){g:AV}{args:List AV}{st:List Obj}{K K':AV->List Obj->Prop}(hK: ∀a st,K a st->K' a st)(h:nC E rec g args st K):nC E rec g args st K':=by
 unfold nC at h⊢
 split at h<;>try exact h.elim
 ·grind [sM,Dz]
 ·split at h
  ·rename_i t ht
   try simp only[ht]
   unfold zy at h⊢
   split at h<;>try exact h.elim
   rename_i xs as is hl
   try simp only[hl]
   exact cq (fun⟨rest,e,h1,h2⟩=>⟨rest,e,hK _ _ h1,hK _ _ h2⟩) h
  ·exact Cu hr hK h
theorem KY{E:Env}(hE:aj E){rec:Rec}(hr:eC rec){s1 s2:S}{o:Op}(hs:s9 o s1 s2)(hst:s1.st=s2.st){d1 d2:Option Tmp}{K1 K2:S->Prop}
  (hK: ∀st a,(eb E.quiet o<2->st=s2.st)->K1 (put {s1 with st:=st} d1 a)->K2 (put {s2 with st:=st} d2 a)) (h:sR E rec s1 d1 o K1):sR E rec s2 d2 o K2:=by
 have e1:({s1 with st:=s2.st}:S)=s1:=by rw[←hst]
 unfold sR at h⊢
 split at h
 ·rename_i hc
  have hK': ∀st a,K1 (put {s1 with st:=st} d1 a)->K2 (put {s2 with st:=st} d2 a):=fun st a=>hK st a (by rw[hc];omega)
  rw[Bz hs,hst] at h
  split at h
  ·rename_i g args hcal
   refine lW hE hr (fun a st h=>?_) h
   cases hq:(ug E.calm o&& !Gs E g args s2.st) with
   |true=>rw[hq] at h;exact⟨h.1,hK' st a h.2⟩
   |false=>rw[hq] at h;exact hK' st a h
  ·exact uk hs hst hK' h
 ·rename_i x hc
  have hlt:eb E.quiet o<2:=by
   have:eb E.quiet o<=2:=by
    cases o with
    | call c=>
     obtain⟨callee,args,ats⟩:=c
     cases callee with
     |builtin b=>cases b<;>simp[eb]
     |value g=>
      cases g<;>simp only[eb]<;>try omega
      rename_i f
      cases E.quiet f<;>cases He args.toList<;>simp
     |invoke r m=>simp[eb]
    |_=>simp[eb]
   rcases Nat.lt_or_ge (eb E.quiet o) 2 with h|h
   ·exact h
   ·exact absurd (Nat.le_antisymm this h) (by intro e;exact hc e)
  rw[xK hs hst] at h
  split at h
  ·rename_i c a hr
   have:=hK s2.st a (fun _=>rfl)
   rw[e1] at this
   exact cq this h
  ·split at h<;>try exact h.elim
   rename_i c a b _
   have hc1:=hs.ev c (by simp[opsOf])
   have ha1:=hs.ev a (by simp[opsOf])
   have hb1:=hs.ev b (by simp[opsOf])
   rw[hc1] at h
   split at h<;>try exact h.elim
   rename_i t ht
   have ht1:ev s1 c= .lit (.bool t):=hc1.trans ht
   cases t with
   |true=>
    simp only[aw] at h⊢
    rw[eR ht1,ha1] at h
    rw[eR ht]
    have:=hK s2.st (ev s2 a) (fun _=>rfl)
    rw[e1] at this
    exact this h
   |false=>
    simp only[aw] at h⊢
    rw[eR ht1,hb1] at h
    rw[eR ht]
    have:=hK s2.st (ev s2 b) (fun _=>rfl)
    rw[e1] at this
    exact this h
def Looks(ops:List Oper)(o:Oper)(s1 s2:S):Prop:=∀t,zi ops o t=true->nth s1.bg t=nth s2.bg t
theorem sf{t:Nat}: ∀{l:List Operand},Operand.tmp t∈l->xh t l=true
 |[],h=>by simp at h
 | x::l,h=>by
  simp only[ac1] at h
  rcases h with rfl|h
  ·simp[xh]
  ·cases x<;>simp only[xh]
   ·rw[sf h];simp
   all_goals exact sf h
theorem Looks.same{ops:List Oper}{o:Oper}{s1 s2:S}(h:Looks ops o s1 s2):s9 o.op s1 s2:=⟨fun x hx=>by
 cases x with
 |tmp t=>exact h t (by simp[zi,sf hx])
 |_=>rfl⟩
theorem Looks.guard{ops:List Oper}{o:Oper}{s1 s2:S}(h:Looks ops o s1 s2){j:Nat}{b:Bool}{t:Tmp}(hg:o.guard=some (j,b))(ht:mH ops j=some t):nth s1.bg t=nth s2.bg t:=
 h t (by simp[zi,hg,ht])
theorem il{ops:List Oper}{p1 p2:S->(S->Prop)->Prop}{o:Oper}{s1 s2:S}{K1 K2:S->Prop}(hl:Looks ops o s1 s2)(hp:p1 s1 K1->p2 s2 K2)(hK:K1 (put s1 o.dst (.aX []))->K2 (put s2 o.dst (.aX [])))(h:iG ops p1 o s1 K1):iG ops p2 o s2 K2:=by
 unfold iG at h⊢
 cases hg:o.guard with
 |none=>rw[hg] at h;exact hp h
 | some g=>
  obtain⟨j,b⟩:=g
  rw[hg] at h
  simp only[] at h⊢
  cases ht:mH ops j with
  |none=>rw[ht] at h;exact h.elim
  |some t=>
   rw[ht] at h
   simp only[] at h⊢
   rw[hl.guard hg ht] at h
   grind
theorem mw{E:Env}(hE:aj E){rec:Rec}(hr:eC rec){ops:List Oper}{s1 s2:S}{o:Oper}(hl:Looks ops o s1 s2)(hst:s1.st=s2.st){K1 K2:S->Prop}
  (hK: ∀st a,(eb E.quiet o.op<2->st=s2.st)->K1 (put {s1 with st:=st} o.dst a)->K2 (put {s2 with st:=st} o.dst a)) (h:dd E rec ops o s1 K1):dd E rec ops o s2 K2:=by
 rw[dT] at h⊢
 refine il hl (KY hE hr hl.same hst hK) ?_ h
 have:=hK s2.st (.aX []) (fun _=>rfl)
 have e1:({s1 with st:=s2.st}:S)=s1:=by rw[←hst]
 rw[e1] at this
 exact this
theorem di{E:Env}(hE:aj E){rec:Rec}(hr:eC rec){ops:List Oper}{s:S}{o:Oper}{K1 K2:S->Prop}(hK: ∀s,K1 s->K2 s)(h:dd E rec ops o s K1):dd E rec ops o s K2:=
 mw hE hr (fun _ _=>rfl) rfl (fun _ _ _=>hK _) h
theorem oK{E:Env}{rec:Rec}{ops:List Oper}{o:Oper}{s:S}{K:S->Prop}(hc:eb E.quiet o.op<2)(h:dd E rec ops o s K): ∃a,K (put s o.dst a)/\∀(s':S) (K':S->Prop),Looks ops o s s'->(eb E.quiet o.op=1->Kept s.st s'.st)->K' (put s' o.dst a)->dd E rec ops o s' K':=by
 rw[dT] at h
 have hop: ∀{s:S},sR E rec s o.dst o.op K->∃a,K (put s o.dst a)/\∀(s':S) (K':S->Prop),s9 o.op s s'->(eb E.quiet o.op=1->Kept s.st s'.st)->K' (put s' o.dst a)->sR E rec s' o.dst o.op K':=by
  intro s h
  unfold sR at h
  split at h
  ·omega
  ·have hcong: ∀s' x,s9 o.op s s'->(eb E.quiet o.op=1->Kept s.st s'.st)->bF E s o.op=some x->bF E s' o.op=some x:=fun s' x hs hst hx=>by
    rcases Nat.eq_zero_or_pos (eb E.quiet o.op) with e|e
    ·rw[←CP hs e];exact hx
    ·exact G3 hs (hst (by omega)) hx
   split at h
   ·rename_i c a hr
    obtain⟨hc1,hc2⟩:=ai.1 h
    refine⟨a,hc2,fun s' K' hs hst hk=>?_⟩
    unfold sR
    split
    ·omega
    ·rw[hcong s' _ hs hst hr];exact ai.2 ⟨hc1,hk⟩
   ·rename_i hr
    generalize hoo:o.op=oo at h
    split at h<;>try exact h.elim
    rename_i c x y
    split at h<;>try exact h.elim
    rename_i t ht
    rw[hoo] at hcong hr
    have hx: ∀s',s9 (.pick c x y) s s'->ev s c=ev s' c/\ev s x=ev s' x/\ev s y=ev s' y:=fun s' hs=>
     ⟨hs.ev c (by simp[opsOf]),hs.ev x (by simp[opsOf]),hs.ev y (by simp[opsOf])⟩
    cases t with
    |true=>
     simp only[aw] at h
     rw[eR ht] at h
     refine⟨ev s x,h,fun s' K' hs hst hk=>?_⟩
     obtain⟨e1,e2,_⟩:=hx s' hs
     have hr':bF E s' (.pick c x y)=none:=rfl
     simp only[sR,eb,hr']
     rw[←e1,ht]
     simp only[aw]
     rw[e1] at ht
     rw[eR ht,←e2];exact hk
    |false=>
     simp only[aw] at h
     rw[eR ht] at h
     refine⟨ev s y,h,fun s' K' hs hst hk=>?_⟩
     obtain⟨e1,_,e2⟩:=hx s' hs
     have hr':bF E s' (.pick c x y)=none:=rfl
     simp only[sR,eb,hr']
     rw[←e1,ht]
     simp only[aw]
     rw[e1] at ht
     rw[eR ht,←e2];exact hk
 unfold iG at h
 cases hg:o.guard with
 |none=>
  rw[hg] at h
  obtain⟨a,h1,h2⟩:=hop h
  refine⟨a,h1,fun s' K' hl hst hk=>?_⟩
  rw[dT]
  unfold iG
  rw[hg]
  exact h2 s' K' hl.same hst hk
 | some g=>
  obtain⟨j,b⟩:=g
  rw[hg] at h
  simp only[] at h
  cases ht:mH ops j with
  |none=>rw[ht] at h;exact h.elim
  | some t=>
   rw[ht] at h
   simp only[] at h
   split at h<;>try exact h.elim
   rotate_left
   ·rename_i hb
    refine⟨.aX [],h,fun s' K' hl hst hk=>?_⟩
    rw[dT]
    unfold iG
    rw[hg]
    simp only[ht]
    rw[←hl.guard hg ht,hb]
    exact hk
   rename_i bb hb
   split at h
   ·rename_i h0
    obtain⟨a,h1,h2⟩:=hop h
    refine⟨a,h1,fun s' K' hl hst hk=>?_⟩
    rw[dT]
    unfold iG
    rw[hg]
    simp only[ht]
    rw[←hl.guard hg ht,hb]
    simp only[]
    rw[if_pos h0]
    exact h2 s' K' hl.same hst hk
   ·rename_i h0
    refine⟨.aX [],h,fun s' K' hl hst hk=>?_⟩
    rw[dT]
    unfold iG
    rw[hg]
    simp only[ht]
    rw[←hl.guard hg ht,hb]
    simp only[]
    rw[if_neg h0]
    exact hk
end Go.Dn
