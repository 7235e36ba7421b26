import Derived.Test.YthaiinlfnommnaaGreatDoorDoA
namespace Go.Dn
open Go
def eB(rec:Rec):Prop:=∀f rd base c s (K K':Exit->S->Prop),(∀e s,K e s->K' e s)->rec f rd base c s K->rec f rd base c s K'
structure aj(E:Env):Prop where
 call: ∀f args st (K K':AV->List Obj->Prop),(∀a st,K a st->K' a st)->E.call f args st K->E.call f args st K'
 loop: ∀f k c rd base s (K K':Exit->S->Prop),(∀e s,K e s->K' e s)->E.loop f k c rd base s K->E.loop f k c rd base s K'
 ke: ∀f k g args st (K K':List Obj->Prop),(∀st,K st->K' st)->E.ke f k g args st K->E.ke f k g args st K'
theorem tu{E:Env}{rec:Rec}(hr:eB rec){f:FuncId}{args:List AV}{st:List Obj}{K K':AV->List Obj->Prop}(hK: ∀a st,K a st->K' a st)(h:mN E rec f args st K):mN E rec f args st K':=by
 unfold mN at h⊢
 split at h<;>try exact h.elim
 rename_i fn hfn
 split at h<;>try exact h.elim
 rename_i c hc
 try simp only[hfn]
 try simp only[hc]
 refine hr _ _ _ _ _ _ _ ?_ h
 intro e s hh
 cases e with
 |normal=>
  simp only[] at hh⊢;split at hh<;>try exact hh.elim
  exact hK _ _ hh
 |ret=>
  simp only[] at hh⊢;split at hh<;>try exact hh.elim
  exact hK _ _ hh
 |_=>exact hh.elim
theorem uq{E:Env}(hE:aj E){f:FuncId}{args:List AV}{st:List Obj}{K K':AV->List Obj->Prop}(hK: ∀a st,K a st->K' a st)(h:pT E f args st K):pT E f args st K':=
 dj (fun hh=>by
  simp only[lu,mP,kK] at hh⊢
  exact hE.call _ _ _ _ _ (fun _ _ hh=>hK _ _ hh) hh) h
theorem E4{rec:Rec}(hr:eB rec){l:Nat}{args:List AV}{st:List Obj}{K K':AV->List Obj->Prop}(hK: ∀a st,K a st->K' a st)(h:gW rec l args st K):gW rec l args st K':=by
 unfold gW at h⊢
 split at h<;>try exact h.elim
 rename_i r hl
 try simp only[hl]
 split at h<;>try exact h.elim
 rename_i hc
 try rw[if_pos hc]
 refine hr _ _ _ _ _ _ _ ?_ h
 intro e s hh
 cases e with
 | normal=>
  simp only[] at hh⊢
  split at hh<;>try exact hh.elim
  split at hh<;>try exact hh.elim
  rename_i hc2
  try rw[if_pos hc2]
  refine hr _ _ _ _ _ _ _ ?_ hh
  intro e2 s2 h2
  cases e2 with
  |normal=>
   simp only[] at h2⊢;split at h2<;>try exact h2.elim
   exact hK _ _ h2
  |ret=>
   simp only[] at h2⊢;split at h2<;>try exact h2.elim
   exact hK _ _ h2
  |exit id=>
   simp only[] at h2⊢;split at h2<;>try exact h2.elim
   exact hK _ _ h2
  |_=>simp only[] at h2;split at h2<;>exact h2.elim
 |_=>exact hh.elim
theorem mA{E:Env}(hE:aj E){rec:Rec}(hr:eB rec){g:AV}{args:List AV}{st:List Obj}{K K':AV->List Obj->Prop}(hK: ∀a st,K a st->K' a st)(h:oG E rec g args st K):oG E rec g args st K':=by
 unfold oG at h⊢
 split at h<;>try exact h.elim
 ·split at h
  ·rename_i h1
   try rw[if_pos h1]
   exact tu hr hK h
  ·rename_i h1
   try rw[if_neg h1]
   split at h
   ·rename_i h2
    try rw[if_pos h2]
    exact uq hE hK h
   ·rename_i h2
    try rw[if_neg h2]
    split at h<;>try exact h.elim
    exact uq hE hK h
 ·split at h
  ·rename_i t ht
   try simp only[ht]
   unfold y5 at h⊢
   split at h<;>try exact h.elim
   rename_i xs as is hl
   try simp only[hl]
   exact dj (fun⟨rest,e,h1,h2⟩=>⟨rest,e,hK _ _ h1,hK _ _ h2⟩) h
  ·exact E4 hr hK h
theorem K3{E:Env}(hE:aj E){rec:Rec}(hr:eB rec){s1 s2:S}{o:Op}(hs:tC o s1 s2)(hst:s1.st=s2.st){d1 d2:Option Tmp}{K1 K2:S->Prop}
  (hK: ∀st a,(er E.quiet o<2->st=s2.st)->K1 (put {s1 with st:=st} d1 a)->K2 (put {s2 with st:=st} d2 a)) (h:tw E rec s1 d1 o K1):tw E rec s2 d2 o K2:=by
 have e1:({s1 with st:=s2.st}:S)=s1:=by rw[←hst]
 unfold tw at h⊢
 split at h
 ·rename_i hc
  have hK': ∀st a,K1 (put {s1 with st:=st} d1 a)->K2 (put {s2 with st:=st} d2 a):=fun st a=>hK st a (by rw[hc];omega)
  rw[Bm hs,hst] at h
  split at h
  ·rename_i g args hcal
   refine mA hE hr (fun a st h=>?_) h
   cases hq:(xa E.calm o&& !II E g args s2.st) with
   |true=>rw[hq] at h;exact⟨h.1,hK' st a h.2⟩
   |false=>rw[hq] at h;exact hK' st a h
  ·exact vh hs hst hK' h
 ·rename_i x hc
  have hlt:er E.quiet o<2:=by
   have:er E.quiet o<=2:=by
    cases o with
    | call c=>
     obtain⟨callee,args,ats⟩:=c
     cases callee with
     |builtin b=>cases b<;>simp[er]
     |value g=>
      cases g<;>simp only[er]<;>try omega
      rename_i f
      cases E.quiet f<;>cases Jf args.toList<;>simp
     |invoke r m=>simp[er]
    |_=>simp[er]
   rcases Nat.lt_or_ge (er E.quiet o) 2 with h|h
   ·exact h
   ·exact absurd (Nat.le_antisymm this h) (by intro e;exact hc e)
  rw[xK hs hst] at h
  split at h
  ·rename_i c a hr
   have:=hK s2.st a (fun _=>rfl)
   rw[e1] at this
   exact dj this h
  ·split at h<;>try exact h.elim
   rename_i c a b _
   have hc1:=hs.ev c (by simp[opsOf])
   have ha1:=hs.ev a (by simp[opsOf])
   have hb1:=hs.ev b (by simp[opsOf])
   rw[hc1] at h
   split at h<;>try exact h.elim
   rename_i t ht
   have ht1:ev s1 c= .lit (.bool t):=hc1.trans ht
   cases t with
   |true=>
    simp only[aD] at h⊢
    rw[eY ht1,ha1] at h
    rw[eY ht]
    have:=hK s2.st (ev s2 a) (fun _=>rfl)
    rw[e1] at this
    exact this h
   |false=>
    simp only[aD] at h⊢
    rw[eY ht1,hb1] at h
    rw[eY ht]
    have:=hK s2.st (ev s2 b) (fun _=>rfl)
    rw[e1] at this
    exact this h
def Looks(ops:List Oper)(o:Oper)(s1 s2:S):Prop:=∀t,Ay ops o t=true->nth s1.bn t=nth s2.bn t
theorem rL{t:Nat}: ∀{l:List Operand},Operand.tmp t∈l->yu t l=true
 |[],h=>by simp at h
 | x::l,h=>by
  simp only[ac3] at h
  rcases h with rfl|h
  ·simp[yu]
  ·cases x<;>simp only[yu]
   ·rw[rL h];simp
   all_goals exact rL h
theorem Looks.same{ops:List Oper}{o:Oper}{s1 s2:S}(h:Looks ops o s1 s2):tC o.op s1 s2:=⟨fun x hx=>by
 cases x with
 |tmp t=>exact h t (by simp[Ay,rL hx])
 |_=>rfl⟩
theorem Looks.guard{ops:List Oper}{o:Oper}{s1 s2:S}(h:Looks ops o s1 s2){j:Nat}{b:Bool}{t:Tmp}(hg:o.guard=some (j,b))(ht:lE ops j=some t):nth s1.bn t=nth s2.bn t:=
 h t (by simp[Ay,hg,ht])
theorem iF{ops:List Oper}{p1 p2:S->(S->Prop)->Prop}{o:Oper}{s1 s2:S}{K1 K2:S->Prop}(hl:Looks ops o s1 s2)(hp:p1 s1 K1->p2 s2 K2)(hK:K1 (put s1 o.dst (.bh []))->K2 (put s2 o.dst (.bh [])))(h:je ops p1 o s1 K1):je ops p2 o s2 K2:=by
 unfold je at h⊢
 cases hg:o.guard with
 |none=>rw[hg] at h;exact hp h
 | some g=>
  obtain⟨j,b⟩:=g
  rw[hg] at h
  simp only[] at h⊢
  cases ht:lE ops j with
  |none=>rw[ht] at h;exact h.elim
  | some t=>
   rw[ht] at h
   simp only[] at h⊢
   rw[hl.guard hg ht] at h
   split at h<;>try exact h.elim
   ·split at h
    ·rename_i h1
     try rw[if_pos h1]
     exact hp h
    ·rename_i h1
     try rw[if_neg h1]
     exact hK h
   ·exact hK h
theorem mQ{E:Env}(hE:aj E){rec:Rec}(hr:eB rec){ops:List Oper}{s1 s2:S}{o:Oper}(hl:Looks ops o s1 s2)(hst:s1.st=s2.st){K1 K2:S->Prop}
  (hK: ∀st a,(er E.quiet o.op<2->st=s2.st)->K1 (put {s1 with st:=st} o.dst a)->K2 (put {s2 with st:=st} o.dst a)) (h:dn E rec ops o s1 K1):dn E rec ops o s2 K2:=by
 rw[ea] at h⊢
 refine iF hl (K3 hE hr hl.same hst hK) ?_ h
 have:=hK s2.st (.bh []) (fun _=>rfl)
 have e1:({s1 with st:=s2.st}:S)=s1:=by rw[←hst]
 rw[e1] at this
 exact this
theorem dk{E:Env}(hE:aj E){rec:Rec}(hr:eB rec){ops:List Oper}{s:S}{o:Oper}{K1 K2:S->Prop}(hK: ∀s,K1 s->K2 s)(h:dn E rec ops o s K1):dn E rec ops o s K2:=
 mQ hE hr (fun _ _=>rfl) rfl (fun _ _ _=>hK _) h
theorem pc{E:Env}{rec:Rec}{ops:List Oper}{o:Oper}{s:S}{K:S->Prop}(hc:er E.quiet o.op<2)(h:dn E rec ops o s K): ∃a,K (put s o.dst a)/\∀(s':S) (K':S->Prop),Looks ops o s s'->(er E.quiet o.op=1->Kept s.st s'.st)->K' (put s' o.dst a)->dn E rec ops o s' K':=by
 rw[ea] at h
 have hop: ∀{s:S},tw E rec s o.dst o.op K->∃a,K (put s o.dst a)/\∀(s':S) (K':S->Prop),tC o.op s s'->(er E.quiet o.op=1->Kept s.st s'.st)->K' (put s' o.dst a)->tw E rec s' o.dst o.op K':=by
  intro s h
  unfold tw at h
  split at h
  ·omega
  ·have hcong: ∀s' x,tC o.op s s'->(er E.quiet o.op=1->Kept s.st s'.st)->bJ E s o.op=some x->bJ E s' o.op=some x:=fun s' x hs hst hx=>by
    rcases Nat.eq_zero_or_pos (er E.quiet o.op) with e|e
    ·rw[←Dz hs e];exact hx
    ·exact Ib hs (hst (by omega)) hx
   split at h
   ·rename_i c a hr
    obtain⟨hc1,hc2⟩:=aq.1 h
    refine⟨a,hc2,fun s' K' hs hst hk=>?_⟩
    unfold tw
    split
    ·omega
    ·rw[hcong s' _ hs hst hr];exact aq.2 ⟨hc1,hk⟩
   ·rename_i hr
    generalize hoo:o.op=oo at h
    split at h<;>try exact h.elim
    rename_i c x y
    split at h<;>try exact h.elim
    rename_i t ht
    rw[hoo] at hcong hr
    have hx: ∀s',tC (.pick c x y) s s'->ev s c=ev s' c/\ev s x=ev s' x/\ev s y=ev s' y:=fun s' hs=>
     ⟨hs.ev c (by simp[opsOf]),hs.ev x (by simp[opsOf]),hs.ev y (by simp[opsOf])⟩
    cases t with
    |true=>
     simp only[aD] at h
     rw[eY ht] at h
     refine⟨ev s x,h,fun s' K' hs hst hk=>?_⟩
     obtain⟨e1,e2,_⟩:=hx s' hs
     have hr':bJ E s' (.pick c x y)=none:=rfl
     simp only[tw,er,hr']
     rw[←e1,ht]
     simp only[aD]
     rw[e1] at ht
     rw[eY ht,←e2];exact hk
    |false=>
     simp only[aD] at h
     rw[eY ht] at h
     refine⟨ev s y,h,fun s' K' hs hst hk=>?_⟩
     obtain⟨e1,_,e2⟩:=hx s' hs
     have hr':bJ E s' (.pick c x y)=none:=rfl
     simp only[tw,er,hr']
     rw[←e1,ht]
     simp only[aD]
     rw[e1] at ht
     rw[eY ht,←e2];exact hk
 unfold je at h
 cases hg:o.guard with
 |none=>
  rw[hg] at h
  obtain⟨a,h1,h2⟩:=hop h
  refine⟨a,h1,fun s' K' hl hst hk=>?_⟩
  rw[ea]
  unfold je
  rw[hg]
  exact h2 s' K' hl.same hst hk
 | some g=>
  obtain⟨j,b⟩:=g
  rw[hg] at h
  simp only[] at h
  cases ht:lE ops j with
  |none=>rw[ht] at h;exact h.elim
  | some t=>
   rw[ht] at h
   simp only[] at h
   split at h<;>try exact h.elim
   rotate_left
   ·rename_i hb
    refine⟨.bh [],h,fun s' K' hl hst hk=>?_⟩
    rw[ea]
    unfold je
    rw[hg]
    simp only[ht]
    rw[←hl.guard hg ht,hb]
    exact hk
   rename_i bb hb
   split at h
   ·rename_i h0
    obtain⟨a,h1,h2⟩:=hop h
    refine⟨a,h1,fun s' K' hl hst hk=>?_⟩
    rw[ea]
    unfold je
    rw[hg]
    simp only[ht]
    rw[←hl.guard hg ht,hb]
    simp only[]
    rw[if_pos h0]
    exact h2 s' K' hl.same hst hk
   ·rename_i h0
    refine⟨.bh [],h,fun s' K' hl hst hk=>?_⟩
    rw[ea]
    unfold je
    rw[hg]
    simp only[ht]
    rw[←hl.guard hg ht,hb]
    simp only[]
    rw[if_neg h0]
    exact hk
end Go.Dn
