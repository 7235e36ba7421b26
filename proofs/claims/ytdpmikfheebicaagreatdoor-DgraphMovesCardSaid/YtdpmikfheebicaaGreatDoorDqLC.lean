import Derived.Test.YtdpmikfheebicaaGreatDoorDqMA
namespace Go.Proofs.YtdpmikfheebicaaGreatDoor
open Go Go.Dn Go.Rl Go.Proofs
attribute [local irreducible] bg vc
set_option maxRecDepth 20000
theorem ZO(κ:Kp)(ds rs:List AV)(i k:Int)(K:AV->List Dn.Obj->Prop):(bg (PG κ) 12 5 [gz ds rs, .int i, .int k] [] K)=(
 letI z1:=nth rs k.toNat
 letI z2:=nth rs i.toNat
 letI z3:=decide ((0:Int)<=i)&&decide (i<(↑(0+rs.length):Int))
 letI z4:=decide ((0:Int)<=k)&&decide (k<(↑(0+rs.length):Int))
 letI z5:=decide ((0:Int)<=k)&&decide (k<(↑(rs.length):Int))
 letI z6:=decide ((0:Int)<=i)&&decide (i<(↑(rs.length):Int))
 letI z7:=toStr (ad (ad z1 0) 0)
 letI z8:=toStr (ad (ad z2 0) 0)
 letI z9:=decide ((0+rs.length+1)*73<=70368744177664)
 letI z10:=ah (ad (ad z1 0) 1)
 letI z11:=ah (ad (ad z2 0) 1)
 letI z12:=true&&decide ((Int.toNat (↑(rs.length):Int)+1)*73<=70368744177664)&&true
 letI z13:=toInt (ad z1 2)
 letI z14:=toInt (ad z2 2)
 letI z15:=ah (ad z1 1)
 letI z16:=ah (ad z2 1)
 aO (decide (ds.length<=9223372036854775807)&&List.all ds fun(e0:AV)=>decide (List.length (ah (ad e0 1))<=9223372036854775807)) (ax ((bif fW ds rs then
 (1:Int) else(0:Int))==(0:Int)) (K (AV.bool true) []) (ax (decide (i<(0:Int))) (K (AV.bool true) []) (ax (decide (k<(0:Int))) (K (AV.bool true)
 []) (ax (decide (i>=(↑(rs.length):Int))) (K (AV.bool true) []) (ax (decide (k>=(↑(rs.length):Int))) (K (AV.bool true) []) (aO z12 (aO z9 (aO z5 (aO z3 (aO
 z6 (aO z4 (∃(e2:ga),([AV.agg [AV.ae 62 ds,AV.ae 41 rs]],aB)=([AV.agg [AV.ae 62 e2.1,AV.ae 41 e2.2]],aB)/\(e2.1.length<=9223372036854775807/\
 e2.2.length<=9223372036854775807/\∀(e0:AV),List.Mem e0 e2.2->aM (aa (aH 52 (ba.hl (bM e0)) (ba.bl (bM e0))))<=100000/\List.length (ba.bl (bM e0))<=
 100000)/\ax (decide (Prod.snd (cr e2.1 e2.2)=(0:Int))) (∃(e1:ga),([AV.agg [AV.ae 62 ds,AV.ae 41 (List.take (0+rs.length) (List.drop 0 (bQ (bQ ([]++
 rs) (0+i.toNat) (AV.agg [AV.agg [AV.str z7,AV.ae 52 z10],AV.ae 55 z15,AV.int z13])) (0+k.toNat) (AV.agg [AV.agg [AV.str z8,AV.ae 52 z11],AV.ae 55 z16,
 AV.int z14]))))]],aB)=([AV.agg [AV.ae 62 e1.1,AV.ae 41 e1.2]],aB)/\(e1.1.length<=9223372036854775807/\e1.2.length<=9223372036854775807/\∀(e0:AV),
 List.Mem e0 e1.2->aM (aa (aH 52 (ba.hl (bM e0)) (ba.bl (bM e0))))<=100000/\List.length (ba.bl (bM e0))<=100000)/\ax (decide (Prod.snd (cr e1.1 e1.2)=(0:
 Int))) (aO (fY (List.take (List.length (bU (dA e2.1 e2.2))) (List.drop 0 (bU (dA e2.1 e2.2))))) (K (AV.bool (ir (List.take (List.length (bU (dA e2.1 e2.2)))
 (List.drop 0 (bU (dA e2.1 e2.2)))) (List.take (List.length (bU (dA e1.1 e1.2))) (List.drop 0 (bU (dA e1.1 e1.2)))))) [])) (ax (true==(Prod.snd (cr e1.1 e1.2)
 ==(0:Int))) (aO (fY (List.take (List.length (bU (dA e2.1 e2.2))) (List.drop 0 (bU (dA e2.1 e2.2))))) (K (AV.bool (ir (List.take (List.length (bU (dA e2.1
 e2.2))) (List.drop 0 (bU (dA e2.1 e2.2)))) [])) [])) (K (AV.bool false) []))) (∃(e1:ga),([AV.agg [AV.ae 62 ds,AV.ae 41 (List.take (0+rs.length)
 (List.drop 0 (bQ (bQ ([]++rs) (0+i.toNat) (AV.agg [AV.agg [AV.str z7,AV.ae 52 z10],AV.ae 55 z15,AV.int z13])) (0+k.toNat) (AV.agg [AV.agg [AV.str z8,
 AV.ae 52 z11],AV.ae 55 z16,AV.int z14]))))]],aB)=([AV.agg [AV.ae 62 e1.1,AV.ae 41 e1.2]],aB)/\(e1.1.length<=9223372036854775807/\e1.2.length<=
 9223372036854775807/\∀(e0:AV),List.Mem e0 e1.2->aM (aa (aH 52 (ba.hl (bM e0)) (ba.bl (bM e0))))<=100000/\List.length (ba.bl (bM e0))<=100000)/\ax
 (decide (Prod.snd (cr e1.1 e1.2)=(0:Int))) (ax ((Prod.snd (cr e2.1 e2.2)==(0:Int))==true) (K (AV.bool (ir [] (List.take (List.length (bU (dA e1.1
 e1.2))) (List.drop 0 (bU (dA e1.1 e1.2)))))) []) (K (AV.bool false) [])) (ax ((Prod.snd (cr e2.1 e2.2)==(0:Int))==(Prod.snd (cr e1.1 e1.2)==(0:Int)))
 (K (AV.bool true) []) (K (AV.bool false) []))))))))/\aO z9 (aO z5 (aO z3 (aO z6 (aO z4 (∃(e2:ga),([AV.agg [AV.ae 62 ds,AV.ae 41 rs]],aB)=([AV.agg
 [AV.ae 62 e2.1,AV.ae 41 e2.2]],aB)/\(e2.1.length<=9223372036854775807/\e2.2.length<=9223372036854775807/\∀(e0:AV),List.Mem e0 e2.2->aM (aa (aH 52
 (ba.hl (bM e0)) (ba.bl (bM e0))))<=100000/\List.length (ba.bl (bM e0))<=100000)/\ax (decide (Prod.snd (cr e2.1 e2.2)=(0:Int))) (∃(e1:ga),([AV.agg
 [AV.ae 62 ds,AV.ae 41 (List.take (0+rs.length) (List.drop 0 (bQ (bQ ([]++rs) (0+i.toNat) (AV.agg [AV.agg [AV.str z7,AV.ae 52 z10],AV.ae 55 z15,AV.int
 z13])) (0+k.toNat) (AV.agg [AV.agg [AV.str z8,AV.ae 52 z11],AV.ae 55 z16,AV.int z14]))))]],aB)=([AV.agg [AV.ae 62 e1.1,AV.ae 41 e1.2]],aB)/\
 (e1.1.length<=9223372036854775807/\e1.2.length<=9223372036854775807/\∀(e0:AV),List.Mem e0 e1.2->aM (aa (aH 52 (ba.hl (bM e0)) (ba.bl (bM e0))))<=
 100000/\List.length (ba.bl (bM e0))<=100000)/\ax (decide (Prod.snd (cr e1.1 e1.2)=(0:Int))) (aO (fY (List.take (List.length (bU (dA e2.1 e2.2)))
 (List.drop 0 (bU (dA e2.1 e2.2))))) (K (AV.bool (ir (List.take (List.length (bU (dA e2.1 e2.2))) (List.drop 0 (bU (dA e2.1 e2.2)))) (List.take (List.length (bU
 (dA e1.1 e1.2))) (List.drop 0 (bU (dA e1.1 e1.2)))))) [])) (ax (true==(Prod.snd (cr e1.1 e1.2)==(0:Int))) (aO (fY (List.take (List.length (bU (dA e2.1
 e2.2))) (List.drop 0 (bU (dA e2.1 e2.2))))) (K (AV.bool (ir (List.take (List.length (bU (dA e2.1 e2.2))) (List.drop 0 (bU (dA e2.1 e2.2)))) [])) [])) (K
 (AV.bool false) []))) (∃(e1:ga),([AV.agg [AV.ae 62 ds,AV.ae 41 (List.take (0+rs.length) (List.drop 0 (bQ (bQ ([]++rs) (0+i.toNat) (AV.agg [AV.agg
 [AV.str z7,AV.ae 52 z10],AV.ae 55 z15,AV.int z13])) (0+k.toNat) (AV.agg [AV.agg [AV.str z8,AV.ae 52 z11],AV.ae 55 z16,AV.int z14]))))]],aB)=([AV.agg
 [AV.ae 62 e1.1,AV.ae 41 e1.2]],aB)/\(e1.1.length<=9223372036854775807/\e1.2.length<=9223372036854775807/\∀(e0:AV),List.Mem e0 e1.2->aM (aa (aH 52
 (ba.hl (bM e0)) (ba.bl (bM e0))))<=100000/\List.length (ba.bl (bM e0))<=100000)/\ax (decide (Prod.snd (cr e1.1 e1.2)=(0:Int))) (ax ((Prod.snd (cr e2.1
 e2.2)==(0:Int))==true) (K (AV.bool (ir [] (List.take (List.length (bU (dA e1.1 e1.2))) (List.drop 0 (bU (dA e1.1 e1.2)))))) []) (K (AV.bool false) []))
 (ax ((Prod.snd (cr e2.1 e2.2)==(0:Int))==(Prod.snd (cr e1.1 e1.2)==(0:Int))) (K (AV.bool true) []) (K (AV.bool false) [])))))))))/\aO z12 (aO z9 (aO
 z5 (aO z3 (aO z6 (aO z4 (∃(e2:ga),([AV.agg [AV.ae 62 ds,AV.ae 41 rs]],aB)=([AV.agg [AV.ae 62 e2.1,AV.ae 41 e2.2]],aB)/\(e2.1.length<=
 9223372036854775807/\e2.2.length<=9223372036854775807/\∀(e0:AV),List.Mem e0 e2.2->aM (aa (aH 52 (ba.hl (bM e0)) (ba.bl (bM e0))))<=100000/\List.length
 (ba.bl (bM e0))<=100000)/\ax (decide (Prod.snd (cr e2.1 e2.2)=(0:Int))) (∃(e1:ga),([AV.agg [AV.ae 62 ds,AV.ae 41 (List.take (0+rs.length)
 (List.drop 0 (bQ (bQ ([]++rs) (0+i.toNat) (AV.agg [AV.agg [AV.str z7,AV.ae 52 z10],AV.ae 55 z15,AV.int z13])) (0+k.toNat) (AV.agg [AV.agg [AV.str z8,
 AV.ae 52 z11],AV.ae 55 z16,AV.int z14]))))]],aB)=([AV.agg [AV.ae 62 e1.1,AV.ae 41 e1.2]],aB)/\(e1.1.length<=9223372036854775807/\e1.2.length<=
 9223372036854775807/\∀(e0:AV),List.Mem e0 e1.2->aM (aa (aH 52 (ba.hl (bM e0)) (ba.bl (bM e0))))<=100000/\List.length (ba.bl (bM e0))<=100000)/\ax
 (decide (Prod.snd (cr e1.1 e1.2)=(0:Int))) (aO (fY (List.take (List.length (bU (dA e2.1 e2.2))) (List.drop 0 (bU (dA e2.1 e2.2))))) (K (AV.bool (ir
 (List.take (List.length (bU (dA e2.1 e2.2))) (List.drop 0 (bU (dA e2.1 e2.2)))) (List.take (List.length (bU (dA e1.1 e1.2))) (List.drop 0 (bU (dA e1.1
 e1.2)))))) [])) (ax (true==(Prod.snd (cr e1.1 e1.2)==(0:Int))) (aO (fY (List.take (List.length (bU (dA e2.1 e2.2))) (List.drop 0 (bU (dA e2.1 e2.2))))) (K
 (AV.bool (ir (List.take (List.length (bU (dA e2.1 e2.2))) (List.drop 0 (bU (dA e2.1 e2.2)))) [])) [])) (K (AV.bool false) []))) (∃(e1:ga),([AV.agg [AV.ae 62
 ds,AV.ae 41 (List.take (0+rs.length) (List.drop 0 (bQ (bQ ([]++rs) (0+i.toNat) (AV.agg [AV.agg [AV.str z7,AV.ae 52 z10],AV.ae 55 z15,AV.int z13])) (0
 +k.toNat) (AV.agg [AV.agg [AV.str z8,AV.ae 52 z11],AV.ae 55 z16,AV.int z14]))))]],aB)=([AV.agg [AV.ae 62 e1.1,AV.ae 41 e1.2]],aB)/\(e1.1.length<=
 9223372036854775807/\e1.2.length<=9223372036854775807/\∀(e0:AV),List.Mem e0 e1.2->aM (aa (aH 52 (ba.hl (bM e0)) (ba.bl (bM e0))))<=100000/\List.length
 (ba.bl (bM e0))<=100000)/\ax (decide (Prod.snd (cr e1.1 e1.2)=(0:Int))) (ax ((Prod.snd (cr e2.1 e2.2)==(0:Int))==true) (K (AV.bool (ir [] (List.take
 (List.length (bU (dA e1.1 e1.2))) (List.drop 0 (bU (dA e1.1 e1.2)))))) []) (K (AV.bool false) [])) (ax ((Prod.snd (cr e2.1 e2.2)==(0:Int))==(Prod.snd (cr
 e1.1 e1.2)==(0:Int))) (K (AV.bool true) []) (K (AV.bool false) [])))))))))))))))):=by kernel_rfl
theorem Ik{l:List AV}{i k:Nat}(hi:i<l.length)(hk:k<l.length)(r:AV):r∈(l.set i (nth l k)).set k (nth l i)↔r∈l:=by
 have e1:nth l i=l[i]:=a8 l i hi
 have e2:nth l k=l[k]:=a8 l k hk
 rw[e1,e2]
 constructor
 ·intro h
  rcases List.mem_or_eq_of_mem_set h with h|rfl
  ·rcases List.mem_or_eq_of_mem_set h with h|rfl
   ·exact h
   ·exact List.getElem_mem _
  ·exact List.getElem_mem _
 ·intro h
  obtain⟨j,hj,rfl⟩:=List.mem_iff_getElem.1 h
  by_cases h1:j=i
  ·subst h1
   exact List.mem_iff_getElem.2 ⟨k,by simpa using hk,by simp⟩
  ·by_cases h2:j=k
   ·subst h2
    exact List.mem_iff_getElem.2 ⟨i,by simpa using hi,by simp[List.getElem_set,h1]⟩
   ·exact List.mem_iff_getElem.2 ⟨j,by simpa using hj,by simp[List.getElem_set,Ne.symm h1,Ne.symm h2]⟩
theorem tc: ∀(l:List AV) (k:Nat) (x:AV),k<l.length->bQ l k x=l.set k x
 |[],_,_,h=>nomatch h
 |_::_,0,_,_=>rfl
 |a::l,k+1,x,h=>by rw[bQ,tc l k x (by simpa using h)];rfl
theorem OG(κ:Kp)(ds rs:List AV)(i k:Int)(h1:ds.length<=aP)(h2: ∀d,d∈ds->(ah (ad d 1)).length<=aP)(h3: ∀r,r∈rs->an (bM r)=r):dj (Pr κ) 5 [gz ds rs, .int i, .int k] [] (fun r _=>r= .bool true):=by
 refine gL (R7 κ) (Sj κ) (N:=12) ?_
 refine Eq.mpr (ZO κ ds rs i k _) (vo h1 h2 rfl fun hs=>?_)
 have hp:=nf hs
 have hl:=A4 hs
 rw[af]
 refine⟨fun _=>rfl,fun hi=>?_⟩
 rw[af]
 refine⟨fun _=>rfl,fun hk=>?_⟩
 rw[af]
 refine⟨fun _=>rfl,fun hi2=>?_⟩
 rw[af]
 refine⟨fun _=>rfl,fun hk2=>?_⟩
 have hi:=of_decide_eq_false hi
 have hk:=of_decide_eq_false hk
 have hi2:=of_decide_eq_false hi2
 have hk2:=of_decide_eq_false hk2
 have mi:nth rs i.toNat∈rs:=by rw[a8 _ _ (by omega)];exact List.getElem_mem _
 have mk:nth rs k.toNat∈rs:=by rw[a8 _ _ (by omega)];exact List.getElem_mem _
 have ei:=h3 _ mi
 have ek:=h3 _ mk
 simp only[an,bM] at ei ek
 have hq:List.take rs.length (bQ (bQ rs i.toNat (nth rs k.toNat)) k.toNat (nth rs i.toNat))=(rs.set i.toNat (nth rs k.toNat)).set k.toNat (nth rs i.toNat):=by
  rw[tc rs _ _ (by omega),tc _ _ _ (by rw[List.length_set];omega)]
  exact List.take_of_length_le (by simp)
 have hm:=Ik (l:=rs) (i:=i.toNat) (k:=k.toNat) (by omega) (by omega)
 have hlen:((rs.set i.toNat (nth rs k.toNat)).set k.toNat (nth rs i.toNat)).length=rs.length:=by simp
 simp only[Int.toNat_natCast,ab0,List.take_length,Nat.zero_add,List.nil_append,ei,ek,hq]
 generalize (rs.set i.toNat (nth rs k.toNat)).set k.toNat (nth rs i.toNat)=q at*
 clear hq ei ek mi mk
 have hp':=xa (fun r hr=>(hm r).1 hr) (by omega) hp
 have g1:(cr ds rs).2=0->(cr ds q).2=0:=BN (fun r hr=>(hm r).1 hr) (by omega) hp
 have g2:(cr ds q).2=0->(cr ds rs).2=0:=BN (fun r hr=>(hm r).2 hr) (by omega) hp'
 clear hs h2 h3
 by_cases hg:(cr ds rs).2=0
 ·have f1:=fA (oM.1 hg).1
  have f2:=fA (oM.1 (g1 hg)).1
  have hsame:dA ds rs=dA ds q:=I2 (fun r=>(hm r).symm) f1 f2
  have hfit:=Di (rs:=q) f1.hd
  repeat' first
   |(refine⟨(ds,rs),rfl,hp,(af).2 ⟨fun _=>⟨(ds,q),rfl,hp',(af).2 ⟨fun _=>au.2 ⟨?_,?_⟩,fun e=>absurd (g1 hg) (of_decide_eq_false e)⟩⟩,fun e=>absurd hg (of_decide_eq_false e)⟩⟩<;>simp only[hsame,hfit,CA])
   |refine au.2 ⟨?_,?_⟩
   |(simp only[ab9,Bool.and_true,aa1,aa0];omega)
   |refine And.intro ?_ ?_
 ·have hg2: ¬ (cr ds q).2=0:=fun h=>hg (g2 h)
  have e1:((cr ds rs).2==0)=false:=by simpa using hg
  have e2:((cr ds q).2==0)=false:=by simpa using hg2
  repeat' first
   |(refine⟨(ds,rs),rfl,hp,(af).2 ⟨fun e=>absurd (of_decide_eq_true e) hg,fun _=>⟨(ds,q),rfl,hp',(af).2 ⟨fun e=>absurd (of_decide_eq_true e) hg2,fun _=>?_⟩⟩⟩⟩;simp only[e1,e2];exact trivial)
   |refine au.2 ⟨?_,?_⟩
   |(simp only[ab9,Bool.and_true,aa1,aa0];omega)
   |refine And.intro ?_ ?_
end Go.Proofs.YtdpmikfheebicaaGreatDoor
