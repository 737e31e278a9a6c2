/- Texts U7, joined. -/
import Derived.Test.YtglmjglbobhbbaaGreatDoorM24
import Derived.Test.YtglmjglbobhbbaaGreatDoorM25
import Derived.Test.YtglmjglbobhbbaaGreatDoorM26
namespace Go.Proofs.YtglmjglbobhbbaaGreatDoor
open _root_.Go.Proofs.Tryz
open Go.Ab
attribute [local irreducible] Go.Ab.tyAV Go.Ab.aw Go.Ab.aops Go.Ab.kReg Go.Ab.aThen Go.Ab.aBlk Go.Ab.acond Go.Ab.aguard Go.Ab.astep Go.Ab.AStepX Go.Ab.aRet
attribute [local irreducible] yE
def teB (t:Te):Bool:=decide (0≤t.least) && decide (t.least≤t.most) && decide (t.most≤150)
theorem teB_iff {t:Te}:teB t=true↔0≤t.least∧t.least≤t.most∧t.most≤150:=by
 unfold teB;simp [Bool.and_eq_true,and_assoc]
theorem zgW (t:Te) (k:Nat):ACall prog 96 [zhS t] k [] (.lit (.bool (teB t))) []:=by
 obtain ⟨x,y⟩:=t
 unfold zhS
 by_cases h1:0≤x
 ·by_cases h2:x≤y
  ·by_cases h3:y≤150
   ·have hr:teB ⟨x,y⟩=true:=by simp [teB, *]
    rw [hr]
    refine Bd func96 ntmps96 fun σ N hp hpn hk hkn hfree=>?_
    exact W0
   ·have hr:teB ⟨x,y⟩=false:=by simp [teB, *]
    rw [hr]
    refine Bd func96 ntmps96 fun σ N hp hpn hk hkn hfree=>?_
    exact W0
  ·have hr:teB ⟨x,y⟩=false:=by simp [teB, *]
   rw [hr]
   refine Bd func96 ntmps96 fun σ N hp hpn hk hkn hfree=>?_
   exact W0
 ·have hr:teB ⟨x,y⟩=false:=by simp [teB, *]
  rw [hr]
  refine Bd func96 ntmps96 fun σ N hp hpn hk hkn hfree=>?_
  exact W0
def zrQ (b:List UInt8):Tg × Te × Nat:=
 if (zl6 b 0).2.2≠0 then (zeroTag,te0,5) else
 if (ziq b 32).2.2≠0 then (zeroTag,te0,5) else if (ziq b (ziq b 32).2.1).2.2≠0 then (zeroTag,te0,5) else
 if (ziq b (ziq b 32).2.1).2.1≠b.length∨teB ⟨(ziq b 32).1,(ziq b (ziq b 32).2.1).1⟩=false then (zeroTag,te0,5) else
 ((zl6 b 0).1,⟨(ziq b 32).1,(ziq b (ziq b 32).2.1).1⟩,0)
def zyq (r:Tg × Te × Nat):AV:=.tup [zd r.1,zhS r.2.1,.lit (.int .i64 (r.2.2:Nat))]
section
variable [W:W32]
def zhI (a:Alg) (c:Co) (t:List UInt8):Tg × Te × Nat:=if (x6 a c.key t).2≠0 then (zeroTag,te0,(x6 a c.key t).2) else zrQ (x6 a c.key t).1
set_option maxHeartbeats 1000000 in
theorem zlW (a:Alg) (m:Nat) (ha:AlgIn a m) (hm:m≤900000) (c:Co) (t:List UInt8) (ht:t.length≤100000) (k:Nat):
  ACall prog 135 [zA a,xW c,.slice none (t.map za)] k [] (zyq (zhI a c t)) []:=by
 obtain ⟨cpa,cke,cps⟩:=c
 have c1:=znf a m ha hm cke t ht
 have hbl:=zrH a m ha cke t ht
 unfold zhI
 simp only
 unfold zkC at c1
 generalize x6 a cke t=X at *
 obtain ⟨b,e⟩:=X
 simp only at c1 hbl ⊢
 clear ha
 unfold zyq
 by_cases he:e=0
 ·subst he
  rw [if_neg (by simp)]
  unfold zrQ
  have t1:=fun d=>zqH b 0 oo oo d
  by_cases hs:(zl6 b 0).2.2=0
  ·rw [if_neg (by simpa using hs)]
   have hs2:(zl6 b 0).2.1=32:=zr4 hs
   have hs3:32≤b.length:=ztm hs
   generalize zl6 b 0=T at *
   obtain ⟨kt,u0,e0⟩:=T
   simp only at hs hs2 t1 ⊢
   subst hs
   subst hs2
   have n1:=fun d=>zmn b 32 hs3 oo d
   have l1:=zuK (b:=b) hs3
   by_cases h1:(ziq b 32).2.2=0
   ·rw [if_neg (by simpa using h1)]
    generalize ziq b 32=Y at *
    obtain ⟨v1,u1,e1'⟩:=Y
    simp only at h1 n1 l1 ⊢
    subst h1
    have n2:=fun d=>zmn b u1 l1 oo d
    by_cases h2:(ziq b u1).2.2=0
    ·rw [if_neg (by simpa using h2)]
     generalize ziq b u1=Z at *
     obtain ⟨v2,u2,e2'⟩:=Z
     simp only at h2 n2 ⊢
     subst h2
     by_cases h3:u2=b.length
     ·subst h3
      have n3:=zgW ⟨(v1:Nat),(v2:Nat)⟩
      cases h4:teB ⟨(v1:Nat),(v2:Nat)⟩ with
      | false=>
       rw [if_pos (.inr rfl)]
       rw [h4] at n3
       unfold zhS at *
       simp only [te0] at *
       simp only [kv] at *
       refine Bd func135 ntmps135 fun σ N hp hpn hk hkn hfree=>?_
       have hcs:=And.intro c1 (And.intro (t1 (N+17+2)) (And.intro (n1 (N+17+2)) (And.intro (n2 (N+17+2)) (And.intro n3 True.intro))))
       clear c1 t1 n1 n2 n3
       refine Wk ?_
       exact WD
      | true=>
       rw [if_neg (by simp)]
       rw [h4] at n3
       unfold zhS at *
       simp only at *
       simp only [kv] at *
       refine Bd func135 ntmps135 fun σ N hp hpn hk hkn hfree=>?_
       have hcs:=And.intro c1 (And.intro (t1 (N+17+2)) (And.intro (n1 (N+17+2)) (And.intro (n2 (N+17+2)) (And.intro n3 True.intro))))
       clear c1 t1 n1 n2 n3
       refine Wk ?_
       exact WD
     ·rw [if_pos (.inl h3)]
      have h3i:((u2:Int) != (b.length:Int))=true:=by simp;omega
      unfold zhS
      simp only [te0]
      simp only [kv] at *
      refine Bd func135 ntmps135 fun σ N hp hpn hk hkn hfree=>?_
      have hcs:=And.intro c1 (And.intro (t1 (N+17+2)) (And.intro (n1 (N+17+2)) (And.intro (n2 (N+17+2)) True.intro)))
      clear c1 t1 n1 n2
      refine Wk ?_
      exact WD
    ·rw [if_pos (by simpa using h2)]
     generalize ziq b u1=Z at *
     obtain ⟨v2,u2,e2'⟩:=Z
     simp only at h2 n2 ⊢
     have h2i:((e2':Int) != 0)=true:=by simp;omega
     unfold zhS
     simp only [te0]
     simp only [kv] at *
     refine Bd func135 ntmps135 fun σ N hp hpn hk hkn hfree=>?_
     have hcs:=And.intro c1 (And.intro (t1 (N+17+2)) (And.intro (n1 (N+17+2)) (And.intro (n2 (N+17+2)) True.intro)))
     clear c1 t1 n1 n2
     refine Wk ?_
     exact WD
   ·rw [if_pos (by simpa using h1)]
    generalize ziq b 32=Y at *
    obtain ⟨v1,u1,e1'⟩:=Y
    simp only at h1 n1 l1 ⊢
    have h1i:((e1':Int) != 0)=true:=by simp;omega
    have n2:=fun d=>zla b u1 e1' h1 d
    unfold zhS
    simp only [te0]
    simp only [kv] at *
    refine Bd func135 ntmps135 fun σ N hp hpn hk hkn hfree=>?_
    have hcs:=And.intro c1 (And.intro (t1 (N+17+2)) (And.intro (n1 (N+17+2)) (And.intro (n2 (N+17+2)) True.intro)))
    clear c1 t1 n1 n2
    refine Wk ?_
    exact WD
  ·rw [if_pos (by simpa using hs)]
   generalize zl6 b 0=T at *
   obtain ⟨kt,u0,e0⟩:=T
   simp only at hs t1 ⊢
   have h1i:((e0:Int) != 0)=true:=by simp;omega
   have n1:=fun d=>zla b u0 e0 hs d
   have n2:=fun d=>zla b u0 e0 hs d
   unfold zhS
   simp only [te0]
   simp only [kv] at *
   refine Bd func135 ntmps135 fun σ N hp hpn hk hkn hfree=>?_
   have hcs:=And.intro c1 (And.intro (t1 (N+17+2)) (And.intro (n1 (N+17+2)) (And.intro (n2 (N+17+2)) True.intro)))
   clear c1 t1 n1 n2
   refine Wk ?_
   exact WD
 ·rw [if_pos he]
  have h1i:((e:Int) != 0)=true:=by simp;omega
  simp only [zwM]
  refine Bd func135 ntmps135 fun σ N hp hpn hk hkn hfree=>?_
  have hcs:=And.intro c1 True.intro
  clear c1
  refine Wk ?_
  exact WD
def jL (k:Tg) (t:Te):List UInt8:=k.1++(leb t.least.toNat++leb t.most.toNat)
omit W in
theorem zdl (k:Tg) (t:Te) (h:teB t=true):(jL k t).length≤50:=by
 obtain ⟨h1,h2,h3⟩:=teB_iff.1 h
 have a:=zh t.least.toNat 7 oo
 have b:=zh t.most.toNat 7 oo
 simp [jL,k.2];omega
def zax (a:Alg) (c:Co) (t:Te):Alg × Bl × Nat:=
 if teB t=false∨c.party < 0∨7 < c.party then (wZ,bl0,1) else
 if (zai a).2.2=0 then
  if (vm (zai a).1 c.key (zai a).1.fresh (jL (zai a).2.1 t)).2.2=0 then ((vm (zai a).1 c.key (zai a).1.fresh (jL (zai a).2.1 t)).1,⟨c.party,(zai a).2.1,(vm (zai a).1 c.key (zai a).1.fresh (jL (zai a).2.1 t)).2.1⟩,0)
  else (wZ,bl0,(vm (zai a).1 c.key (zai a).1.fresh (jL (zai a).2.1 t)).2.2)
 else (wZ,bl0,(zai a).2.2)
def zxC (r:Alg × Bl × Nat):AV:=.tup [zA r.1,zeb r.2.1,.lit (.int .i64 (r.2.2:Nat))]
theorem zc4 {a:Alg} {m:Nat} (h:AlgIn a m) (c:Co) (t:Te):AlgIn (zax a c t).1 (m+2):=by
 unfold zax
 split
 ·exact xE _
 ·split
  ·split
   ·exact zdL (zfR h) _ _ _
   ·exact xE _
  ·exact xE _
set_option maxHeartbeats 1000000 in
theorem zgU (a:Alg) (m:Nat) (ha:AlgIn a m) (hm:m≤900000) (c:Co) (t:Te) (k:Nat):
  ACall prog 39 [zA a,xW c,zhS t] k [] (zxC (zax a c t)) []:=by
 have c1:=zgW t
 have c2:=zk8 a ha.f0
 have hin:=zfR ha
 have hpl:=zdl (zai a).2.1 t
 unfold zax
 unfold zxC
 generalize hX:zai a=X at *
 obtain ⟨a1,kt,e1'⟩:=X
 unfold zha at c2
 simp only at c2 hin hpl ⊢
 clear ha hX
 cases ht:teB t with
 | false=>
  rw [if_pos (.inl rfl)]
  rw [ht] at c1
  simp only [zZ,zmw]
  clear c2
  refine Bd func39 ntmps39 fun σ N hp hpn hk hkn hfree=>?_
  have hcs:=And.intro c1 True.intro
  clear c1
  refine Wk ?_
  exact WD
 | true=>
  rw [ht] at c1
  have hpl:=hpl ht
  have ht0:=teB_iff.1 ht
  obtain ⟨pa,ck,ps⟩:=c
  simp only
  by_cases hp1:pa < 0
  ·rw [if_pos (.inr (.inl hp1))]
   simp only [zZ,zmw]
   clear c2
   refine Bd func39 ntmps39 fun σ N hp hpn hk hkn hfree=>?_
   have hcs:=And.intro c1 True.intro
   clear c1
   refine Wk ?_
   exact WD
  ·by_cases hp2:7 < pa
   ·rw [if_pos (.inr (.inr hp2))]
    simp only [zZ,zmw]
    clear c2
    refine Bd func39 ntmps39 fun σ N hp hpn hk hkn hfree=>?_
    have hcs:=And.intro c1 True.intro
    clear c1
    refine Wk ?_
    exact WD
   ·rw [if_neg (by rintro (h | h | h);cases h;exact hp1 h;exact hp2 h)]
    by_cases h1:e1'=0
    ·subst h1
     rw [if_pos rfl]
     have c5:=zmp a1 ck a1.fresh (jL kt t) (by have:=hin.bl;omega) hin.bm
     obtain ⟨x,y⟩:=t
     simp only at ht0
     obtain ⟨q1,q2,q3⟩:=ht0
     obtain ⟨x,rfl⟩:=Int.eq_ofNat_of_zero_le q1
     obtain ⟨y,rfl⟩:=Int.eq_ofNat_of_zero_le (show 0≤y by omega)
     have c3:=fun k=>ym x k oo
     have c4:=fun k=>ym y k oo
     have hl1:=zh x 7 oo
     have hl2:=zh y 7 oo
     unfold zsh at c5
     obtain ⟨pl,hplE⟩:∃ pl,jL kt ⟨(x:Nat),(y:Nat)⟩=pl:=⟨_,rfl⟩
     have hplm:(kt.1.map za++(leb x).map za)++(leb y).map za=pl.map za:=by
      rw [← hplE];simp [jL]
     have hpll:pl.length=32+((leb x).length+(leb y).length):=by rw [← hplE];simp [jL,kt.2]
     rw [hplE] at c5 ⊢
     generalize vm a1 ck a1.fresh pl=Z at *
     obtain ⟨a2,b2,e2'⟩:=Z
     simp only at c5 ⊢
     generalize leb x=lx at *
     generalize leb y=ly at *
     have hs1:=zB kt
     have hs2:=zj kt
     obtain ⟨K,hK⟩:=kt
     have hkA:zd ⟨K,hK⟩=.agg (K.map za):=rfl
     simp only [hkA] at hs1 hs2 c2 hplm ⊢
     clear hplE hin hpl ht
     have hs3:AV.celll (K.map za)=true:=zX K
     have htk:(K.map za).take 32=K.map za:=List.take_of_length_le (by rw [List.length_map];omega)
     unfold zhS at *
     simp only at c1
     have haA:zA a1=.agg [.lit (.bool a1.free),zd a1.seed,.lit (.int .i64 a1.fresh),.slice none (a1.macs.map zJ),.slice none (a1.boxes.map zo)]:=rfl
     by_cases h2:e2'=0
     ·subst h2
      rw [if_pos rfl]
      unfold zeb
      simp only [hkA]
      clear hkA
      refine Bd func39 ntmps39 fun σ N hp hpn hk hkn hfree=>?_
      have hcs:=And.intro c1 (And.intro c2 (And.intro c3 (And.intro c4 (And.intro c5 True.intro))))
      clear c1 c2 c3 c4 c5
      refine Wk ?_
      exact WD
     ·rw [if_neg h2]
      have h2i:((e2':Int) != 0)=true:=by simp;omega
      simp only [zZ,zmw]
      clear hkA
      refine Bd func39 ntmps39 fun σ N hp hpn hk hkn hfree=>?_
      have hcs:=And.intro c1 (And.intro c2 (And.intro c3 (And.intro c4 (And.intro c5 True.intro))))
      clear c1 c2 c3 c4 c5
      refine Wk ?_
      exact WD
    ·rw [if_neg h1]
     have h1i:((e1':Int) != 0)=true:=by simp;omega
     simp only [zZ,zmw]
     refine Bd func39 ntmps39 fun σ N hp hpn hk hkn hfree=>?_
     have hcs:=And.intro c1 (And.intro c2 True.intro)
     clear c1 c2
     refine Wk ?_
     exact WD
def zbq (a:Alg) (p:Pa) (b:Bl):Alg × Pa × Nat:=
 if (yJ a p.tag (xw b.ticket)).2.2=0 then
  if (vm (yJ a p.tag (xw b.ticket)).1 (yJ a p.tag (xw b.ticket)).2.1 0 b.key.1).2.2=0 then
   zba (vm (yJ a p.tag (xw b.ticket)).1 (yJ a p.tag (xw b.ticket)).2.1 0 b.key.1).1 p ⟨true,x9,b.party,b.ticket,(vm (yJ a p.tag (xw b.ticket)).1 (yJ a p.tag (xw b.ticket)).2.1 0 b.key.1).2.1⟩
  else (wZ,pa0,(vm (yJ a p.tag (xw b.ticket)).1 (yJ a p.tag (xw b.ticket)).2.1 0 b.key.1).2.2)
 else (wZ,pa0,(yJ a p.tag (xw b.ticket)).2.2)
theorem zhf {a:Alg} {m:Nat} (h:AlgIn a m) (p:Pa) (b:Bl):AlgIn (zbq a p b).1 (m+4):=by
 unfold zbq
 split
 ·split
  ·exact zhi (zdL (yN h _ _) _ _ _) _ _
  ·exact xE _
 ·exact xE _
set_option maxHeartbeats 1000000 in
theorem zjO (a:Alg) (m:Nat) (ha:AlgIn a m) (hm:m≤800000) (p:Pa) (hpl:p.cavs.length≤10000) (b:Bl) (hb:b.ticket.length≤100000) (k:Nat):
  ACall prog 73 [zA a,zG p,zeb b] k [] (zdZ (zbq a p b)) []:=by
 have c1:=zlX b.ticket oo
 have c2:=qQ a p.tag (xw b.ticket) (by have:=ha.ml;omega) ha.mm
 have hin:=yN ha p.tag (xw b.ticket)
 unfold zbq
 generalize yJ a p.tag (xw b.ticket)=X at *
 obtain ⟨a1,t1,e1'⟩:=X
 unfold zha at c2
 simp only at c2 hin ⊢
 have c3:=zmp a1 t1 0 b.key.1 (by have:=hin.bl;omega) hin.bm
 have hin2:=zdL hin t1 0 b.key.1
 generalize vm a1 t1 0 b.key.1=Y at *
 obtain ⟨a2,x2,e2'⟩:=Y
 unfold zsh at c3
 simp only at c3 hin2 ⊢
 have c4:=zjP a2 (m+1+1) hin2 oo p hpl ⟨true,x9,b.party,b.ticket,x2⟩ zdp
 generalize zba a2 p ⟨true,x9,b.party,b.ticket,x2⟩=Z at *
 obtain ⟨a3,p3,e3'⟩:=Z
 generalize xw b.ticket=M at *
 clear hin hin2 ha
 obtain ⟨ep,se,L,tg⟩:=p
 obtain ⟨bp,bk,bt⟩:=b
 simp only at c1 c2 c3 c4 hb
 have hs1:=zB bk
 have hs2:=zj bk
 obtain ⟨K,hK⟩:=bk
 have hkA:zd ⟨K,hK⟩=.agg (K.map za):=rfl
 have hs3:AV.celll (K.map za)=true:=zX K
 have htk:(K.map za).take 32=K.map za:=List.take_of_length_le (by rw [List.length_map];omega)
 have hzp:zU x9=.agg [.lit (.int .i64 0),.lit (.int .u64 0),.lit (.int .i64 0),.lit (.int .i64 0),.lit (.string ⟨#[]⟩),.lit (.int .i64 0)]:=rfl
 have hpA:zG ⟨ep,se,L,tg⟩=.agg [.lit (.int .i64 ep),.lit (.int .i64 se),.slice none (L.map z8),zd tg]:=rfl
 unfold zdZ z8 zeb at *
 simp only [hkA,hzp] at *
 clear hkA hzp
 by_cases h1:e1'=0
 ·subst h1
  rw [if_pos rfl]
  by_cases h2:e2'=0
  ·subst h2
   rw [if_pos rfl]
   simp only
   refine Bd func73 ntmps73 fun σ N hp hpn hk hkn hfree=>?_
   have hcs:=And.intro c1 (And.intro c2 (And.intro c3 (And.intro c4 True.intro)))
   clear c1 c2 c3 c4
   refine Wk ?_
   exact WD
  ·rw [if_neg h2]
   have h2i:((e2':Int) != 0)=true:=by simp;omega
   simp only [zZ,zm3]
   refine Bd func73 ntmps73 fun σ N hp hpn hk hkn hfree=>?_
   have hcs:=And.intro c1 (And.intro c2 (And.intro c3 True.intro))
   clear c1 c2 c3 c4
   refine Wk ?_
   exact WD
 ·rw [if_neg h1]
  have h1i:((e1':Int) != 0)=true:=by simp;omega
  simp only [zZ,zm3]
  refine Bd func73 ntmps73 fun σ N hp hpn hk hkn hfree=>?_
  have hcs:=And.intro c1 (And.intro c2 True.intro)
  clear c1 c2 c3 c4
  refine Wk ?_
  exact WD
end
end Go.Proofs.YtglmjglbobhbbaaGreatDoor
