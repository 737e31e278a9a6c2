/- Texts U3, joined. -/
import Derived.Test.YtglmjglbobhbbaaGreatDoorM19
import Derived.Test.YtglmjglbobhbbaaGreatDoorM20
namespace Go.Proofs.YtglmjglbobhbbaaGreatDoor
open _root_.Go.Proofs.Tryz
open Go.Ab
attribute [local irreducible] Go.Ab.tyAV Go.Ab.aw Go.Ab.aops Go.Ab.kReg Go.Ab.aThen Go.Ab.aBlk Go.Ab.acond Go.Ab.aguard Go.Ab.astep Go.Ab.AStepX Go.Ab.aRet
attribute [local irreducible] yE
def yX (n:Nat):List UInt8:=[109,105,110,116]++leb n
theorem zcq (n:Nat) (h:n≤281474976710656):(yX n).length≤12:=by
 have:=zh n 7 oo
 simp [yX];omega
def y9 (c:Ca):List UInt8:=[99,97,118,101,97,116]++(zc7 c).1
theorem xP (c:Ca):(y9 c).length≤3006:=by
 have:=zo1 c
 simp [y9];omega
def nodeB:List UInt8:=[110,111,100,101]
theorem zh5 (n:Nat) (h:n≤281474976710656) (k:Nat):
  ACall prog 81 [.lit (.int .i64 n)] k [] (.slice none ((yX n).map za)) []:=by
 have c1:=fun k=>ym n k oo
 have hl:=zh n 7 oo
 have c2:=vX [109,105,110,116] (leb n) (by decide) oo
 unfold yX
 generalize leb n=lb at *
 obtain ⟨M,hM⟩:∃ M,[109,105,110,116]++lb=M:=⟨_,rfl⟩
 rw [hM] at c2 ⊢
 clear hM
 refine Bd func81 ntmps81 fun σ N hp hpn hk hkn hfree=>?_
 have hcs:=And.intro c1 (And.intro c2 True.intro)
 clear c1 c2
 exact W0
theorem zh4 (c:Ca) (hp0:PrOk c.first) (k:Nat):
  ACall prog 82 [z8 c] k [] (.slice none ((y9 c).map za)) []:=by
 have c1:=zrN c hp0
 have hl:=zo1 c
 have c2:=vX [99,97,118,101,97,116] (zc7 c).1 (by decide) oo
 unfold zbu at c1
 unfold y9
 generalize zc7 c=X at *
 obtain ⟨lb,e⟩:=X
 simp only at c1 c2 hl ⊢
 obtain ⟨M,hM⟩:∃ M,[99,97,118,101,97,116]++lb=M:=⟨_,rfl⟩
 rw [hM] at c2 ⊢
 clear hM
 refine Bd func82 ntmps82 fun σ N hp hpn hk hkn hfree=>?_
 have hcs:=And.intro c1 (And.intro c2 True.intro)
 clear c1 c2
 exact W0
section
variable [W:W32]
def xS (a:Alg) (key:Tg) (msg:List UInt8):Alg × Tg × Nat:=
 if (yJ a key msg).2.2=0 then
  if (yJ (yJ a key msg).1 (yJ a key msg).2.1 nodeB).2.2=0 then ((yJ (yJ a key msg).1 (yJ a key msg).2.1 nodeB).1,(yJ a key msg).2.1,0) else (wZ,zeroTag,(yJ (yJ a key msg).1 (yJ a key msg).2.1 nodeB).2.2)
 else (wZ,zeroTag,(yJ a key msg).2.2)
theorem zrD {a:Alg} {key:Tg} {msg:List UInt8} (h:(yJ a key msg).2.2≠0):xS a key msg=(wZ,zeroTag,(yJ a key msg).2.2):=by
 unfold xS;rw [if_neg h]
theorem zrE {a:Alg} {key:Tg} {msg:List UInt8} (h:(yJ a key msg).2.2=0) (h':(yJ (yJ a key msg).1 (yJ a key msg).2.1 nodeB).2.2≠0):xS a key msg=(wZ,zeroTag,(yJ (yJ a key msg).1 (yJ a key msg).2.1 nodeB).2.2):=by
 unfold xS;rw [if_pos h,if_neg h']
theorem zdG {a:Alg} {key:Tg} {msg:List UInt8} (h:(yJ a key msg).2.2=0) (h':(yJ (yJ a key msg).1 (yJ a key msg).2.1 nodeB).2.2=0):xS a key msg=((yJ (yJ a key msg).1 (yJ a key msg).2.1 nodeB).1,(yJ a key msg).2.1,0):=by
 unfold xS;rw [if_pos h,if_pos h']
theorem zcN {a:Alg} {m:Nat} (h:AlgIn a m) (key:Tg) (msg:List UInt8):AlgIn (xS a key msg).1 (m+2):=by
 unfold xS
 split
 ·split
  ·exact yN (yN h _ _) _ _
  ·exact xE _
 ·exact xE _
theorem zh6 (a:Alg) (m:Nat) (ha:AlgIn a m) (hm:m≤900000) (key:Tg) (msg:List UInt8) (k:Nat):
  ACall prog 126 [zA a,zd key,.slice none (msg.map za)] k [] (zha (xS a key msg)) []:=by
 have c1:=qQ a key msg (by have:=ha.ml;omega) ha.mm
 have hin:=yN ha key msg
 have n1:=zrD (a:=a) (key:=key) (msg:=msg)
 have n2:=zrE (a:=a) (key:=key) (msg:=msg)
 have n3:=zdG (a:=a) (key:=key) (msg:=msg)
 generalize xS a key msg=R at *
 generalize yJ a key msg=X at *
 obtain ⟨a1,t1,e1'⟩:=X
 simp only at c1 hin n1 n2 n3
 unfold zha at c1
 simp only at c1
 by_cases h1:e1'=0
 ·subst h1
  have c2:=qQ a1 t1 nodeB (by have:=hin.ml;omega) hin.mm
  generalize yJ a1 t1 nodeB=Y at *
  obtain ⟨a2,t2,e2'⟩:=Y
  simp only at c2 n2 n3
  unfold zha at c2 ⊢
  have h110:za 110=.lit (.int .u8 110):=rfl
  have h111:za 111=.lit (.int .u8 111):=rfl
  have h100:za 100=.lit (.int .u8 100):=rfl
  have h101:za 101=.lit (.int .u8 101):=rfl
  simp only [nodeB,List.map_cons,List.map_nil,h110,h111,h100,h101] at c2
  clear h110 h111 h100 h101 n1 ha hin
  by_cases h2:e2'=0
  ·subst h2
   obtain rfl:=n3 trivial rfl
   clear n2 n3
   simp only
   refine Bd func126 ntmps126 fun σ N hp hpn hk hkn hfree=>?_
   have M:Mut (N+19+2):=⟨⟩
   have hcs:=And.intro c1 (And.intro c2 True.intro)
   clear c1 c2
   exact WT
  ·obtain rfl:=n2 trivial h2
   clear n2 n3
   have h2i:((e2':Int) != 0)=true:=by simp;omega
   simp only [zZ]
   refine Bd func126 ntmps126 fun σ N hp hpn hk hkn hfree=>?_
   have M:Mut (N+19+2):=⟨⟩
   have hcs:=And.intro c1 (And.intro c2 True.intro)
   clear c1 c2
   exact WT
 ·obtain rfl:=n1 h1
  have h1i:((e1':Int) != 0)=true:=by simp;omega
  clear n1 n2 n3 ha hin
  unfold zha
  simp only [zZ]
  refine Bd func126 ntmps126 fun σ N hp hpn hk hkn hfree=>?_
  have hcs:=And.intro c1 True.intro
  clear c1
  exact WT
def zdF (a:Alg) (num:Int) (key:Tg) (ser:Int):Alg × Pa × Nat:=
 if num < 1∨1000 < num∨ser < 1∨1073741824 < ser then (wZ,pa0,1) else
 if (xS a key (yX ser.toNat)).2.2=0 then ((xS a key (yX ser.toNat)).1,⟨num,ser,[],(xS a key (yX ser.toNat)).2.1⟩,0) else (wZ,pa0,(xS a key (yX ser.toNat)).2.2)
def zdZ (r:Alg × Pa × Nat):AV:=.tup [zA r.1,zG r.2.1,.lit (.int .i64 (r.2.2:Nat))]
theorem zoC (a:Alg) (num ser:Int) (key:Tg) (h:num < 1∨1000 < num∨ser < 1∨1073741824 < ser) (k:Nat):
  ACall prog 69 [zA a,.agg [.lit (.int .i64 num),zd key],.lit (.int .i64 ser)] k [] (zdZ (zdF a num key ser)) []:=by
 unfold zdF
 rw [if_pos h]
 unfold zdZ zG pa0
 simp only [zZ,List.map_nil]
 by_cases h1:num < 1
 ·refine Bd func69 ntmps69 fun σ N hp hpn hk hkn hfree=>?_
  refine Wk ?_
  exact WD
 ·by_cases h2:1000 < num
  ·refine Bd func69 ntmps69 fun σ N hp hpn hk hkn hfree=>?_
   refine Wk ?_
   exact WD
  ·by_cases h3:ser < 1
   ·refine Bd func69 ntmps69 fun σ N hp hpn hk hkn hfree=>?_
    refine Wk ?_
    exact WD
   ·have h4:1073741824 < ser:=by omega
    refine Bd func69 ntmps69 fun σ N hp hpn hk hkn hfree=>?_
    refine Wk ?_
    exact WD
theorem zcO (a:Alg) (m:Nat) (ha:AlgIn a m) (hm:m≤900000) (num ser:Int) (key:Tg) (k:Nat):
  ACall prog 69 [zA a,.agg [.lit (.int .i64 num),zd key],.lit (.int .i64 ser)] k [] (zdZ (zdF a num key ser)) []:=by
 by_cases h:num < 1∨1000 < num∨ser < 1∨1073741824 < ser
 ·exact zoC a num ser key h k
 ·unfold zdF
  rw [if_neg h]
  have h1:¬ num < 1:=by omega
  have h2:¬ 1000 < num:=by omega
  have h3:¬ ser < 1:=by omega
  have h4:¬ 1073741824 < ser:=by omega
  obtain ⟨n,rfl⟩:=Int.eq_ofNat_of_zero_le (show 0≤ser by omega)
  have c1:=zh5 n oo
  rw [Int.toNat_natCast]
  have c2:=zh6 a m ha hm key (yX n)
  generalize xS a key (yX n)=X at *
  obtain ⟨a1,t1,e1'⟩:=X
  generalize yX n=M at *
  simp only at c2 ⊢
  unfold zha at c2
  clear ha h
  by_cases he:e1'=0
  ·subst he
   rw [if_pos rfl]
   unfold zdZ zG
   simp only [List.map_nil]
   refine Bd func69 ntmps69 fun σ N hp hpn hk hkn hfree=>?_
   have hcs:=And.intro c1 (And.intro c2 True.intro)
   clear c1 c2
   refine Wk ?_
   exact WD
  ·rw [if_neg he]
   have h1i:((e1':Int) != 0)=true:=by simp;omega
   unfold zdZ zG pa0
   simp only [zZ,List.map_nil]
   refine Bd func69 ntmps69 fun σ N hp hpn hk hkn hfree=>?_
   have hcs:=And.intro c1 (And.intro c2 True.intro)
   clear c1 c2
   refine Wk ?_
   exact WD
theorem zix {a:Alg} {m:Nat} (h:AlgIn a m) (num:Int) (key:Tg) (ser:Int):AlgIn (zdF a num key ser).1 (m+2):=by
 unfold zdF
 split
 ·exact xE _
 ·split
  ·exact zcN h _ _
  ·exact xE _
end
end Go.Proofs.YtglmjglbobhbbaaGreatDoor
