/- Texts Q4, O3, O4, Q5, Q6, joined. -/
import Derived.Test.YtglmjglbobhbbaaGreatDoorM24
import Derived.Test.YtglmjglbobhbbaaGreatDoorM26
import Derived.Test.YtglmjglbobhbbaaGreatDoorM27
namespace Go.Proofs.YtglmjglbobhbbaaGreatDoor
open _root_.Go.Proofs.Tryz
open Go.Ab
attribute [local irreducible] Go.Ab.tyAV Go.Ab.aw Go.Ab.aops Go.Ab.kReg Go.Ab.aThen Go.Ab.aBlk Go.Ab.acond Go.Ab.aguard Go.Ab.astep Go.Ab.AStepX Go.Ab.aRet
attribute [local irreducible] yE
theorem zW (a:Alg) (e r1 r2:Nat):zcM a e r1 r2=.box 249 (.agg [.agg [.lit (.bool a.free),zd a.seed,.lit (.int .i64 a.fresh),.slice (some r1) (a.macs.map zJ),.slice (some r2) (a.boxes.map zo)],.lit (.int .i64 (e:Int))]):=rfl
@[simp,go_sem] theorem zyp (a:Alg) (e r1 r2:Nat):(zcM a e r1 r2=.none)=False:=by simp [zcM]
@[simp,go_sem] theorem zyw (n:Nat):(zfk n=.none)=False:=by simp [zfk]
@[simp,go_sem] theorem zyv (n:Nat):(ztS n=.none)=False:=by simp [ztS]
theorem yH (s b:List UInt8) (hs:s.length≤100000) (hb:b.length≤1000000) (k:Nat):
  ACall prog 166 [.lit (.string ⟨s.toArray⟩),.slice none (b.map za)] k [] (.slice none ((s++b).map za)) []:=by
 refine Bd func166 ntmps166 fun σ N hp hpn hk hkn hfree=>?_
 exact WM
section
variable [W:W32]
def jW (a:Alg) (e:Nat) (key:Tg) (msg:List UInt8):Alg × Nat × Tg:=
 ((zbk (zbk a e key msg).1 (zbk a e key msg).2.1 (zbk a e key msg).2.2 nodeB).1,(zbk (zbk a e key msg).1 (zbk a e key msg).2.1 (zbk a e key msg).2.2 nodeB).2.1,(zbk a e key msg).2.2)
theorem zfT {a:Alg} {m:Nat} (h:AlgIn a m) (e:Nat) (key:Tg) (msg:List UInt8):AlgIn (zbk a e key msg).1 (m+1):=by
 unfold zbk
 split
 ·exact h.more (Nat.le_succ _)
 ·split
  ·exact yN h _ _
  ·exact h.more (Nat.le_succ _)
theorem vP (a:Alg) (key:Tg) (msg:List UInt8) (h:(yJ a key msg).2.2=0):(yJ a key msg).1.boxes=a.boxes∧(yJ a key msg).1.free=a.free:=by
 by_cases h1:4096 < msg.length
 ·rw [zaH h1] at h;cases h
 ·cases he:zcG key msg a.macs with
  | some t=>rw [kC h1 he];exact ⟨rfl,rfl⟩
  | none=>
   by_cases hf:65536≤a.macs.length
   ·rw [zaG h1 he hf] at h;cases h
   ·rw [vV h1 he hf];exact ⟨rfl,rfl⟩
theorem zdh (a:Alg) (e:Nat) (key:Tg) (msg:List UInt8):(zbk a e key msg).1.boxes=a.boxes:=by
 unfold zbk
 split
 ·rfl
 ·split
  ·rename_i h;exact (vP a key msg h).1
  ·rfl
theorem zdE {a:Alg} {m:Nat} (h:AlgIn a m) (e:Nat) (key:Tg) (msg:List UInt8):AlgIn (jW a e key msg).1 (m+2):=zfT (zfT h e key msg) _ _ _
theorem wa (a:Alg) (e:Nat) (key:Tg) (msg:List UInt8):(jW a e key msg).1.boxes=a.boxes:=(zdh _ _ _ _).trans (zdh _ _ _ _)
theorem zp9 (a:Alg) (m:Nat) (ha:AlgIn a m) (hm:m≤900000) (e:Nat) (key:Tg) (msg:List UInt8) (h0:e=0→0 < msg.length) (hmsg:msg.length≤100000) (d r1 r2 g k:Nat):
  ACall prog 204 [.ptr d [] 0,zd key,.slice none (msg.map za)] k (vA a e d r1 r2++[(g,yE)]) (zd (jW a e key msg).2.2) [(d,zcM (jW a e key msg).1 (jW a e key msg).2.1 r1 r2),(r1,zfk (jW a e key msg).1.macs.length)]:=by
 unfold jW
 have c1:=vD a e key msg (by have:=ha.ml;omega) ha.mm h0 hmsg d r1 r2 g
 have hb:=zdh a e key msg
 have hin:=zfT ha e key msg
 generalize zbk a e key msg=X at *
 obtain ⟨a1,e1',t1⟩:=X
 simp only at c1 hb hin ⊢
 have c2:=vD a1 e1' t1 nodeB (by have:=hin.ml;omega) hin.mm (fun _=>by decide) (by decide) d r1 r2 g
 generalize zbk a1 e1' t1 nodeB=Y at *
 obtain ⟨a2,e2',t2⟩:=Y
 simp only at c2 ⊢
 have h110:za 110=.lit (.int .u8 110):=rfl
 have h111:za 111=.lit (.int .u8 111):=rfl
 have h100:za 100=.lit (.int .u8 100):=rfl
 have h101:za 101=.lit (.int .u8 101):=rfl
 unfold vA at *
 simp only [nodeB,List.map_cons,List.map_nil,h110,h111,h100,h101,hb] at c2
 clear h110 h111 h100 h101 hb hin ha
 simp only [List.cons_append,List.nil_append] at *
 simp only [zW,zP,zO] at *
 refine Bd func204 ntmps204 fun σ N hp hpn hk hkn hfree=>?_
 have M:Mut (N+8+2):=⟨⟩
 simp only [List.mem_cons,List.not_mem_nil,or_false,forall_eq_or_imp,forall_eq] at hp hpn;obtain ⟨hd1,hd2,hd3,hd4⟩:=hp;obtain ⟨hdn1,hdn2,hdn3,hdn4⟩:=hpn
 have hne:d≠r1:=by rintro rfl;rw [hd1] at hd2;cases hd2
 have hne3:d≠r2:=by rintro rfl;rw [hd1] at hd3;cases hd3
 have hneg:g≠d:=by rintro rfl;rw [hd4] at hd1;exact ya hd1
 have hneg1:g≠r1:=by rintro rfl;rw [hd4] at hd2;exact yb hd2
 have hne23:r1≠r2:=by rintro rfl;rw [hd2] at hd3;simp at hd3
 have hcs:=And.intro c1 (And.intro c2 True.intro)
 clear c1 c2
 refine Wk ?_
 refine yd [(d,(.box 249 (.agg [.agg [.lit (.bool a2.free),zd a2.seed,.lit (.int .i64 a2.fresh),.slice (some r1) (a2.macs.map zJ),.slice (some r2) (a2.boxes.map zo)],.lit (.int .i64 (e2':Int))]))),(r1,(.row 190 65 a2.macs.length))] (by simp (disch:=omega) [go_sem, *,-List.reduceReplicate];rfl) (by first | rfl | (simp (disch:=omega) [go_sem];done) | (simp (disch:=omega) [go_sem, *];done) | simp (disch:=omega) [go_sem]) (fun id hid=>by simp only [zF,yi];(by_cases hdd:id=d;(· (subst hdd;simp (disch:=omega) [go_sem, *]));(· (by_cases hdd2:id=r1;(· (subst hdd2;simp (disch:=omega) [go_sem, *]));(· (simp (disch:=omega) only [zg];try (first | exact hlow id hid hdd hdd2 | exact hlow id hid))))))) (by simp) (by simp (disch:=omega) [go_sem, *])
end
end Go.Proofs.YtglmjglbobhbbaaGreatDoor
namespace Go.Proofs.YtglmjglbobhbbaaGreatDoor
open _root_.Go.Proofs.Tryz
open Go.Ab
attribute [local irreducible] Go.Ab.tyAV Go.Ab.aw Go.Ab.aops Go.Ab.kReg Go.Ab.aThen Go.Ab.aBlk Go.Ab.acond Go.Ab.aguard Go.Ab.astep Go.Ab.AStepX Go.Ab.aRet
structure BoV (d:Bo):Prop where
 t1:1≤d.ticket.length
 t2:d.ticket.length≤1024
 cl:d.conds.length≤8
 cv:∀ p∈d.conds,yc p=true∧PrOk p
structure BuV (b:Bu):Prop where
 rq:rqB b.req=true
 e1:1≤b.epoch
 e2:b.epoch≤1000
 s1:1≤b.serial
 s2:b.serial≤1073741824
 cl:b.cavs.length≤64
 cv:∀ c∈b.cavs,xz c=true∧PrOk c.first
 dl:b.dis.length≤8
 dv:∀ d∈b.dis,BoV d
theorem yI {α:Type} (f:α→List UInt8) {l:List α} {u:Nat} {z:α} (h:u < l.length) (hz:l[u]=z):(l.take (u+1)).flatMap f=(l.take u).flatMap f++f z:=by
 rw [List.take_add_one,List.getElem?_eq_getElem h,hz];simp
structure BoIn (d:Bo):Prop where
 tl:d.ticket.length≤9223372036854775807
 cl:d.conds.length≤9223372036854775807
 ok:∀ p∈d.conds,PrOk p
structure BuIn (b:Bu):Prop where
 cl:b.cavs.length≤1000
 dl:b.dis.length≤1000
 ok:∀ c∈b.cavs,PrOk c.first
 di:∀ d∈b.dis,BoIn d
attribute [local irreducible] yE
section
variable [W:W32]
theorem zp8 (a:Alg) (key:Tg) (msg:List UInt8):xS a key msg=if (jW a 0 key msg).2.1=0 then ((jW a 0 key msg).1,(jW a 0 key msg).2.2,0) else (wZ,zeroTag,(jW a 0 key msg).2.1):=by
 by_cases h:(yJ a key msg).2.2=0
 ·have h1:zbk a 0 key msg=((yJ a key msg).1,0,(yJ a key msg).2.1):=by unfold zbk;rw [if_neg (by simp),if_pos h]
  by_cases h':(yJ (yJ a key msg).1 (yJ a key msg).2.1 nodeB).2.2=0
  ·have h2:jW a 0 key msg=((yJ (yJ a key msg).1 (yJ a key msg).2.1 nodeB).1,0,(yJ a key msg).2.1):=by unfold jW;rw [h1];simp only;unfold zbk;rw [if_neg (by simp),if_pos h']
   rw [zdG h h',h2];simp
  ·have h2:(jW a 0 key msg).2.1=(yJ (yJ a key msg).1 (yJ a key msg).2.1 nodeB).2.2:=by unfold jW;rw [h1];simp only;unfold zbk;rw [if_neg (by simp),if_neg h']
   rw [zrE h h',h2,if_neg h']
 ·have h1:zbk a 0 key msg=(a,(yJ a key msg).2.2,zeroTag):=by unfold zbk;rw [if_neg (by simp),if_neg h]
  have h2:jW a 0 key msg=(a,(yJ a key msg).2.2,zeroTag):=by unfold jW;rw [h1];simp only;rw [jO h]
  rw [zrD h,h2,if_neg h]
end
section
variable [W:W32]
end
end Go.Proofs.YtglmjglbobhbbaaGreatDoor
