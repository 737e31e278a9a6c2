/- Texts Q3, joined. -/
import Derived.Test.YtglmjglbobhbbaaGreatDoorM21
import Derived.Test.YtglmjglbobhbbaaGreatDoorM22
namespace Go.Proofs.YtglmjglbobhbbaaGreatDoor
open _root_.Go.Proofs.Tryz
open Go.Ab
attribute [local irreducible] Go.Ab.tyAV Go.Ab.aw Go.Ab.aops Go.Ab.kReg Go.Ab.aThen Go.Ab.aBlk Go.Ab.acond Go.Ab.aguard Go.Ab.astep Go.Ab.AStepX Go.Ab.aRet
attribute [local irreducible] yE
theorem ya {t:TypeId} {x:AV} (h:yE=.box t x):False:=by unfold yE at h;cases h
theorem yb {t:TypeId} {n m:Nat} (h:yE=.row t n m):False:=by unfold yE at h;cases h
theorem qr (fr:Bool) (sd:Tg) (fs:Int) (L:List MacE) (B:List BoxE) (e r1 r2:Nat):zcM ⟨fr,sd,fs,L,B⟩ e r1 r2=.box 249 (.agg [.agg [.lit (.bool fr),zd sd,.lit (.int .i64 fs),.slice (some r1) (L.map zJ),.slice (some r2) (B.map zo)],.lit (.int .i64 (e:Int))]):=rfl
section
variable [W:W32]
def zbk (a:Alg) (e:Nat) (key:Tg) (msg:List UInt8):Alg × Nat × Tg:=
 if e≠0 then (a,e,zeroTag) else if (yJ a key msg).2.2=0 then ((yJ a key msg).1,0,(yJ a key msg).2.1) else (a,(yJ a key msg).2.2,zeroTag)
theorem jO {a:Alg} {e:Nat} {key:Tg} {msg:List UInt8} (h:e≠0):zbk a e key msg=(a,e,zeroTag):=by unfold zbk;rw [if_pos h]
theorem zru {a:Alg} {key:Tg} {msg:List UInt8} (h:4096 < msg.length):zbk a 0 key msg=(a,2,zeroTag):=by unfold zbk;rw [zaH h];rfl
theorem zp7 {a:Alg} {key:Tg} {msg:List UInt8} {t:Tg} (h:¬ 4096 < msg.length) (he:zcG key msg a.macs=some t):zbk a 0 key msg=(a,0,t):=by unfold zbk;rw [kC h he];rfl
theorem zrt {a:Alg} {key:Tg} {msg:List UInt8} (h:¬ 4096 < msg.length) (he:zcG key msg a.macs=none) (hf:65536≤a.macs.length):zbk a 0 key msg=(a,2,zeroTag):=by unfold zbk;rw [zaG h he hf];rfl
theorem zsO {a:Alg} {key:Tg} {msg:List UInt8} (h:¬ 4096 < msg.length) (he:zcG key msg a.macs=none) (hf:¬ 65536≤a.macs.length):zbk a 0 key msg=({ a with macs:=a.macs++[⟨key,msg,if a.free then vW 109 (a.macs.length+1) else qC key.1 msg⟩] },0,if a.free then vW 109 (a.macs.length+1) else qC key.1 msg):=by unfold zbk;rw [vV h he hf];rfl
set_option maxHeartbeats 4000000 in
theorem vD (a:Alg) (e:Nat) (key:Tg) (msg:List UInt8) (hl:a.macs.length≤1000000) (hm:∀ x∈a.macs,x.msg.length≤100000) (h0:e=0→0 < msg.length) (hmsg:msg.length≤100000) (d r1 r2 g k:Nat):
  ACall prog 165 [.ptr d [] 0,zd key,.slice none (msg.map za)] k (vA a e d r1 r2++[(g,yE)]) (zd (zbk a e key msg).2.2) [(d,zcM (zbk a e key msg).1 (zbk a e key msg).2.1 r1 r2),(r1,zfk (zbk a e key msg).1.macs.length)]:=by
 obtain ⟨fr,sd,fs,L,B⟩:=a
 simp only at hl hm
 unfold vA
 simp only [List.cons_append,List.nil_append]
 by_cases he0:e=0
 ·subst he0
  have h0:=h0 rfl
  by_cases h1:4096 < msg.length
  ·rw [zru h1]
   have h1i:(4096:Int) < (msg.length:Int):=by omega
   have c1:=xN ⟨fr,sd,fs,L,B⟩ 0 2
   rw [if_pos rfl] at c1
   unfold vA at c1
   simp only [qr,zP,zO] at *
   refine Bd func165 ntmps165 fun σ N hp hpn hk hkn hfree=>?_
   simp only [List.mem_cons,List.not_mem_nil,or_false,forall_eq_or_imp,forall_eq] at hp hpn;obtain ⟨hd1,hd2,hd3,hd4⟩:=hp;obtain ⟨hdn1,hdn2,hdn3,hdn4⟩:=hpn
   have hne:d≠r1:=by rintro rfl;rw [hd1] at hd2;cases hd2
   have hne3:d≠r2:=by rintro rfl;rw [hd1] at hd3;cases hd3
   have hneg:g≠d:=by rintro rfl;rw [hd4] at hd1;exact ya hd1
   have hneg1:g≠r1:=by rintro rfl;rw [hd4] at hd2;exact yb hd2
   have hcs:=And.intro (c1 d r1 r2) True.intro
   clear c1 hm
   refine Wk ?_
   refine yd [(d,(.box 249 (.agg [.agg [.lit (.bool fr),zd sd,.lit (.int .i64 fs),.slice (some r1) (L.map zJ),.slice (some r2) (B.map zo)],.lit (.int .i64 2)]))),(r1,(.row 190 65 L.length))] (by simp (disch:=omega) [go_sem, *,-List.reduceReplicate];rfl) (by first | rfl | (simp (disch:=omega) [go_sem];done) | (simp (disch:=omega) [go_sem, *];done) | simp (disch:=omega) [go_sem]) (fun id hid=>by simp only [zF,yi];(by_cases hdd:id=d;(· (subst hdd;simp (disch:=omega) [go_sem, *]));(· (by_cases hdd2:id=r1;(· (subst hdd2;simp (disch:=omega) [go_sem, *]));(· (simp (disch:=omega) only [zg];try (first | exact hlow id hid hdd hdd2 | exact hlow id hid))))))) (by simp) (by simp (disch:=omega) [go_sem, *])
  ·have h1i:¬ (4096:Int) < (msg.length:Int):=by omega
   have c2:=zgu L key msg hl hm oo
   cases he:zcG key msg L with
   | some t=>
    rw [zp7 h1 he]
    obtain ⟨i,hi,hfi,hti⟩:=zjc L 0 he
    rw [hfi,Nat.zero_add] at c2
    have hz:∃ z,L[i]=z:=⟨_,rfl⟩
    obtain ⟨z,hz⟩:=hz
    rw [hz] at hti
    obtain ⟨zk,zm,zt⟩:=z
    simp only at hti
    subst hti
    have hzd:zJ ⟨zk,zm,zt⟩=.agg [zd zk,bAV zm,zd zt]:=rfl
    simp only [qr,zP,zO] at *
    refine Bd func165 ntmps165 fun σ N hp hpn hk hkn hfree=>?_
    simp only [List.mem_cons,List.not_mem_nil,or_false,forall_eq_or_imp,forall_eq] at hp hpn;obtain ⟨hd1,hd2,hd3,hd4⟩:=hp;obtain ⟨hdn1,hdn2,hdn3,hdn4⟩:=hpn
    have hne:d≠r1:=by rintro rfl;rw [hd1] at hd2;cases hd2
    have hne3:d≠r2:=by rintro rfl;rw [hd1] at hd3;cases hd3
    have hneg:g≠d:=by rintro rfl;rw [hd4] at hd1;exact ya hd1
    have hneg1:g≠r1:=by rintro rfl;rw [hd4] at hd2;exact yb hd2
    have hcs:=And.intro c2 True.intro
    clear c2 hm he hfi
    refine Wk ?_
    refine yd [(d,(.box 249 (.agg [.agg [.lit (.bool fr),zd sd,.lit (.int .i64 fs),.slice (some r1) (L.map zJ),.slice (some r2) (B.map zo)],.lit (.int .i64 0)]))),(r1,(.row 190 65 L.length))] (by simp (disch:=omega) [go_sem, *,-List.reduceReplicate];rfl) (by first | rfl | (simp (disch:=omega) [go_sem];done) | (simp (disch:=omega) [go_sem, *];done) | simp (disch:=omega) [go_sem]) (fun id hid=>by simp only [zF,yi];(by_cases hdd:id=d;(· (subst hdd;simp (disch:=omega) [go_sem, *]));(· (by_cases hdd2:id=r1;(· (subst hdd2;simp (disch:=omega) [go_sem, *]));(· (simp (disch:=omega) only [zg];try (first | exact hlow id hid hdd hdd2 | exact hlow id hid))))))) (by simp) (by simp (disch:=omega) [go_sem, *])
   | none=>
    rw [zjb L 0 he] at c2
    have c3:=zeA 109 (L.length+1) oo
    have e109:((109:UInt8).toNat:Int)=109:=rfl
    have hn1:((L.length+1:Nat):Int)=(L.length:Int)+1:=by omega
    by_cases hf:65536≤L.length
    ·rw [zrt h1 he hf]
     have hfi:(65536:Int) < (L.length:Int)+1:=by omega
     have c1:=xN ⟨fr,sd,fs,L,B⟩ 0 2
     rw [if_pos rfl] at c1
     unfold vA at c1
     clear c3 e109 hn1
     simp only [qr,zP,zO] at *
     refine Bd func165 ntmps165 fun σ N hp hpn hk hkn hfree=>?_
     simp only [List.mem_cons,List.not_mem_nil,or_false,forall_eq_or_imp,forall_eq] at hp hpn;obtain ⟨hd1,hd2,hd3,hd4⟩:=hp;obtain ⟨hdn1,hdn2,hdn3,hdn4⟩:=hpn
     have hne:d≠r1:=by rintro rfl;rw [hd1] at hd2;cases hd2
     have hne3:d≠r2:=by rintro rfl;rw [hd1] at hd3;cases hd3
     have hneg:g≠d:=by rintro rfl;rw [hd4] at hd1;exact ya hd1
     have hneg1:g≠r1:=by rintro rfl;rw [hd4] at hd2;exact yb hd2
     have hcs:=And.intro c2 (And.intro (c1 d r1 r2) True.intro)
     clear c1 c2 hm he
     refine Wk ?_
     refine yd [(d,(.box 249 (.agg [.agg [.lit (.bool fr),zd sd,.lit (.int .i64 fs),.slice (some r1) (L.map zJ),.slice (some r2) (B.map zo)],.lit (.int .i64 2)]))),(r1,(.row 190 65 L.length))] (by simp (disch:=omega) [go_sem, *,-List.reduceReplicate];rfl) (by first | rfl | (simp (disch:=omega) [go_sem];done) | (simp (disch:=omega) [go_sem, *];done) | simp (disch:=omega) [go_sem]) (fun id hid=>by simp only [zF,yi];(by_cases hdd:id=d;(· (subst hdd;simp (disch:=omega) [go_sem, *]));(· (by_cases hdd2:id=r1;(· (subst hdd2;simp (disch:=omega) [go_sem, *]));(· (simp (disch:=omega) only [zg];try (first | exact hlow id hid hdd hdd2 | exact hlow id hid))))))) (by simp) (by simp (disch:=omega) [go_sem, *])
    ·rw [zsO h1 he hf]
     have hfi:¬ (65536:Int) < (L.length:Int)+1:=by omega
     have c5:=yC msg oo
     have hb:(L.length+1) * 88≤140737488355328:=by omega
     have hb0:L.length * 88≤140737488355328:=by omega
     have hb1:L.length≤140737488355327:=by omega
     rw [e109,hn1] at c3
     clear e109 hn1
     cases fr with
     | true=>
      simp only [if_true]
      generalize vW 109 ((L.length:Int)+1)=t at *
      have hL2:(L++[(⟨key,msg,t⟩:MacE)]).map zJ=L.map zJ++[.agg [zd key,.slice none (msg.map za),zd t]]:=by rw [List.map_append];rfl
      have hL3:(L++[(⟨key,msg,t⟩:MacE)]).length=L.length+1:=by simp
      simp only [qr,zP,zO,hL2,hL3] at *
      refine Bd func165 ntmps165 fun σ N hp hpn hk hkn hfree=>?_
      simp only [List.mem_cons,List.not_mem_nil,or_false,forall_eq_or_imp,forall_eq] at hp hpn;obtain ⟨hd1,hd2,hd3,hd4⟩:=hp;obtain ⟨hdn1,hdn2,hdn3,hdn4⟩:=hpn
      have hne:d≠r1:=by rintro rfl;rw [hd1] at hd2;cases hd2
      have hne3:d≠r2:=by rintro rfl;rw [hd1] at hd3;cases hd3
      have hneg:g≠d:=by rintro rfl;rw [hd4] at hd1;exact ya hd1
      have hneg1:g≠r1:=by rintro rfl;rw [hd4] at hd2;exact yb hd2
      have hcs:=And.intro c2 (And.intro c3 (And.intro c5 True.intro))
      clear c2 c3 c5 hm he hL2 hL3
      refine Wk ?_
      refine yd [(d,(.box 249 (.agg [.agg [.lit (.bool true),zd sd,.lit (.int .i64 fs),.slice (some r1) (L.map zJ++[.agg [zd key,.slice none (msg.map za),zd t]]),.slice (some r2) (B.map zo)],.lit (.int .i64 0)]))),(r1,(.row 190 65 (L.length+1)))] (by simp (disch:=omega) [go_sem, *,-List.reduceReplicate];rfl) (by first | rfl | (simp (disch:=omega) [go_sem];done) | (simp (disch:=omega) [go_sem, *];done) | simp (disch:=omega) [go_sem]) (fun id hid=>by simp only [zF,yi];(by_cases hdd:id=d;(· (subst hdd;simp (disch:=omega) [go_sem, *]));(· (by_cases hdd2:id=r1;(· (subst hdd2;simp (disch:=omega) [go_sem, *]));(· (simp (disch:=omega) only [zg];try (first | exact hlow id hid hdd hdd2 | exact hlow id hid))))))) (by simp) (by simp (disch:=omega) [go_sem, *])
     | false=>
      simp only [Bool.false_eq_true,if_false]
      have c4:=qA key.1 msg (by rw [key.2];decide) h0 hmsg g
      generalize qC key.1 msg=t at *
      generalize vW 109 ((L.length:Int)+1)=t0 at *
      have hL2:(L++[(⟨key,msg,t⟩:MacE)]).map zJ=L.map zJ++[.agg [zd key,.slice none (msg.map za),zd t]]:=by rw [List.map_append];rfl
      have hL3:(L++[(⟨key,msg,t⟩:MacE)]).length=L.length+1:=by simp
      have hs1:=zB key
      have hs2:=zj key
      obtain ⟨K,hK⟩:=key
      have hkA:zd ⟨K,hK⟩=.agg (K.map za):=rfl
      simp only [hkA] at hs1 hs2 c2 c4 hL2 ⊢
      clear hkA
      have hs3:AV.celll (K.map za)=true:=zX K
      have htk:(K.map za).take 32=K.map za:=List.take_of_length_le (by rw [List.length_map];omega)
      simp only [qr,zP,zO,hL2,hL3] at *
      refine Bd func165 ntmps165 fun σ N hp hpn hk hkn hfree=>?_
      simp only [List.mem_cons,List.not_mem_nil,or_false,forall_eq_or_imp,forall_eq] at hp hpn;obtain ⟨hd1,hd2,hd3,hd4⟩:=hp;obtain ⟨hdn1,hdn2,hdn3,hdn4⟩:=hpn
      have hne:d≠r1:=by rintro rfl;rw [hd1] at hd2;cases hd2
      have hne3:d≠r2:=by rintro rfl;rw [hd1] at hd3;cases hd3
      have hneg:g≠d:=by rintro rfl;rw [hd4] at hd1;exact ya hd1
      have hneg1:g≠r1:=by rintro rfl;rw [hd4] at hd2;exact yb hd2
      have hcs:=And.intro c2 (And.intro c3 (And.intro c4 (And.intro c5 True.intro)))
      clear c2 c3 c4 c5 hm he hL2 hL3
      refine Wk ?_
      refine yd [(d,(.box 249 (.agg [.agg [.lit (.bool false),zd sd,.lit (.int .i64 fs),.slice (some r1) (L.map zJ++[.agg [.agg (K.map za),.slice none (msg.map za),zd t]]),.slice (some r2) (B.map zo)],.lit (.int .i64 0)]))),(r1,(.row 190 65 (L.length+1)))] (by simp (disch:=omega) [go_sem, *,-List.reduceReplicate];rfl) (by first | rfl | (simp (disch:=omega) [go_sem];done) | (simp (disch:=omega) [go_sem, *];done) | simp (disch:=omega) [go_sem]) (fun id hid=>by simp only [zF,yi];(by_cases hdd:id=d;(· (subst hdd;simp (disch:=omega) [go_sem, *]));(· (by_cases hdd2:id=r1;(· (subst hdd2;simp (disch:=omega) [go_sem, *]));(· (simp (disch:=omega) only [zg];try (first | exact hlow id hid hdd hdd2 | exact hlow id hid))))))) (by simp) (by simp (disch:=omega) [go_sem, *])
 ·rw [jO he0]
  have hei:((e:Int) != 0)=true:=by simp;omega
  by_cases h1:4096 < msg.length
  ·have h1i:(4096:Int) < (msg.length:Int):=by omega
   have c1:=xN ⟨fr,sd,fs,L,B⟩ e 2
   rw [if_neg he0] at c1
   unfold vA at c1
   simp only [qr,zP,zO] at *
   refine Bd func165 ntmps165 fun σ N hp hpn hk hkn hfree=>?_
   simp only [List.mem_cons,List.not_mem_nil,or_false,forall_eq_or_imp,forall_eq] at hp hpn;obtain ⟨hd1,hd2,hd3,hd4⟩:=hp;obtain ⟨hdn1,hdn2,hdn3,hdn4⟩:=hpn
   have hne:d≠r1:=by rintro rfl;rw [hd1] at hd2;cases hd2
   have hne3:d≠r2:=by rintro rfl;rw [hd1] at hd3;cases hd3
   have hneg:g≠d:=by rintro rfl;rw [hd4] at hd1;exact ya hd1
   have hneg1:g≠r1:=by rintro rfl;rw [hd4] at hd2;exact yb hd2
   have hcs:=And.intro (c1 d r1 r2) True.intro
   clear c1 hm
   refine Wk ?_
   refine yd [(d,(.box 249 (.agg [.agg [.lit (.bool fr),zd sd,.lit (.int .i64 fs),.slice (some r1) (L.map zJ),.slice (some r2) (B.map zo)],.lit (.int .i64 e)]))),(r1,(.row 190 65 L.length))] (by simp (disch:=omega) [go_sem, *,-List.reduceReplicate];rfl) (by first | rfl | (simp (disch:=omega) [go_sem];done) | (simp (disch:=omega) [go_sem, *];done) | simp (disch:=omega) [go_sem]) (fun id hid=>by simp only [zF,yi];(by_cases hdd:id=d;(· (subst hdd;simp (disch:=omega) [go_sem, *]));(· (by_cases hdd2:id=r1;(· (subst hdd2;simp (disch:=omega) [go_sem, *]));(· (simp (disch:=omega) only [zg];try (first | exact hlow id hid hdd hdd2 | exact hlow id hid))))))) (by simp) (by simp (disch:=omega) [go_sem, *])
  ·have h1i:¬ (4096:Int) < (msg.length:Int):=by omega
   simp only [qr,zP,zO] at *
   refine Bd func165 ntmps165 fun σ N hp hpn hk hkn hfree=>?_
   simp only [List.mem_cons,List.not_mem_nil,or_false,forall_eq_or_imp,forall_eq] at hp hpn;obtain ⟨hd1,hd2,hd3,hd4⟩:=hp;obtain ⟨hdn1,hdn2,hdn3,hdn4⟩:=hpn
   have hne:d≠r1:=by rintro rfl;rw [hd1] at hd2;cases hd2
   have hne3:d≠r2:=by rintro rfl;rw [hd1] at hd3;cases hd3
   have hneg:g≠d:=by rintro rfl;rw [hd4] at hd1;exact ya hd1
   have hneg1:g≠r1:=by rintro rfl;rw [hd4] at hd2;exact yb hd2
   clear hm
   refine Wk ?_
   refine yd [(d,(.box 249 (.agg [.agg [.lit (.bool fr),zd sd,.lit (.int .i64 fs),.slice (some r1) (L.map zJ),.slice (some r2) (B.map zo)],.lit (.int .i64 e)]))),(r1,(.row 190 65 L.length))] (by simp (disch:=omega) [go_sem, *,-List.reduceReplicate];rfl) (by first | rfl | (simp (disch:=omega) [go_sem];done) | (simp (disch:=omega) [go_sem, *];done) | simp (disch:=omega) [go_sem]) (fun id hid=>by simp only [zF,yi];(by_cases hdd:id=d;(· (subst hdd;simp (disch:=omega) [go_sem, *]));(· (by_cases hdd2:id=r1;(· (subst hdd2;simp (disch:=omega) [go_sem, *]));(· (simp (disch:=omega) only [zg];try (first | exact hlow id hid hdd hdd2 | exact hlow id hid))))))) (by simp) (by simp (disch:=omega) [go_sem, *])
end
end Go.Proofs.YtglmjglbobhbbaaGreatDoor
