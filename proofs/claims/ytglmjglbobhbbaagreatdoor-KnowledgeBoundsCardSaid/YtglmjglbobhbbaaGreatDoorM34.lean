/- Texts W1, joined. -/
import Derived.Test.YtglmjglbobhbbaaGreatDoorM30
namespace Go.Proofs.YtglmjglbobhbbaaGreatDoor
open _root_.Go.Proofs.Tryz
open Go.Ab
attribute [local irreducible] Go.Ab.tyAV Go.Ab.aw Go.Ab.aops Go.Ab.kReg Go.Ab.aThen Go.Ab.aBlk Go.Ab.acond Go.Ab.aguard Go.Ab.astep Go.Ab.AStepX Go.Ab.aRet
attribute [local irreducible] yE
theorem zm2 (l:List Ca) (hl:l.length≤10000) (k:Nat):
  ACall prog 202 [.slice none (l.map z8)] k [] (.lit (.int .i64 (yF l:Nat))) []:=by
 have c1:=zbW l _ rfl hl
 have h1:=zad l
 have h2:((yF l:Nat):Int)=(l.length:Int) - ((wy l).length:Int):=by unfold yF;omega
 rw [h2]
 generalize wy l=R at *
 clear h2
 refine Bd func202 ntmps202 fun σ N hp hpn hk hkn hfree=>?_
 have hcs:=And.intro c1 True.intro
 clear c1
 exact W0
theorem zpz (l:List Ca) (_hl:l.length≤1000000) (k:Nat):
  ACall prog 203 [.slice none (l.map z8)] k [] (.clip (l.map z8)) []:=by
 refine Bd func203 ntmps203 fun σ N hp hpn hk hkn hfree=>?_
 exact W0
theorem zgd {t:TypeId} {x:AV} (h:zS=.box t x):False:=by unfold zS at h;cases h
theorem zge {t:TypeId} {n m:Nat} (h:zS=.row t n m):False:=by unfold zS at h;cases h
section
variable [W:W32]
def zuF (p:Pa) (c:Ca):Bool:=decide (64≤p.cavs.length) || (c.third && decide (8≤yF p.cavs))
def inE (e:Nat) (p:Pa) (c:Ca):Nat:=
 if (if e=0 then (zc7 c).2 else e)=0 then (if zuF p c=true then 2 else 0) else (if e=0 then (zc7 c).2 else e)
def zY (a:Alg) (e:Nat) (p:Pa) (c:Ca):Alg × Nat × Pa:=
 ((jW a (inE e p c) p.tag (y9 c)).1,(jW a (inE e p c) p.tag (y9 c)).2.1,⟨p.epoch,p.serial,p.cavs++[c],(jW a (inE e p c) p.tag (y9 c)).2.2⟩)
set_option maxHeartbeats 8000000 in
theorem jl (a:Alg) (m:Nat) (ha:AlgIn a m) (hm:m≤900000) (e:Nat) (p:Pa) (hpl:p.cavs.length≤10000) (hpc:∀ x∈p.cavs,wY x) (c:Ca) (hc:wY c) (hp0:PrOk c.first) (q r1 r2 g h k:Nat):
  ACall prog 164 [.ptr q [] 0,zG p,z8 c] k (vA a e q r1 r2++[(g,yE),(h,zS)]) (zG (zY a e p c).2.2) [(q,zcM (zY a e p c).1 (zY a e p c).2.1 r1 r2),(r1,zfk (zY a e p c).1.macs.length)]:=by
 have c1:=zgh c hp0 h
 have hM:[99,97,118,101,97,116]++(zc7 c).1=y9 c:=rfl
 have hMl:=xP c
 have c2:=yH [99,97,118,101,97,116] (zc7 c).1 (by decide) (by unfold y9 at hMl;rw [List.length_append] at hMl;omega)
 rw [hM] at c2
 have hM0:0 < (y9 c).length:=by simp [y9]
 have f1:=xN a e (zc7 c).2 q r1 r2
 have f2:=xN a (if e=0 then (zc7 c).2 else e) 2 q r1 r2
 have c3:=zp9 a m ha hm (inE e p c) p.tag (y9 c) (fun _=>hM0) oo q r1 r2 g
 have hbx:=wa a (inE e p c) p.tag (y9 c)
 have c4:=zm2 p.cavs hpl
 have c5:=zpz p.cavs oo
 have c6:=vB (p.cavs++[c]) (by rw [List.length_append,List.length_singleton];omega) (fun x hx=>by
  rcases List.mem_append.1 hx with hx | hx
  ·exact hpc x hx
  ·rw [List.mem_singleton.1 hx];exact hc)
 have hT2:yF p.cavs≤10000:=by unfold yF;omega
 unfold zY
 unfold zuF at *
 unfold inE zuF at *
 generalize (zc7 c)=X at *
 obtain ⟨B,E⟩:=X
 simp only at *
 generalize y9 c=M at *
 generalize yF p.cavs=T at *
 obtain ⟨ep,se,L,tg⟩:=p
 simp only at *
 have hcc:z8 c=.agg [.lit (.bool c.third),zU c.first,.lit (.int .i64 c.party),.slice none (c.ticket.map za),.slice none (c.box.map za)]:=rfl
 have hpA:zG ⟨ep,se,L,tg⟩=.agg [.lit (.int .i64 ep),.lit (.int .i64 se),.slice none (L.map z8),zd tg]:=rfl
 rw [hpA]
 unfold zbu at c1
 simp only at c1
 generalize (if e=0 then E else e)=e1 at *
 have hb:(L.length+1) * 120≤140737488355328:=by omega
 have hb0:L.length * 120≤140737488355328:=by omega
 have hb1:L.length≤140737488355327:=by omega
 have e02:((2:Nat):Int)=2:=rfl
 clear ha hc hp0 hpc hM hMl hM0 hpA
 by_cases h64:64≤L.length
 ·have h64i:(64:Int)≤(L.length:Int):=by omega
  have hlim:(decide (64≤L.length) || (c.third && decide (8≤T)))=true:=by rw [decide_eq_true h64];rfl
  rw [hlim,if_pos rfl] at c3 hbx ⊢
  clear hlim
  generalize (if e1=0 then 2 else e1)=e2 at *
  generalize jW a e2 tg M=Y at *
  obtain ⟨a2,e3,t2⟩:=Y
  simp only at c3 hbx ⊢
  have hpB:zG ⟨ep,se,L++[c],t2⟩=.agg [.lit (.int .i64 ep),.lit (.int .i64 se),.slice none (L.map z8++[z8 c]),zd t2]:=by simp [zG]
  rw [hpB]
  rw [List.map_append,List.map_cons,List.map_nil] at c6
  unfold vA at *
  simp only [List.cons_append,List.nil_append] at *
  simp only [zW,zP,zO,hbx,e02] at *
  clear hpB hbx hT2
  refine Bd func164 ntmps164 fun σ N hp hpn hk hkn hfree=>?_
  simp only [List.mem_cons,List.not_mem_nil,or_false,forall_eq_or_imp,forall_eq] at hp hpn
  obtain ⟨hd1,hd2,hd3,hd4,hd5⟩:=hp
  obtain ⟨hdn1,hdn2,hdn3,hdn4,hdn5⟩:=hpn
  have hne:q≠r1:=by rintro rfl;rw [hd1] at hd2;cases hd2
  have hne3:q≠r2:=by rintro rfl;rw [hd1] at hd3;cases hd3
  have hneg:g≠q:=by rintro rfl;rw [hd4] at hd1;exact ya hd1
  have hneg1:g≠r1:=by rintro rfl;rw [hd4] at hd2;exact yb hd2
  have hneh:h≠q:=by rintro rfl;rw [hd5] at hd1;exact zgd hd1
  have hneh1:h≠r1:=by rintro rfl;rw [hd5] at hd2;exact zge hd2
  have hne23:r1≠r2:=by rintro rfl;rw [hd2] at hd3;simp at hd3
  have hcs:=And.intro c1 (And.intro f1 (And.intro f2 (And.intro c5 (And.intro c6 (And.intro c2 (And.intro c3 (True.intro)))))))
  clear c1 f1 f2 c2 c3 c4 c5 c6
  refine Wk ?_
  refine yd [(q,(.box 249 (.agg [.agg [.lit (.bool a2.free),zd a2.seed,.lit (.int .i64 a2.fresh),.slice (some r1) (a2.macs.map zJ),.slice (some r2) (a.boxes.map zo)],.lit (.int .i64 (e3:Int))]))),(r1,(.row 190 65 a2.macs.length))] (by simp (disch:=omega) [go_sem, *,-List.reduceReplicate];rfl) (by first | rfl | (simp (disch:=omega) [go_sem];done) | (simp (disch:=omega) [go_sem, *];done) | simp (disch:=omega) [go_sem]) (fun id hid=>by simp only [zF,yi];(by_cases hdd:id=q;(· (subst hdd;simp (disch:=omega) [go_sem, *]));(· (by_cases hdd2:id=r1;(· (subst hdd2;simp (disch:=omega) [go_sem, *]));(· (simp (disch:=omega) only [zg];try (first | exact hlow id hid hdd hdd2 | exact hlow id hid))))))) (by simp) (by simp (disch:=omega) [go_sem, *])
 ·have h64i:¬ (64:Int)≤(L.length:Int):=by omega
  by_cases hth:c.third=true
  ·rw [hth] at hcc
   by_cases h8:8≤T
   ·have h8i:(8:Int)≤(T:Int):=by omega
    have hlim:(decide (64≤L.length) || (c.third && decide (8≤T)))=true:=by rw [hth,decide_eq_true h8];simp
    rw [hlim,if_pos rfl] at c3 hbx ⊢
    clear hlim hth
    generalize (if e1=0 then 2 else e1)=e2 at *
    generalize jW a e2 tg M=Y at *
    obtain ⟨a2,e3,t2⟩:=Y
    simp only at c3 hbx ⊢
    have hpB:zG ⟨ep,se,L++[c],t2⟩=.agg [.lit (.int .i64 ep),.lit (.int .i64 se),.slice none (L.map z8++[z8 c]),zd t2]:=by simp [zG]
    rw [hpB]
    rw [List.map_append,List.map_cons,List.map_nil] at c6
    unfold vA at *
    simp only [List.cons_append,List.nil_append] at *
    simp only [zW,zP,zO,hbx,e02] at *
    clear hpB hbx hT2
    refine Bd func164 ntmps164 fun σ N hp hpn hk hkn hfree=>?_
    simp only [List.mem_cons,List.not_mem_nil,or_false,forall_eq_or_imp,forall_eq] at hp hpn
    obtain ⟨hd1,hd2,hd3,hd4,hd5⟩:=hp
    obtain ⟨hdn1,hdn2,hdn3,hdn4,hdn5⟩:=hpn
    have hne:q≠r1:=by rintro rfl;rw [hd1] at hd2;cases hd2
    have hne3:q≠r2:=by rintro rfl;rw [hd1] at hd3;cases hd3
    have hneg:g≠q:=by rintro rfl;rw [hd4] at hd1;exact ya hd1
    have hneg1:g≠r1:=by rintro rfl;rw [hd4] at hd2;exact yb hd2
    have hneh:h≠q:=by rintro rfl;rw [hd5] at hd1;exact zgd hd1
    have hneh1:h≠r1:=by rintro rfl;rw [hd5] at hd2;exact zge hd2
    have hne23:r1≠r2:=by rintro rfl;rw [hd2] at hd3;simp at hd3
    have hcs:=And.intro c1 (And.intro f1 (And.intro c4 (And.intro f2 (And.intro c5 (And.intro c6 (And.intro c2 (And.intro c3 (True.intro))))))))
    clear c1 f1 f2 c2 c3 c4 c5 c6
    refine Wk ?_
    refine yd [(q,(.box 249 (.agg [.agg [.lit (.bool a2.free),zd a2.seed,.lit (.int .i64 a2.fresh),.slice (some r1) (a2.macs.map zJ),.slice (some r2) (a.boxes.map zo)],.lit (.int .i64 (e3:Int))]))),(r1,(.row 190 65 a2.macs.length))] (by simp (disch:=omega) [go_sem, *,-List.reduceReplicate];rfl) (by first | rfl | (simp (disch:=omega) [go_sem];done) | (simp (disch:=omega) [go_sem, *];done) | simp (disch:=omega) [go_sem]) (fun id hid=>by simp only [zF,yi];(by_cases hdd:id=q;(· (subst hdd;simp (disch:=omega) [go_sem, *]));(· (by_cases hdd2:id=r1;(· (subst hdd2;simp (disch:=omega) [go_sem, *]));(· (simp (disch:=omega) only [zg];try (first | exact hlow id hid hdd hdd2 | exact hlow id hid))))))) (by simp) (by simp (disch:=omega) [go_sem, *])
   ·have h8i:¬ (8:Int)≤(T:Int):=by omega
    have hlim:(decide (64≤L.length) || (c.third && decide (8≤T)))=false:=by rw [decide_eq_false h64,decide_eq_false h8];simp
    rw [hlim,if_neg (show ¬ (false=true) by simp)] at c3 hbx ⊢
    clear hlim hth
    rw [show (if e1=0 then 0 else e1)=e1 by split <;> omega] at c3 hbx ⊢
    generalize jW a e1 tg M=Y at *
    obtain ⟨a2,e3,t2⟩:=Y
    simp only at c3 hbx ⊢
    have hpB:zG ⟨ep,se,L++[c],t2⟩=.agg [.lit (.int .i64 ep),.lit (.int .i64 se),.slice none (L.map z8++[z8 c]),zd t2]:=by simp [zG]
    rw [hpB]
    rw [List.map_append,List.map_cons,List.map_nil] at c6
    unfold vA at *
    simp only [List.cons_append,List.nil_append] at *
    simp only [zW,zP,zO,hbx,e02] at *
    clear hpB hbx hT2
    refine Bd func164 ntmps164 fun σ N hp hpn hk hkn hfree=>?_
    simp only [List.mem_cons,List.not_mem_nil,or_false,forall_eq_or_imp,forall_eq] at hp hpn
    obtain ⟨hd1,hd2,hd3,hd4,hd5⟩:=hp
    obtain ⟨hdn1,hdn2,hdn3,hdn4,hdn5⟩:=hpn
    have hne:q≠r1:=by rintro rfl;rw [hd1] at hd2;cases hd2
    have hne3:q≠r2:=by rintro rfl;rw [hd1] at hd3;cases hd3
    have hneg:g≠q:=by rintro rfl;rw [hd4] at hd1;exact ya hd1
    have hneg1:g≠r1:=by rintro rfl;rw [hd4] at hd2;exact yb hd2
    have hneh:h≠q:=by rintro rfl;rw [hd5] at hd1;exact zgd hd1
    have hneh1:h≠r1:=by rintro rfl;rw [hd5] at hd2;exact zge hd2
    have hne23:r1≠r2:=by rintro rfl;rw [hd2] at hd3;simp at hd3
    have hcs:=And.intro c1 (And.intro f1 (And.intro c4 (And.intro c5 (And.intro c6 (And.intro c2 (And.intro c3 (True.intro)))))))
    clear c1 f1 f2 c2 c3 c4 c5 c6
    refine Wk ?_
    refine yd [(q,(.box 249 (.agg [.agg [.lit (.bool a2.free),zd a2.seed,.lit (.int .i64 a2.fresh),.slice (some r1) (a2.macs.map zJ),.slice (some r2) (a.boxes.map zo)],.lit (.int .i64 (e3:Int))]))),(r1,(.row 190 65 a2.macs.length))] (by simp (disch:=omega) [go_sem, *,-List.reduceReplicate];rfl) (by first | rfl | (simp (disch:=omega) [go_sem];done) | (simp (disch:=omega) [go_sem, *];done) | simp (disch:=omega) [go_sem]) (fun id hid=>by simp only [zF,yi];(by_cases hdd:id=q;(· (subst hdd;simp (disch:=omega) [go_sem, *]));(· (by_cases hdd2:id=r1;(· (subst hdd2;simp (disch:=omega) [go_sem, *]));(· (simp (disch:=omega) only [zg];try (first | exact hlow id hid hdd hdd2 | exact hlow id hid))))))) (by simp) (by simp (disch:=omega) [go_sem, *])
  ·have hth:c.third=false:=by simpa using hth
   rw [hth] at hcc
   have hlim:(decide (64≤L.length) || (c.third && decide (8≤T)))=false:=by rw [decide_eq_false h64,hth];simp
   rw [hlim,if_neg (show ¬ (false=true) by simp)] at c3 hbx ⊢
   clear hlim hth
   rw [show (if e1=0 then 0 else e1)=e1 by split <;> omega] at c3 hbx ⊢
   generalize jW a e1 tg M=Y at *
   obtain ⟨a2,e3,t2⟩:=Y
   simp only at c3 hbx ⊢
   have hpB:zG ⟨ep,se,L++[c],t2⟩=.agg [.lit (.int .i64 ep),.lit (.int .i64 se),.slice none (L.map z8++[z8 c]),zd t2]:=by simp [zG]
   rw [hpB]
   rw [List.map_append,List.map_cons,List.map_nil] at c6
   unfold vA at *
   simp only [List.cons_append,List.nil_append] at *
   simp only [zW,zP,zO,hbx,e02] at *
   clear hpB hbx hT2
   refine Bd func164 ntmps164 fun σ N hp hpn hk hkn hfree=>?_
   simp only [List.mem_cons,List.not_mem_nil,or_false,forall_eq_or_imp,forall_eq] at hp hpn
   obtain ⟨hd1,hd2,hd3,hd4,hd5⟩:=hp
   obtain ⟨hdn1,hdn2,hdn3,hdn4,hdn5⟩:=hpn
   have hne:q≠r1:=by rintro rfl;rw [hd1] at hd2;cases hd2
   have hne3:q≠r2:=by rintro rfl;rw [hd1] at hd3;cases hd3
   have hneg:g≠q:=by rintro rfl;rw [hd4] at hd1;exact ya hd1
   have hneg1:g≠r1:=by rintro rfl;rw [hd4] at hd2;exact yb hd2
   have hneh:h≠q:=by rintro rfl;rw [hd5] at hd1;exact zgd hd1
   have hneh1:h≠r1:=by rintro rfl;rw [hd5] at hd2;exact zge hd2
   have hne23:r1≠r2:=by rintro rfl;rw [hd2] at hd3;simp at hd3
   have hcs:=And.intro c1 (And.intro f1 (And.intro c5 (And.intro c6 (And.intro c2 (And.intro c3 (True.intro))))))
   clear c1 f1 f2 c2 c3 c4 c5 c6
   refine Wk ?_
   refine yd [(q,(.box 249 (.agg [.agg [.lit (.bool a2.free),zd a2.seed,.lit (.int .i64 a2.fresh),.slice (some r1) (a2.macs.map zJ),.slice (some r2) (a.boxes.map zo)],.lit (.int .i64 (e3:Int))]))),(r1,(.row 190 65 a2.macs.length))] (by simp (disch:=omega) [go_sem, *,-List.reduceReplicate];rfl) (by first | rfl | (simp (disch:=omega) [go_sem];done) | (simp (disch:=omega) [go_sem, *];done) | simp (disch:=omega) [go_sem]) (fun id hid=>by simp only [zF,yi];(by_cases hdd:id=q;(· (subst hdd;simp (disch:=omega) [go_sem, *]));(· (by_cases hdd2:id=r1;(· (subst hdd2;simp (disch:=omega) [go_sem, *]));(· (simp (disch:=omega) only [zg];try (first | exact hlow id hid hdd hdd2 | exact hlow id hid))))))) (by simp) (by simp (disch:=omega) [go_sem, *])
theorem zau (a:Alg) (p:Pa) (c:Ca):zba a p c=if (zY a 0 p c).2.1=0 then ((zY a 0 p c).1,(zY a 0 p c).2.2,0) else (wZ,pa0,(zY a 0 p c).2.1):=by
 unfold zba zY inE
 simp only [if_true]
 cases hc:xz c with
 | false=>
  have he:(zc7 c).2=5:=by unfold zc7;rw [hc];rfl
  have hm:∀ t msg,jW a 5 t msg=(a,5,zeroTag):=fun t msg=>by
   have h5:(5:Nat)≠0:=by omega
   unfold jW;simp only [jO h5]
  rw [if_pos rfl,he,if_neg (show ¬ (5:Nat)=0 by omega),hm,if_neg (show ¬ (5:Nat)=0 by omega)]
 | true=>
  have he:(zc7 c).2=0:=by unfold zc7;rw [hc];rfl
  rw [if_neg (by simp),he,if_pos rfl]
  by_cases hl:64≤p.cavs.length∨(c.third=true∧8≤yF p.cavs)
  ·have hb:zuF p c=true:=by
    unfold zuF
    rcases hl with h | ⟨h,h'⟩
    ·rw [decide_eq_true h];rfl
    ·rw [h,decide_eq_true h'];simp
   have hm:∀ t msg,jW a 2 t msg=(a,2,zeroTag):=fun t msg=>by
    have h5:(2:Nat)≠0:=by omega
    unfold jW;simp only [jO h5]
   rw [if_pos hl,if_pos hb,hm,if_neg (show ¬ (2:Nat)=0 by omega)]
  ·have hb:zuF p c=false:=by
    unfold zuF
    cases hh:(decide (64≤p.cavs.length) || (c.third && decide (8≤yF p.cavs))) with
    | false=>rfl
    | true=>
     refine absurd ?_ hl
     simpa using hh
   rw [if_neg hl,hb,if_neg (show ¬ (false=true) by simp),zp8]
   by_cases h:(jW a 0 p.tag (y9 c)).2.1=0
   ·simp only [if_pos h,if_true]
   ·simp only [if_neg h]
end
end Go.Proofs.YtglmjglbobhbbaaGreatDoor
