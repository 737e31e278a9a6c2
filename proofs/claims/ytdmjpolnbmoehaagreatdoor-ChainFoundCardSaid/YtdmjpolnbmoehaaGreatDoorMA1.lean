/- Texts Q5, W1, W4, W2, W6, Q6, W8, W9, W10, joined. -/
import Derived.Test.YtdmjpolnbmoehaaGreatDoorMS1

namespace Go.Proofs.YtdmjpolnbmoehaaGreatDoor
open Go.Ab
attribute [local irreducible] Go.Ab.tyAV Go.Ab.aw Go.Ab.aops Go.Ab.kReg Go.Ab.aThen Go.Ab.aBlk Go.Ab.acond Go.Ab.aguard Go.Ab.astep Go.Ab.AStepX Go.Ab.aRet
attribute [local irreducible] shaG
section
variable [W : W32]
theorem mNode_node (a : Alg) (key : Tg) (msg : List UInt8) : nodeS a key msg = if (mNode a 0 key msg).2.1 = 0 then ((mNode a 0 key msg).1, (mNode a 0 key msg).2.2, 0) else (alg0, zeroTag, (mNode a 0 key msg).2.1) := by
 by_cases h : (macS a key msg).2.2 = 0
 ·have h1 : mMac a 0 key msg = ((macS a key msg).1, 0, (macS a key msg).2.1) := by unfold mMac; rw [if_neg (by simp), if_pos h]
  by_cases h' : (macS (macS a key msg).1 (macS a key msg).2.1 nodeB).2.2 = 0
  ·have h2 : mNode a 0 key msg = ((macS (macS a key msg).1 (macS a key msg).2.1 nodeB).1, 0, (macS a key msg).2.1) := by unfold mNode; rw [h1]; simp only; unfold mMac; rw [if_neg (by simp), if_pos h']
   rw [nodeS_3 h h', h2]; simp
  ·have h2 : (mNode a 0 key msg).2.1 = (macS (macS a key msg).1 (macS a key msg).2.1 nodeB).2.2 := by unfold mNode; rw [h1]; simp only; unfold mMac; rw [if_neg (by simp), if_neg h']
   rw [nodeS_2 h h', h2, if_neg h']
 ·have h1 : mMac a 0 key msg = (a, (macS a key msg).2.2, zeroTag) := by unfold mMac; rw [if_neg (by simp), if_neg h]
  have h2 : mNode a 0 key msg = (a, (macS a key msg).2.2, zeroTag) := by unfold mNode; rw [h1]; simp only; rw [mMac_err h]
  rw [nodeS_1 h, h2, if_neg h]
omit W in
theorem ranges_ok (x y : Int) (h1 : ¬ x < 1) (h2 : ¬ 1000 < x) (h3 : ¬ y < 1) (h4 : ¬ 1073741824 < y) (k : Nat) :
  ACall Tryz.prog 105 [.lit (.int .i64 x), .lit (.int .i64 y)] k [] (.lit (.bool true)) [] := by
 have g1 : 1 ≤ x := by omega
 have g2 : x ≤ 1000 := by omega
 have g3 : 1 ≤ y := by omega
 have g4 : y ≤ 1073741824 := by omega
 refine Bd Tryz.func105 Tryz.ntmps105 fun σ N hp hpn hk hkn hfree => ?_
 exact W0
omit W in
theorem ranges_no (x y : Int) (h : x < 1 ∨ 1000 < x ∨ y < 1 ∨ 1073741824 < y) (k : Nat) :
  ACall Tryz.prog 105 [.lit (.int .i64 x), .lit (.int .i64 y)] k [] (.lit (.bool false)) [] := by
 by_cases h1 : x < 1
 ·have g1 : ¬ 1 ≤ x := by omega
  refine Bd Tryz.func105 Tryz.ntmps105 fun σ N hp hpn hk hkn hfree => ?_
  exact W0
 ·have g1 : 1 ≤ x := by omega
  by_cases h2 : 1000 < x
  ·have g2 : ¬ x ≤ 1000 := by omega
   refine Bd Tryz.func105 Tryz.ntmps105 fun σ N hp hpn hk hkn hfree => ?_
   exact W0
  ·have g2 : x ≤ 1000 := by omega
   by_cases h3 : y < 1
   ·have g3 : ¬ 1 ≤ y := by omega
    refine Bd Tryz.func105 Tryz.ntmps105 fun σ N hp hpn hk hkn hfree => ?_
    exact W0
   ·have g3 : 1 ≤ y := by omega
    have g4 : ¬ y ≤ 1073741824 := by omega
    refine Bd Tryz.func105 Tryz.ntmps105 fun σ N hp hpn hk hkn hfree => ?_
    exact W0
theorem mint_err (a : Alg) (num ser : Int) (key : Tg) (h : num < 1 ∨ 1000 < num ∨ ser < 1 ∨ 1073741824 < ser) (g k : Nat) :
  ACall Tryz.prog 98 [algAV a, .agg [.lit (.int .i64 num), tagAV key], .lit (.int .i64 ser)] k [(g, shaG)] (mpAV (mintS a num key ser)) [] := by
 unfold mintS
 rw [if_pos h]
 have c1 := ranges_no num ser h
 unfold mpAV paAV pa0
 simp only [alg0_eq, List.map_nil]
 refine Bd Tryz.func98 Tryz.ntmps98 fun σ N hp hpn hk hkn hfree => ?_
 have hcs := And.intro c1 True.intro
 clear c1
 refine Wk ?_
 exact WD
set_option maxHeartbeats 2000000 in
theorem Mint_spec (a : Alg) (m : Nat) (ha : AlgIn a m) (hm : m ≤ 900000) (num ser : Int) (key : Tg) (g k : Nat) :
  ACall Tryz.prog 98 [algAV a, .agg [.lit (.int .i64 num), tagAV key], .lit (.int .i64 ser)] k [(g, shaG)] (mpAV (mintS a num key ser)) [] := by
 by_cases h : num < 1 ∨ 1000 < num ∨ ser < 1 ∨ 1073741824 < ser
 ·exact mint_err a num ser key h g k
 ·unfold mintS
  rw [if_neg h]
  have h1 : ¬ num < 1 := by omega
  have h2 : ¬ 1000 < num := by omega
  have h3 : ¬ ser < 1 := by omega
  have h4 : ¬ 1073741824 < ser := by omega
  have c0 := ranges_ok num ser h1 h2 h3 h4
  obtain ⟨n, rfl⟩ := Int.eq_ofNat_of_zero_le (show 0 ≤ ser by omega)
  have c1 := mint_spec n (by omega)
  rw [Int.toNat_natCast]
  have hML := mintM_len n (by omega)
  have hM0 : 0 < (mintM n).length := by simp [mintM]
  have cb := Begin_spec a (by have := ha.ml; omega) (by have := ha.bl; omega)
  have c2 := fun d r1 r2 => mNode_spec a m ha hm 0 key (mintM n) (fun _ => hM0) (by omega) d r1 r2 g
  have hbx := mNode_boxes a 0 key (mintM n)
  rw [mNode_node]
  generalize mNode a 0 key (mintM n) = X at *
  obtain ⟨a1, e1', t1⟩ := X
  generalize mintM n = M at *
  simp only at c2 hbx ⊢
  unfold makE at c2
  clear ha h hML hM0
  by_cases he : e1' = 0
  ·subst he
   simp only [if_true]
   unfold mpAV paAV
   simp only [List.map_nil]
   have cd := Done_ok a1
   unfold makAV at cb
   unfold makE at cd
   simp only [makB_def, rowM_eq, rowB_eq, List.cons_append, List.nil_append, hbx] at *
   refine Bd Tryz.func98 Tryz.ntmps98 fun σ N hp hpn hk hkn hfree => ?_
   obtain ⟨hd, hdn⟩ := HD0 hp hpn; clear hp hpn
   have hcs := And.intro c0 (And.intro cb True.intro)
   refine Wm ?_
   iterate 3 refine Wz ?_
   clear hcs
   refine go_cliprowIn (N + 10 + 1) [0, 3] 149 65 (bt := 203) (c := .agg [.agg [.lit (.bool a.free), tagAV a.seed, .lit (.int .i64 a.fresh), .clip (a.macs.map macAV), .clip (a.boxes.map sealAV)], .lit (.int .i64 ((0 : Nat) : Int))]) (xs := a.macs.map macAV) (by simp (disch := omega) [go_sem, *, -List.reduceReplicate]) rfl (all_macs1 _) ?_
   refine go_cliprowIn (N + 10 + 1) [0, 4] 151 35 (bt := 203) (c := .agg [.agg [.lit (.bool a.free), tagAV a.seed, .lit (.int .i64 a.fresh), .slice (some (N + 10 + 3)) (a.macs.map macAV), .clip (a.boxes.map sealAV)], .lit (.int .i64 ((0 : Nat) : Int))]) (xs := a.boxes.map sealAV) (by simp (disch := omega) [go_sem, *, -List.reduceReplicate]) rfl (all_boxes1 _) ?_
   have hcs := And.intro c1 (And.intro (c2 (N + 10 + 1) (N + 10 + 3) (N + 10 + 3 + 1)) (And.intro (cd (N + 10 + 1) (N + 10 + 3) (N + 10 + 3 + 1)) True.intro))
   clear c0 cb c1 c2 cd
   refine Wk ?_
   exact WD
  ·simp only [if_neg he]
   unfold mpAV paAV pa0
   simp only [alg0_eq, List.map_nil]
   have h1i : ((e1' : Int) != 0) = true := by simp; omega
   have cd := Done_bad a1 e1' he
   unfold makAV at cb
   unfold makE at cd
   simp only [makB_def, rowM_eq, rowB_eq, List.cons_append, List.nil_append, hbx, alg0_eq] at *
   refine Bd Tryz.func98 Tryz.ntmps98 fun σ N hp hpn hk hkn hfree => ?_
   obtain ⟨hd, hdn⟩ := HD0 hp hpn; clear hp hpn
   have hcs := And.intro c0 (And.intro cb True.intro)
   refine Wm ?_
   iterate 3 refine Wz ?_
   clear hcs
   refine go_cliprowIn (N + 10 + 1) [0, 3] 149 65 (bt := 203) (c := .agg [.agg [.lit (.bool a.free), tagAV a.seed, .lit (.int .i64 a.fresh), .clip (a.macs.map macAV), .clip (a.boxes.map sealAV)], .lit (.int .i64 ((0 : Nat) : Int))]) (xs := a.macs.map macAV) (by simp (disch := omega) [go_sem, *, -List.reduceReplicate]) rfl (all_macs1 _) ?_
   refine go_cliprowIn (N + 10 + 1) [0, 4] 151 35 (bt := 203) (c := .agg [.agg [.lit (.bool a.free), tagAV a.seed, .lit (.int .i64 a.fresh), .slice (some (N + 10 + 3)) (a.macs.map macAV), .clip (a.boxes.map sealAV)], .lit (.int .i64 ((0 : Nat) : Int))]) (xs := a.boxes.map sealAV) (by simp (disch := omega) [go_sem, *, -List.reduceReplicate]) rfl (all_boxes1 _) ?_
   have hcs := And.intro c1 (And.intro (c2 (N + 10 + 1) (N + 10 + 3) (N + 10 + 3 + 1)) (And.intro (cd (N + 10 + 1) (N + 10 + 3) (N + 10 + 3 + 1)) True.intro))
   clear c0 cb c1 c2 cd
   refine Wk ?_
   exact WD
end

theorem pThirds_spec (l : List Ca) (hl : l.length ≤ 10000) (k : Nat) :
  ACall Tryz.prog 162 [.slice none (l.map caAV)] k [] (.lit (.int .i64 (thirdsS l : Nat))) [] := by
 have c1 := firsts_gen l _ rfl hl
 have h1 := firsts_len l
 have h2 : ((thirdsS l : Nat) : Int) = (l.length : Int) - ((firstsS l).length : Int) := by unfold thirdsS; omega
 rw [h2]
 generalize firstsS l = R at *
 clear h2
 refine Bd Tryz.func162 Tryz.ntmps162 fun σ N hp hpn hk hkn hfree => ?_
 have hcs := And.intro c1 True.intro
 clear c1
 exact W0
theorem ClipC_spec (l : List Ca) (_hl : l.length ≤ 1000000) (k : Nat) :
  ACall Tryz.prog 164 [.slice none (l.map caAV)] k [] (.clip (l.map caAV)) [] := by
 refine Bd Tryz.func164 Tryz.ntmps164 fun σ N hp hpn hk hkn hfree => ?_
 exact W0
theorem bitsG_nbx {t : TypeId} {x : AV} (h : bitsG = .box t x) : False := by unfold bitsG at h; cases h
theorem bitsG_nrw {t : TypeId} {n m : Nat} (h : bitsG = .row t n m) : False := by unfold bitsG at h; cases h
section
variable [W : W32]
def limB (p : Pa) (c : Ca) : Bool := decide (64 ≤ p.cavs.length) || (c.third && decide (8 ≤ thirdsS p.cavs))
def inE (e : Nat) (p : Pa) (c : Ca) : Nat :=
 if (if e = 0 then (encS c).2 else e) = 0 then (if limB p c = true then 2 else 0) else (if e = 0 then (encS c).2 else e)
def intoP (a : Alg) (e : Nat) (p : Pa) (c : Ca) : Alg × Nat × Pa :=
 ((mNode a (inE e p c) p.tag (cavM c)).1, (mNode a (inE e p c) p.tag (cavM c)).2.1, ⟨p.epoch, p.serial, p.cavs ++ [c], (mNode a (inE e p c) p.tag (cavM c)).2.2⟩)
set_option maxHeartbeats 8000000 in
theorem cInto_spec (a : Alg) (m : Nat) (ha : AlgIn a m) (hm : m ≤ 900000) (e : Nat) (p : Pa) (hpl : p.cavs.length ≤ 10000) (hpc : ∀ x ∈ p.cavs, CaSm x) (c : Ca) (hc : CaSm c) (hp0 : PrOk c.first) (q r1 r2 g h k : Nat) :
  ACall Tryz.prog 100 [.ptr q [] 0, paAV p, caAV c] k (makE a e q r1 r2 ++ [(g, shaG), (h, bitsG)]) (paAV (intoP a e p c).2.2) [(q, makB (intoP a e p c).1 (intoP a e p c).2.1 r1 r2), (r1, rowM (intoP a e p c).1.macs.length)] := by
 have c1 := cEnc_spec c hp0 h
 have hM : [99, 97, 118, 101, 97, 116] ++ (encS c).1 = cavM c := rfl
 have hMl := cavM_len c
 have c2 := Message_spec [99, 97, 118, 101, 97, 116] (encS c).1 (by decide) (by unfold cavM at hMl; rw [List.length_append] at hMl; omega)
 rw [hM] at c2
 have hM0 : 0 < (cavM c).length := by simp [cavM]
 have f1 := Fail_spec a e (encS c).2 q r1 r2
 have f2 := Fail_spec a (if e = 0 then (encS c).2 else e) 2 q r1 r2
 have c3 := mNode_spec a m ha hm (inE e p c) p.tag (cavM c) (fun _ => hM0) (by omega) q r1 r2 g
 have hbx := mNode_boxes a (inE e p c) p.tag (cavM c)
 have c4 := pThirds_spec p.cavs hpl
 have c5 := ClipC_spec p.cavs (by omega)
 have c6 := CopiedC_spec (p.cavs ++ [c]) (by rw [List.length_append, List.length_singleton]; omega) (fun x hx => by
  rcases List.mem_append.1 hx with hx | hx
  ·exact hpc x hx
  ·rw [List.mem_singleton.1 hx]; exact hc)
 have hT2 : thirdsS p.cavs ≤ 10000 := by unfold thirdsS; omega
 unfold intoP
 unfold limB at *
 unfold inE limB at *
 generalize (encS c) = X at *
 obtain ⟨B, E⟩ := X
 simp only at *
 generalize cavM c = M at *
 generalize thirdsS p.cavs = T at *
 obtain ⟨ep, se, L, tg⟩ := p
 simp only at *
 have hcc : caAV c = .agg [.lit (.bool c.third), prAV c.first, .lit (.int .i64 c.party), .slice none (c.ticket.map byteAV), .slice none (c.box.map byteAV)] := rfl
 have hpA : paAV ⟨ep, se, L, tg⟩ = .agg [.lit (.int .i64 ep), .lit (.int .i64 se), .slice none (L.map caAV), tagAV tg] := rfl
 rw [hpA]
 unfold encAV at c1
 simp only at c1
 generalize (if e = 0 then E else e) = e1 at *
 have hb : (L.length + 1) * 120 ≤ 140737488355328 := by omega
 have hb0 : L.length * 120 ≤ 140737488355328 := by omega
 have hb1 : L.length ≤ 140737488355327 := by omega
 have e02 : ((2 : Nat) : Int) = 2 := rfl
 clear ha hc hp0 hpc hM hMl hM0 hpA
 by_cases h64 : 64 ≤ L.length
 ·have h64i : (64 : Int) ≤ (L.length : Int) := by omega
  have hlim : (decide (64 ≤ L.length) || (c.third && decide (8 ≤ T))) = true := by rw [decide_eq_true h64]; rfl
  rw [hlim, if_pos rfl] at c3 hbx ⊢
  clear hlim
  generalize (if e1 = 0 then 2 else e1) = e2 at *
  generalize mNode a e2 tg M = Y at *
  obtain ⟨a2, e3, t2⟩ := Y
  simp only at c3 hbx ⊢
  have hpB : paAV ⟨ep, se, L ++ [c], t2⟩ = .agg [.lit (.int .i64 ep), .lit (.int .i64 se), .slice none (L.map caAV ++ [caAV c]), tagAV t2] := by simp [paAV]
  rw [hpB]
  rw [List.map_append, List.map_cons, List.map_nil] at c6
  unfold makE at *
  simp only [List.cons_append, List.nil_append] at *
  simp only [makB_def, rowM_eq, rowB_eq, hbx, e02] at *
  clear hpB hbx hT2
  refine Bd Tryz.func100 Tryz.ntmps100 fun σ N hp hpn hk hkn hfree => ?_
  simp only [List.mem_cons, List.not_mem_nil, or_false, forall_eq_or_imp, forall_eq] at hp hpn
  obtain ⟨hd1, hd2, hd3, hd4, hd5⟩ := hp
  obtain ⟨hdn1, hdn2, hdn3, hdn4, hdn5⟩ := hpn
  have hne : q ≠ r1 := by rintro rfl; rw [hd1] at hd2; cases hd2
  have hne3 : q ≠ r2 := by rintro rfl; rw [hd1] at hd3; cases hd3
  have hneg : g ≠ q := by rintro rfl; rw [hd4] at hd1; exact shaG_nbox hd1
  have hneg1 : g ≠ r1 := by rintro rfl; rw [hd4] at hd2; exact shaG_nrow hd2
  have hneh : h ≠ q := by rintro rfl; rw [hd5] at hd1; exact bitsG_nbx hd1
  have hneh1 : h ≠ r1 := by rintro rfl; rw [hd5] at hd2; exact bitsG_nrw hd2
  have hne23 : r1 ≠ r2 := by rintro rfl; rw [hd2] at hd3; simp at hd3
  have hcs := And.intro c1 (And.intro f1 (And.intro f2 (And.intro c5 (And.intro c6 (And.intro c2 (And.intro c3 (True.intro)))))))
  clear c1 f1 f2 c2 c3 c4 c5 c6
  refine Wk ?_
  refine go_resultW [(q, (.box 203 (.agg [.agg [.lit (.bool a2.free), tagAV a2.seed, .lit (.int .i64 a2.fresh), .slice (some r1) (a2.macs.map macAV), .slice (some r2) (a.boxes.map sealAV)], .lit (.int .i64 (e3 : Int))]))), (r1, (.row 149 65 a2.macs.length))] (by simp (disch := omega) [go_sem, *, -List.reduceReplicate]; rfl) (by first | rfl | (simp (disch := omega) [go_sem]; done) | (simp (disch := omega) [go_sem, *]; done) | simp (disch := omega) [go_sem]) (fun id hid => by simp only [wr_cons, wr_nil]; (by_cases hdd : id = q; (· (subst hdd; simp (disch := omega) [go_sem, *])); (· (by_cases hdd2 : id = r1; (· (subst hdd2; simp (disch := omega) [go_sem, *])); (· (simp (disch := omega) only [upd_ne]; try (first | exact hlow id hid hdd hdd2 | exact hlow id hid))))))) (by simp) (by simp (disch := omega) [go_sem, *])
 ·have h64i : ¬ (64 : Int) ≤ (L.length : Int) := by omega
  by_cases hth : c.third = true
  ·rw [hth] at hcc
   by_cases h8 : 8 ≤ T
   ·have h8i : (8 : Int) ≤ (T : Int) := by omega
    have hlim : (decide (64 ≤ L.length) || (c.third && decide (8 ≤ T))) = true := by rw [hth, decide_eq_true h8]; simp
    rw [hlim, if_pos rfl] at c3 hbx ⊢
    clear hlim hth
    generalize (if e1 = 0 then 2 else e1) = e2 at *
    generalize mNode a e2 tg M = Y at *
    obtain ⟨a2, e3, t2⟩ := Y
    simp only at c3 hbx ⊢
    have hpB : paAV ⟨ep, se, L ++ [c], t2⟩ = .agg [.lit (.int .i64 ep), .lit (.int .i64 se), .slice none (L.map caAV ++ [caAV c]), tagAV t2] := by simp [paAV]
    rw [hpB]
    rw [List.map_append, List.map_cons, List.map_nil] at c6
    unfold makE at *
    simp only [List.cons_append, List.nil_append] at *
    simp only [makB_def, rowM_eq, rowB_eq, hbx, e02] at *
    clear hpB hbx hT2
    refine Bd Tryz.func100 Tryz.ntmps100 fun σ N hp hpn hk hkn hfree => ?_
    simp only [List.mem_cons, List.not_mem_nil, or_false, forall_eq_or_imp, forall_eq] at hp hpn
    obtain ⟨hd1, hd2, hd3, hd4, hd5⟩ := hp
    obtain ⟨hdn1, hdn2, hdn3, hdn4, hdn5⟩ := hpn
    have hne : q ≠ r1 := by rintro rfl; rw [hd1] at hd2; cases hd2
    have hne3 : q ≠ r2 := by rintro rfl; rw [hd1] at hd3; cases hd3
    have hneg : g ≠ q := by rintro rfl; rw [hd4] at hd1; exact shaG_nbox hd1
    have hneg1 : g ≠ r1 := by rintro rfl; rw [hd4] at hd2; exact shaG_nrow hd2
    have hneh : h ≠ q := by rintro rfl; rw [hd5] at hd1; exact bitsG_nbx hd1
    have hneh1 : h ≠ r1 := by rintro rfl; rw [hd5] at hd2; exact bitsG_nrw hd2
    have hne23 : r1 ≠ r2 := by rintro rfl; rw [hd2] at hd3; simp at hd3
    have hcs := And.intro c1 (And.intro f1 (And.intro c4 (And.intro f2 (And.intro c5 (And.intro c6 (And.intro c2 (And.intro c3 (True.intro))))))))
    clear c1 f1 f2 c2 c3 c4 c5 c6
    refine Wk ?_
    refine go_resultW [(q, (.box 203 (.agg [.agg [.lit (.bool a2.free), tagAV a2.seed, .lit (.int .i64 a2.fresh), .slice (some r1) (a2.macs.map macAV), .slice (some r2) (a.boxes.map sealAV)], .lit (.int .i64 (e3 : Int))]))), (r1, (.row 149 65 a2.macs.length))] (by simp (disch := omega) [go_sem, *, -List.reduceReplicate]; rfl) (by first | rfl | (simp (disch := omega) [go_sem]; done) | (simp (disch := omega) [go_sem, *]; done) | simp (disch := omega) [go_sem]) (fun id hid => by simp only [wr_cons, wr_nil]; (by_cases hdd : id = q; (· (subst hdd; simp (disch := omega) [go_sem, *])); (· (by_cases hdd2 : id = r1; (· (subst hdd2; simp (disch := omega) [go_sem, *])); (· (simp (disch := omega) only [upd_ne]; try (first | exact hlow id hid hdd hdd2 | exact hlow id hid))))))) (by simp) (by simp (disch := omega) [go_sem, *])
   ·have h8i : ¬ (8 : Int) ≤ (T : Int) := by omega
    have hlim : (decide (64 ≤ L.length) || (c.third && decide (8 ≤ T))) = false := by rw [decide_eq_false h64, decide_eq_false h8]; simp
    rw [hlim, if_neg (show ¬ (false = true) by simp)] at c3 hbx ⊢
    clear hlim hth
    rw [show (if e1 = 0 then 0 else e1) = e1 by split <;> omega] at c3 hbx ⊢
    generalize mNode a e1 tg M = Y at *
    obtain ⟨a2, e3, t2⟩ := Y
    simp only at c3 hbx ⊢
    have hpB : paAV ⟨ep, se, L ++ [c], t2⟩ = .agg [.lit (.int .i64 ep), .lit (.int .i64 se), .slice none (L.map caAV ++ [caAV c]), tagAV t2] := by simp [paAV]
    rw [hpB]
    rw [List.map_append, List.map_cons, List.map_nil] at c6
    unfold makE at *
    simp only [List.cons_append, List.nil_append] at *
    simp only [makB_def, rowM_eq, rowB_eq, hbx, e02] at *
    clear hpB hbx hT2
    refine Bd Tryz.func100 Tryz.ntmps100 fun σ N hp hpn hk hkn hfree => ?_
    simp only [List.mem_cons, List.not_mem_nil, or_false, forall_eq_or_imp, forall_eq] at hp hpn
    obtain ⟨hd1, hd2, hd3, hd4, hd5⟩ := hp
    obtain ⟨hdn1, hdn2, hdn3, hdn4, hdn5⟩ := hpn
    have hne : q ≠ r1 := by rintro rfl; rw [hd1] at hd2; cases hd2
    have hne3 : q ≠ r2 := by rintro rfl; rw [hd1] at hd3; cases hd3
    have hneg : g ≠ q := by rintro rfl; rw [hd4] at hd1; exact shaG_nbox hd1
    have hneg1 : g ≠ r1 := by rintro rfl; rw [hd4] at hd2; exact shaG_nrow hd2
    have hneh : h ≠ q := by rintro rfl; rw [hd5] at hd1; exact bitsG_nbx hd1
    have hneh1 : h ≠ r1 := by rintro rfl; rw [hd5] at hd2; exact bitsG_nrw hd2
    have hne23 : r1 ≠ r2 := by rintro rfl; rw [hd2] at hd3; simp at hd3
    have hcs := And.intro c1 (And.intro f1 (And.intro c4 (And.intro c5 (And.intro c6 (And.intro c2 (And.intro c3 (True.intro)))))))
    clear c1 f1 f2 c2 c3 c4 c5 c6
    refine Wk ?_
    refine go_resultW [(q, (.box 203 (.agg [.agg [.lit (.bool a2.free), tagAV a2.seed, .lit (.int .i64 a2.fresh), .slice (some r1) (a2.macs.map macAV), .slice (some r2) (a.boxes.map sealAV)], .lit (.int .i64 (e3 : Int))]))), (r1, (.row 149 65 a2.macs.length))] (by simp (disch := omega) [go_sem, *, -List.reduceReplicate]; rfl) (by first | rfl | (simp (disch := omega) [go_sem]; done) | (simp (disch := omega) [go_sem, *]; done) | simp (disch := omega) [go_sem]) (fun id hid => by simp only [wr_cons, wr_nil]; (by_cases hdd : id = q; (· (subst hdd; simp (disch := omega) [go_sem, *])); (· (by_cases hdd2 : id = r1; (· (subst hdd2; simp (disch := omega) [go_sem, *])); (· (simp (disch := omega) only [upd_ne]; try (first | exact hlow id hid hdd hdd2 | exact hlow id hid))))))) (by simp) (by simp (disch := omega) [go_sem, *])
  ·have hth : c.third = false := by simpa using hth
   rw [hth] at hcc
   have hlim : (decide (64 ≤ L.length) || (c.third && decide (8 ≤ T))) = false := by rw [decide_eq_false h64, hth]; simp
   rw [hlim, if_neg (show ¬ (false = true) by simp)] at c3 hbx ⊢
   clear hlim hth
   rw [show (if e1 = 0 then 0 else e1) = e1 by split <;> omega] at c3 hbx ⊢
   generalize mNode a e1 tg M = Y at *
   obtain ⟨a2, e3, t2⟩ := Y
   simp only at c3 hbx ⊢
   have hpB : paAV ⟨ep, se, L ++ [c], t2⟩ = .agg [.lit (.int .i64 ep), .lit (.int .i64 se), .slice none (L.map caAV ++ [caAV c]), tagAV t2] := by simp [paAV]
   rw [hpB]
   rw [List.map_append, List.map_cons, List.map_nil] at c6
   unfold makE at *
   simp only [List.cons_append, List.nil_append] at *
   simp only [makB_def, rowM_eq, rowB_eq, hbx, e02] at *
   clear hpB hbx hT2
   refine Bd Tryz.func100 Tryz.ntmps100 fun σ N hp hpn hk hkn hfree => ?_
   simp only [List.mem_cons, List.not_mem_nil, or_false, forall_eq_or_imp, forall_eq] at hp hpn
   obtain ⟨hd1, hd2, hd3, hd4, hd5⟩ := hp
   obtain ⟨hdn1, hdn2, hdn3, hdn4, hdn5⟩ := hpn
   have hne : q ≠ r1 := by rintro rfl; rw [hd1] at hd2; cases hd2
   have hne3 : q ≠ r2 := by rintro rfl; rw [hd1] at hd3; cases hd3
   have hneg : g ≠ q := by rintro rfl; rw [hd4] at hd1; exact shaG_nbox hd1
   have hneg1 : g ≠ r1 := by rintro rfl; rw [hd4] at hd2; exact shaG_nrow hd2
   have hneh : h ≠ q := by rintro rfl; rw [hd5] at hd1; exact bitsG_nbx hd1
   have hneh1 : h ≠ r1 := by rintro rfl; rw [hd5] at hd2; exact bitsG_nrw hd2
   have hne23 : r1 ≠ r2 := by rintro rfl; rw [hd2] at hd3; simp at hd3
   have hcs := And.intro c1 (And.intro f1 (And.intro c5 (And.intro c6 (And.intro c2 (And.intro c3 (True.intro))))))
   clear c1 f1 f2 c2 c3 c4 c5 c6
   refine Wk ?_
   refine go_resultW [(q, (.box 203 (.agg [.agg [.lit (.bool a2.free), tagAV a2.seed, .lit (.int .i64 a2.fresh), .slice (some r1) (a2.macs.map macAV), .slice (some r2) (a.boxes.map sealAV)], .lit (.int .i64 (e3 : Int))]))), (r1, (.row 149 65 a2.macs.length))] (by simp (disch := omega) [go_sem, *, -List.reduceReplicate]; rfl) (by first | rfl | (simp (disch := omega) [go_sem]; done) | (simp (disch := omega) [go_sem, *]; done) | simp (disch := omega) [go_sem]) (fun id hid => by simp only [wr_cons, wr_nil]; (by_cases hdd : id = q; (· (subst hdd; simp (disch := omega) [go_sem, *])); (· (by_cases hdd2 : id = r1; (· (subst hdd2; simp (disch := omega) [go_sem, *])); (· (simp (disch := omega) only [upd_ne]; try (first | exact hlow id hid hdd hdd2 | exact hlow id hid))))))) (by simp) (by simp (disch := omega) [go_sem, *])
theorem attS_into (a : Alg) (p : Pa) (c : Ca) : attS a p c = if (intoP a 0 p c).2.1 = 0 then ((intoP a 0 p c).1, (intoP a 0 p c).2.2, 0) else (alg0, pa0, (intoP a 0 p c).2.1) := by
 unfold attS intoP inE
 simp only [if_true]
 cases hc : cavB c with
 | false =>
  have he : (encS c).2 = 5 := by unfold encS; rw [hc]; rfl
  have hm : ∀ t msg, mNode a 5 t msg = (a, 5, zeroTag) := fun t msg => by
   have h5 : (5 : Nat) ≠ 0 := by omega
   unfold mNode; simp only [mMac_err h5]
  rw [if_pos rfl, he, if_neg (show ¬ (5 : Nat) = 0 by omega), hm, if_neg (show ¬ (5 : Nat) = 0 by omega)]
 | true =>
  have he : (encS c).2 = 0 := by unfold encS; rw [hc]; rfl
  rw [if_neg (by simp), he, if_pos rfl]
  by_cases hl : 64 ≤ p.cavs.length ∨ (c.third = true ∧ 8 ≤ thirdsS p.cavs)
  ·have hb : limB p c = true := by
    unfold limB
    rcases hl with h | ⟨h, h'⟩
    ·rw [decide_eq_true h]; rfl
    ·rw [h, decide_eq_true h']; simp
   have hm : ∀ t msg, mNode a 2 t msg = (a, 2, zeroTag) := fun t msg => by
    have h5 : (2 : Nat) ≠ 0 := by omega
    unfold mNode; simp only [mMac_err h5]
   rw [if_pos hl, if_pos hb, hm, if_neg (show ¬ (2 : Nat) = 0 by omega)]
  ·have hb : limB p c = false := by
    unfold limB
    cases hh : (decide (64 ≤ p.cavs.length) || (c.third && decide (8 ≤ thirdsS p.cavs))) with
    | false => rfl
    | true =>
     refine absurd ?_ hl
     simpa using hh
   rw [if_neg hl, hb, if_neg (show ¬ (false = true) by simp), mNode_node]
   by_cases h : (mNode a 0 p.tag (cavM c)).2.1 = 0
   ·simp only [if_pos h, if_true]
   ·simp only [if_neg h]
set_option maxHeartbeats 4000000 in
theorem Att_spec (a : Alg) (m : Nat) (ha : AlgIn a m) (hm : m ≤ 900000) (p : Pa) (hpl : p.cavs.length ≤ 10000) (hpc : ∀ x ∈ p.cavs, CaSm x) (c : Ca) (hc : CaSm c) (hp0 : PrOk c.first) (g h : Nat) (_hgh : g ≠ h) (k : Nat) :
  ACall Tryz.prog 36 [algAV a, paAV p, caAV c] k [(g, shaG), (h, bitsG)] (mpAV (attS a p c)) [] := by
 have cb := Begin_spec a (by have := ha.ml; omega) (by have := ha.bl; omega)
 have c1 := fun q r1 r2 => cInto_spec a m ha hm 0 p hpl hpc c hc hp0 q r1 r2 g h
 have hbx : (intoP a 0 p c).1.boxes = a.boxes := mNode_boxes _ _ _ _
 rw [attS_into]
 generalize intoP a 0 p c = X at *
 obtain ⟨a1, e1, p1⟩ := X
 simp only at c1 hbx ⊢
 clear ha hpl hpc hc hp0
 by_cases he : e1 = 0
 ·subst he
  rw [if_pos rfl]
  unfold mpAV
  simp only
  have cd := Done_ok a1
  unfold makAV at cb
  unfold makE at c1 cd
  simp only [List.cons_append, List.nil_append] at *
  simp only [makB_def, rowM_eq, rowB_eq, hbx] at *
  refine Bd Tryz.func36 Tryz.ntmps36 fun σ N hp hpn hk hkn hfree => ?_
  simp only [List.mem_cons, List.not_mem_nil, or_false, forall_eq_or_imp, forall_eq] at hp hpn; obtain ⟨hd1, hd2⟩ := hp; obtain ⟨hdn1, hdn2⟩ := hpn
  have hcs := And.intro cb True.intro
  refine Wm ?_
  iterate 2 refine Wz ?_
  clear hcs
  refine go_cliprowIn (N + 6 + 1) [0, 3] 149 65 (bt := 203) (c := .agg [.agg [.lit (.bool a.free), tagAV a.seed, .lit (.int .i64 a.fresh), .clip (a.macs.map macAV), .clip (a.boxes.map sealAV)], .lit (.int .i64 ((0 : Nat) : Int))]) (xs := a.macs.map macAV) (by simp (disch := omega) [go_sem, *, -List.reduceReplicate]) rfl (all_macs1 _) ?_; refine go_cliprowIn (N + 6 + 1) [0, 4] 151 35 (bt := 203) (c := .agg [.agg [.lit (.bool a.free), tagAV a.seed, .lit (.int .i64 a.fresh), .slice (some (N + 6 + 3)) (a.macs.map macAV), .clip (a.boxes.map sealAV)], .lit (.int .i64 ((0 : Nat) : Int))]) (xs := a.boxes.map sealAV) (by simp (disch := omega) [go_sem, *, -List.reduceReplicate]) rfl (all_boxes1 _) ?_
  have hcs := And.intro (c1 (N + 6 + 1) (N + 6 + 3) (N + 6 + 3 + 1)) (And.intro (cd (N + 6 + 1) (N + 6 + 3) (N + 6 + 3 + 1)) True.intro)
  clear cb c1 cd
  refine Wk ?_
  exact WD
 ·rw [if_neg he]
  unfold mpAV paAV pa0
  simp only [alg0_eq, List.map_nil]
  have h1i : ((e1 : Int) != 0) = true := by simp; omega
  have cd := Done_bad a1 e1 he
  unfold makAV at cb
  unfold makE at c1 cd
  simp only [List.cons_append, List.nil_append] at *
  simp only [makB_def, rowM_eq, rowB_eq, hbx, alg0_eq] at *
  refine Bd Tryz.func36 Tryz.ntmps36 fun σ N hp hpn hk hkn hfree => ?_
  simp only [List.mem_cons, List.not_mem_nil, or_false, forall_eq_or_imp, forall_eq] at hp hpn; obtain ⟨hd1, hd2⟩ := hp; obtain ⟨hdn1, hdn2⟩ := hpn
  have hcs := And.intro cb True.intro
  refine Wm ?_
  iterate 2 refine Wz ?_
  clear hcs
  refine go_cliprowIn (N + 6 + 1) [0, 3] 149 65 (bt := 203) (c := .agg [.agg [.lit (.bool a.free), tagAV a.seed, .lit (.int .i64 a.fresh), .clip (a.macs.map macAV), .clip (a.boxes.map sealAV)], .lit (.int .i64 ((0 : Nat) : Int))]) (xs := a.macs.map macAV) (by simp (disch := omega) [go_sem, *, -List.reduceReplicate]) rfl (all_macs1 _) ?_; refine go_cliprowIn (N + 6 + 1) [0, 4] 151 35 (bt := 203) (c := .agg [.agg [.lit (.bool a.free), tagAV a.seed, .lit (.int .i64 a.fresh), .slice (some (N + 6 + 3)) (a.macs.map macAV), .clip (a.boxes.map sealAV)], .lit (.int .i64 ((0 : Nat) : Int))]) (xs := a.boxes.map sealAV) (by simp (disch := omega) [go_sem, *, -List.reduceReplicate]) rfl (all_boxes1 _) ?_
  have hcs := And.intro (c1 (N + 6 + 1) (N + 6 + 3) (N + 6 + 3 + 1)) (And.intro (cd (N + 6 + 1) (N + 6 + 3) (N + 6 + 3 + 1)) True.intro)
  clear cb c1 cd
  refine Wk ?_
  exact WD
end

def ridesC (n : Int) : Ca := firC ⟨7, 0, 0, 0, [], n⟩
theorem ridesC_eq (n : Int) : caAV (ridesC n) = .agg [.lit (.bool false), .agg [.lit (.int .i64 7), .lit (.int .u64 0), .lit (.int .i64 0), .lit (.int .i64 0), .lit (.string ⟨#[]⟩), .lit (.int .i64 n)], .lit (.int .i64 0), .slice none [], .slice none []] := rfl
theorem rides13_spec (n : Int) (k : Nat) : ACall Tryz.prog 34 [.lit (.int .i64 n)] k [] (caAV (ridesC n)) [] := by
 rw [ridesC_eq]
 refine Bd Tryz.func34 Tryz.ntmps34 fun σ N hp hpn hk hkn hfree => ?_
 refine Wk ?_
 refine go_resultI (by simp (disch := omega) [go_sem, *, -List.reduceReplicate]; rfl) (AV.sub_agg (by repeat' first | exact ALe.nil | exact AV.le_refl _ | apply ALe.cons | ((first | apply AV.le_slices | apply AV.le_nilsE | apply AV.le_clipE); first | rfl | (simp (disch := omega) [go_sem, *, -List.reduceReplicate]; done)))) (by simp (disch := omega) [go_sem, -List.reduceReplicate]; try rfl) (fun id hid => by simp (disch := omega) only [upd_ne]; try exact hlow id hid)
section
variable [W : W32]
def aF : Alg := ⟨true, zeroTag, 0, [], []⟩
omit W in
theorem aF_eq : algAV aF = .agg [.lit (.bool true), tagAV zeroTag, .lit (.int .i64 0), .slice none [], .slice none []] := rfl
omit W in
theorem aF_in : AlgIn aF 0 := ⟨by simp [aF], by simp [aF], by simp [aF], by simp [aF], fun e he => by simp [aF] at he, fun e he => by simp [aF] at he⟩
omit W in
theorem entL_none {k : Tg} {m : List UInt8} : ∀ {L : List MacE}, (∀ e ∈ L, ¬ (e.key = k ∧ e.msg = m)) → entL k m L = none
 | [], _ => rfl
 | e :: r, h => by
  rw [entL, if_neg (h e (List.mem_cons_self ..))]
  exact entL_none fun x hx => h x (List.mem_cons_of_mem _ hx)
def L2 : List MacE := [⟨zeroTag, mintM 1, symT 109 1⟩, ⟨symT 109 1, nodeB, symT 109 2⟩]
def L4 (c : Ca) : List MacE := L2 ++ [⟨symT 109 1, cavM c, symT 109 3⟩, ⟨symT 109 3, nodeB, symT 109 4⟩]
omit W in
theorem mint_nnode : mintM 1 ≠ nodeB := by intro h; have := congrArg List.head? h; simp [mintM, nodeB] at this
omit W in
theorem mint_ncav (c : Ca) : mintM 1 ≠ cavM c := by intro h; have := congrArg List.head? h; simp [mintM, cavM] at this
omit W in
theorem node_ncav (c : Ca) : nodeB ≠ cavM c := by intro h; have := congrArg List.head? h; simp [nodeB, cavM] at this
theorem aw_mint : mintS aF 1 zeroTag 1 = (⟨true, zeroTag, 0, L2, []⟩, ⟨1, 1, [], symT 109 1⟩, 0) := by
 have hl := mintM_len 1 (by omega)
 have h1 : macS aF zeroTag (mintM 1) = (⟨true, zeroTag, 0, [⟨zeroTag, mintM 1, symT 109 1⟩], []⟩, symT 109 1, 0) := by
  rw [macS_new (by omega) rfl (by decide)]; rfl
 have h2 : macS ⟨true, zeroTag, 0, [⟨zeroTag, mintM 1, symT 109 1⟩], []⟩ (symT 109 1) nodeB = (⟨true, zeroTag, 0, L2, []⟩, symT 109 2, 0) := by
  rw [macS_new (by decide) (entL_none fun e he => ?_) (by decide)]; rfl
  rw [List.mem_singleton.1 he]
  exact fun h => mint_nnode h.2
 unfold mintS
 rw [if_neg (by omega)]
 have h3 := nodeS_3 (a := aF) (key := zeroTag) (msg := mintM 1) (by rw [h1]) (by rw [h1]; simp only; rw [h2])
 rw [h1] at h3
 simp only at h3
 rw [h2] at h3
 rw [show (1 : Int).toNat = 1 from rfl, h3, if_pos rfl]
theorem aw_att : attS ⟨true, zeroTag, 0, L2, []⟩ ⟨1, 1, [], symT 109 1⟩ (ridesC 3) = (⟨true, zeroTag, 0, L4 (ridesC 3), []⟩, ⟨1, 1, [ridesC 3], symT 109 3⟩, 0) := by
 have hl := cavM_len (ridesC 3)
 have h1 : macS ⟨true, zeroTag, 0, L2, []⟩ (symT 109 1) (cavM (ridesC 3)) = (⟨true, zeroTag, 0, L2 ++ [⟨symT 109 1, cavM (ridesC 3), symT 109 3⟩], []⟩, symT 109 3, 0) := by
  rw [macS_new (by omega) (entL_none fun e he => ?_) (by decide)]; rfl
  simp only [L2, List.mem_cons, List.not_mem_nil, or_false] at he
  rcases he with rfl | rfl
  ·exact fun h => mint_ncav _ h.2
  ·exact fun h => node_ncav _ h.2
 have h2 : macS ⟨true, zeroTag, 0, L2 ++ [⟨symT 109 1, cavM (ridesC 3), symT 109 3⟩], []⟩ (symT 109 3) nodeB = (⟨true, zeroTag, 0, L4 (ridesC 3), []⟩, symT 109 4, 0) := by
  rw [macS_new (by decide) (entL_none fun e he => ?_) (by decide)]; rfl
  simp only [L2, List.cons_append, List.nil_append, List.mem_cons, List.not_mem_nil, or_false] at he
  rcases he with rfl | rfl | rfl
  ·exact fun h => mint_nnode h.2
  ·exact fun h => by have := symT_inj (by omega) (by omega) (by omega) (by omega) h.1; omega
  ·exact fun h => node_ncav _ h.2.symm
 have h3 := nodeS_3 (a := ⟨true, zeroTag, 0, L2, []⟩) (key := symT 109 1) (msg := cavM (ridesC 3)) (by rw [h1]) (by rw [h1]; simp only; rw [h2])
 rw [h1] at h3
 simp only at h3
 rw [h2] at h3
 unfold attS
 rw [if_neg (by decide), if_neg (by decide), h3, if_pos rfl]
 rfl
set_option maxHeartbeats 1000000 in
theorem awake13_spec (g h : Nat) (hgh : g ≠ h) (k : Nat) : ACall Tryz.prog 33 [] k [(g, shaG), (h, bitsG)] (.lit (.bool true)) [] := by
 have c1 := Mint_spec aF 0 aF_in (by decide) 1 1 zeroTag g
 rw [aw_mint] at c1
 have c2 := rides13_spec 3
 have hin : AlgIn ⟨true, zeroTag, 0, L2, []⟩ 2 := by have := mintS_in aF_in 1 zeroTag 1; rw [aw_mint] at this; exact this
 have c3 := Att_spec _ 2 hin (by decide) ⟨1, 1, [], symT 109 1⟩ (by simp) (fun x hx => by cases hx) (ridesC 3) ⟨by simp [ridesC, firC], by simp [ridesC, firC]⟩ ⟨by decide, by decide, by decide⟩ g h hgh
 rw [aw_att] at c3
 have c4 := pSymbol_spec 109 1 (by decide)
 have c5 := pSymbol_spec 109 3 (by decide)
 have e1 : ((109 : UInt8).toNat : Int) = 109 := rfl
 have e2 : ((1 : Nat) : Int) = 1 := rfl
 have e3 : ((3 : Nat) : Int) = 3 := rfl
 have e0 : ((0 : Nat) : Int) = 0 := rfl
 rw [e1, e2] at c4
 rw [e1, e3] at c5
 unfold mpAV at c1 c3
 have hp1 : paAV ⟨1, 1, [], symT 109 1⟩ = .agg [.lit (.int .i64 1), .lit (.int .i64 1), .slice none [], tagAV (symT 109 1)] := rfl
 have hp2 : paAV ⟨1, 1, [ridesC 3], symT 109 3⟩ = .agg [.lit (.int .i64 1), .lit (.int .i64 1), .slice none [caAV (ridesC 3)], tagAV (symT 109 3)] := rfl
 have ha2 : algAV ⟨true, zeroTag, 0, L4 (ridesC 3), []⟩ = .agg [.lit (.bool true), tagAV zeroTag, .lit (.int .i64 0), .slice none ((L4 (ridesC 3)).map macAV), .slice none []] := rfl
 have hL : ((L4 (ridesC 3)).map macAV).length = 4 := rfl
 simp only [e0, hp1, hp2, aF_eq, ha2] at c1 c3
 generalize (L4 (ridesC 3)).map macAV = M4 at *
 generalize ridesC 3 = C3 at *
 generalize symT 109 1 = s1 at *
 generalize symT 109 3 = s3 at *
 generalize (⟨true, zeroTag, 0, L2, []⟩ : Alg) = A2 at *
 clear hin e0 e1 e2 e3 hp1 hp2 ha2
 refine Bd Tryz.func33 Tryz.ntmps33 fun σ N hp hpn hk hkn hfree => ?_
 simp only [List.mem_cons, List.not_mem_nil, or_false, forall_eq_or_imp, forall_eq] at hp hpn; obtain ⟨hd1, hd2⟩ := hp; obtain ⟨hdn1, hdn2⟩ := hpn
 have hcs := And.intro c1 (And.intro c2 (And.intro c3 (And.intro c4 (And.intro c5 True.intro))))
 clear c1 c2 c3 c4 c5
 exact W0
end

section
variable [W : W32]
def walkA (a : Alg) : List Tg → Tg → List (List UInt8) → Option (List Tg)
 | acc, _, [] => some acc
 | acc, k, m :: r => match lookO a k m with
  | none => none
  | some t => walkA a (acc ++ [t]) t r
def nodesA (a : Alg) : List Tg → List Tg → Option (List Tg)
 | acc, [] => some acc
 | acc, k :: r => match lookO a k nodeB with
  | none => none
  | some t => nodesA a (acc ++ [t]) r
def msgsL (ser : Int) (l : List Ca) : List (List UInt8) := mintM ser.toNat :: l.map cavM
def orTag : Option (List Tg) → List Tg × Nat
 | none => ([], 19)
 | some ts => (ts, 0)
def tagsS (a : Alg) (num : Int) (key : Tg) (ser : Int) (l : List Ca) : List Tg × Nat :=
 if num < 1 ∨ 1000 < num ∨ ser < 1 ∨ 1073741824 < ser then ([], 1) else if (l.any fun c => !cavB c) = true then ([], 5) else orTag (walkA a [] key (msgsL ser l))
def nodesS (a : Alg) (l : List Tg) : List Tg × Nat := orTag (nodesA a [] l)
omit W in
def tsAV (r : List Tg × Nat) : AV := .tup [.slice none (r.1.map tagAV), .lit (.int .i64 (r.2 : Nat))]
theorem nodesA_len (a : Alg) : ∀ (L : List Tg) (acc : List Tg) (R : List Tg), nodesA a acc L = some R → R.length = acc.length + L.length
 | [], acc, R, h => by simp only [nodesA, Option.some.injEq] at h; subst h; rfl
 | m :: r, acc, R, h => by
  rw [nodesA] at h
  split at h
  ·cases h
  ·have := nodesA_len a r _ _ h
   simp at this ⊢; omega
theorem walk_path {a : Alg} (ok : AlgOk a) : ∀ {L : List (List UInt8)} {k t : Tg} {acc : List Tg}, pathIn a.macs k L t →
  ∃ ts, walkA a acc k L = some (acc ++ ts) ∧ ts.length = L.length ∧ (∀ x ∈ ts, ∃ id, (⟨x, nodeB, id⟩ : MacE) ∈ a.macs) ∧ (k :: ts)[L.length]? = some t ∧ ∀ m t', lookO a t m = some t' → walkA a acc k (L ++ [m]) = some (acc ++ ts ++ [t'])
 | [], k, t, acc, h => by
  have h : k = t := h
  subst h
  exact ⟨[], by simp [walkA], rfl, fun x hx => (by cases hx), rfl, fun m t' h => by simp [walkA, h]⟩
 | m :: r, k, t, acc, h => by
  obtain ⟨t1, ⟨h1, id, h2⟩, h3⟩ := h
  have hl := look_in ok h1
  simp only at hl
  obtain ⟨ts, k1, k2, k3, k4, k5⟩ := walk_path ok (acc := acc ++ [t1]) h3
  refine ⟨t1 :: ts, ?_, ?_, ?_, ?_, ?_⟩
  ·rw [walkA, hl]; simp only; rw [k1]; simp
  ·simp [k2]
  ·intro x hx
   rcases List.mem_cons.1 hx with rfl | hx
   ·exact ⟨id, h2⟩
   ·exact k3 x hx
  ·rw [List.length_cons, List.getElem?_cons_succ]; exact k4
  ·intro m' t' ht
   rw [List.cons_append, walkA, hl]
   simp only
   rw [k5 m' t' ht]; simp
theorem nodes_path {a : Alg} (ok : AlgOk a) : ∀ {L acc : List Tg}, (∀ x ∈ L, ∃ id, (⟨x, nodeB, id⟩ : MacE) ∈ a.macs) → ∃ ids, nodesA a acc L = some ids
 | [], acc, _ => ⟨acc, rfl⟩
 | t :: r, acc, h => by
  obtain ⟨id, hid⟩ := h t (List.mem_cons_self ..)
  have hl := look_in ok hid
  simp only at hl
  obtain ⟨ids, hi⟩ := nodes_path ok (L := r) (acc := acc ++ [id]) (fun x hx => h x (List.mem_cons_of_mem _ hx))
  exact ⟨ids, by rw [nodesA, hl]; exact hi⟩
end

section
variable [W : W32]
theorem att_step {a : Alg} {m : Nat} (h : AlgIn a m) (ok : AlgOk a) (hm : m ≤ 1000) {p : Pa} {c : Ca} (hc : cavB c = true) (hl : p.cavs.length < 8) {key : Tg} {M : List (List UInt8)} (hp : pathIn a.macs key M p.tag) :
  ∃ a' t, attS a p c = (a', ⟨p.epoch, p.serial, p.cavs ++ [c], t⟩, 0) ∧ AlgIn a' (m + 2) ∧ AlgOk a' ∧ a'.free = a.free ∧ (∀ e ∈ a.macs, e ∈ a'.macs) ∧ pathIn a'.macs key (M ++ [cavM c]) t ∧ nodeIn a'.macs p.tag (cavM c) t := by
 have hml := cavM_len c
 obtain ⟨k1, k2, _, _⟩ := nodeS_keeps h (by omega) p.tag (msg := cavM c) (by omega)
 obtain ⟨z1, z2⟩ := nodeS_mem h (by omega) p.tag (msg := cavM c) (by omega)
 exact ⟨_, _, attS_ok h (by omega) hc (by omega) (fun _ => by unfold thirdsS; omega), nodeS_in h _ _, ok.node h (by omega) p.tag (by omega), k2, z2, (hp.sub z2).snoc z1, z1⟩
end

section
variable [W : W32]
theorem Look_spec (a : Alg) (key : Tg) (msg : List UInt8) (hl : a.macs.length ≤ 1000000) (hm : ∀ e ∈ a.macs, e.msg.length ≤ 100000) (h0 : 0 < msg.length) (hmsg : msg.length ≤ 1000000) (g k : Nat) :
  ACall Tryz.prog 66 [algAV a, tagAV key, .slice none (msg.map byteAV)] k [(g, shaG)] (entAV (lookO a key msg)) [] := by
 have c1 := find_spec a.macs key msg hl hm hmsg
 obtain ⟨fr, sd, fs, L, B⟩ := a
 simp only at hl hm c1
 unfold lookO
 cases fr with
 | true =>
  simp only [if_true]
  cases he : entL key msg L with
  | none =>
   rw [fI_none L 0 he] at c1
   unfold entAV
   simp only [Option.getD_none, Option.isSome_none, algAV]
   clear hm he
   refine Bd Tryz.func66 Tryz.ntmps66 fun σ N hp hpn hk hkn hfree => ?_
   obtain ⟨hd, hdn⟩ := HD0 hp hpn; clear hp hpn
   have hcs := And.intro c1 True.intro
   clear c1
   exact W0
  | some t =>
   obtain ⟨i, hi, hfi, hti⟩ := fI_some L 0 he
   rw [hfi, Nat.zero_add] at c1
   obtain ⟨z, hz⟩ : ∃ z, L[i] = z := ⟨_, rfl⟩
   rw [hz] at hti
   obtain ⟨zk, zm, zt⟩ := z
   simp only at hti
   subst hti
   have hzd : macAV ⟨zk, zm, zt⟩ = .agg [tagAV zk, bAV zm, tagAV zt] := rfl
   have hi0 : ¬ (i : Int) < 0 := by omega
   unfold entAV
   simp only [Option.getD_some, Option.isSome_some, algAV]
   clear hm he hfi
   refine Bd Tryz.func66 Tryz.ntmps66 fun σ N hp hpn hk hkn hfree => ?_
   obtain ⟨hd, hdn⟩ := HD0 hp hpn; clear hp hpn
   have hcs := And.intro c1 True.intro
   clear c1
   exact W0
 | false =>
  simp only [Bool.false_eq_true, if_false]
  clear c1 hm
  by_cases h1 : 4096 < msg.length
  ·rw [if_pos h1]
   have h1i : (4096 : Int) < (msg.length : Int) := by omega
   unfold entAV
   simp only [Option.getD_none, Option.isSome_none, algAV]
   refine Bd Tryz.func66 Tryz.ntmps66 fun σ N hp hpn hk hkn hfree => ?_
   obtain ⟨hd, hdn⟩ := HD0 hp hpn; clear hp hpn
   exact W0
  ·rw [if_neg h1]
   have h1i : ¬ (4096 : Int) < (msg.length : Int) := by omega
   have c2 := hmacOf_spec key.1 msg (by rw [key.2]; decide) h0 (by omega) g
   generalize hmacT key.1 msg = t at *
   have hs1 := tagAV_sz key
   have hs2 := tagAV_cell key
   obtain ⟨K, hK⟩ := key
   have hkA : tagAV ⟨K, hK⟩ = .agg (K.map byteAV) := rfl
   simp only [hkA] at hs1 hs2 c2 ⊢
   clear hkA
   have hs3 : AV.celll (K.map byteAV) = true := celll_bytes K
   have htk : (K.map byteAV).take 32 = K.map byteAV := List.take_of_length_le (by rw [List.length_map]; omega)
   unfold entAV
   simp only [Option.getD_some, Option.isSome_some, algAV]
   refine Bd Tryz.func66 Tryz.ntmps66 fun σ N hp hpn hk hkn hfree => ?_
   obtain ⟨hd, hdn⟩ := HD0 hp hpn; clear hp hpn
   have hcs := And.intro c2 True.intro
   clear c2
   exact W0
end

section
variable [W : W32]
theorem walkA_acc (a : Alg) (acc' : List Tg) : ∀ (L : List (List UInt8)) (acc : List Tg) (k : Tg), walkA a (acc' ++ acc) k L = (walkA a acc k L).map (acc' ++ ·)
 | [], acc, k => rfl
 | m :: r, acc, k => by
  rw [walkA, walkA]
  cases lookO a k m with
  | none => rfl
  | some t => simp only; rw [List.append_assoc, walkA_acc a acc' r]
omit W in
def wkAV (R : Option (List Tg)) : AV := .tup [.slice none ((R.getD []).map tagAV), .lit (.bool R.isSome)]
theorem Tags1_spec (a : Alg) (m : Nat) (ha : AlgIn a m) (hm : m ≤ 900000) (key : Tg) (msg : List UInt8) (h0 : 0 < msg.length) (hmsg : msg.length ≤ 100000) (b g k : Nat) :
  ACall Tryz.prog 109 [tagAV key, .slice none (msg.map byteAV), .ptr b [] 0] k [(b, .box 38 (algAV a)), (g, shaG)] (entAV (lookO a key msg)) [] := by
 have c1 := Look_spec a key msg (by have := ha.ml; omega) ha.mm h0 (by omega) g
 generalize lookO a key msg = o at *
 unfold entAV at *
 generalize o.getD zeroTag = t at *
 generalize o.isSome = ok at *
 clear ha
 refine Bd Tryz.func109 Tryz.ntmps109 fun σ N hp hpn hk hkn hfree => ?_
 simp only [List.mem_cons, List.not_mem_nil, or_false, forall_eq_or_imp, forall_eq] at hp hpn; obtain ⟨hd1, hd2⟩ := hp; obtain ⟨hdn1, hdn2⟩ := hpn
 have hcs := And.intro c1 True.intro
 clear c1
 exact W0
set_option maxHeartbeats 2000000 in
theorem walk_spec (a : Alg) (m : Nat) (ha : AlgIn a m) (hm : m ≤ 900000) (key : Tg) (L : List (List UInt8)) (hL : L.length ≤ 100000) (hl : ∀ x ∈ L, 0 < x.length ∧ x.length ≤ 100000) (b g k : Nat) :
  ACall Tryz.prog 108 [tagAV key, .slice none (L.map bAV), .fn 109 [.ptr b [] 0]] k [(b, .box 38 (algAV a)), (g, shaG)] (wkAV (walkA a [key] key L)) [] := by
 obtain ⟨R, hR⟩ : ∃ R, walkA a [key] key L = R := ⟨_, rfl⟩
 rw [hR]
 unfold wkAV
 refine Bd Tryz.func108 Tryz.ntmps108 fun σ N hp hpn hk hkn hfree => ?_
 simp only [List.mem_cons, List.not_mem_nil, or_false, forall_eq_or_imp, forall_eq] at hp hpn; obtain ⟨hd1, hd2⟩ := hp; obtain ⟨hdn1, hdn2⟩ := hpn
 refine Wk ?_
 refine go_loopF mixed (by kernel_rfl) [6, 7, 8, 10, 11, 12, 17, 18, 19, 20, 21, 22, 23, 24, 25, 26, 27, 28, 29, 30, 31, 32, 33, 34, 35, 36, 37, 38, 39] [N+4] (fun m_ s_ σ_ n_ => ∃ (u : Nat) (t : Tg) (acc : List Tg), m_ = L.length - u ∧ s_ 17 = .lit (.int .i64 u) ∧ s_ 8 = .slice (some (N + 4)) (acc.map tagAV) ∧ σ_ (N+4) = .row 29 32 acc.length ∧ (u ≤ L.length) ∧ (acc.length = u + 1) ∧ ((acc.map tagAV)[u]? = some (tagAV t)) ∧ (walkA a acc t (L.drop u) = R)) ⟨_, 0, key, [key], rfl, WF, WF, WF, WC, WC, WC, WC⟩ ?_
 intro m_1 s_1 σ_1 n_1 hs_1 hf_1 hn_1 hI_1
 obtain ⟨u, t, acc, hm_1, h1_17, h1_8, e1_0, hu, hal, hat, hrun⟩ := hI_1
 have h1_2 := KS hs_1 2
 have h1_15 := KS hs_1 15
 have h1_16 := KS hs_1 16
 have k1_0 := KE hf_1 (b)
 have k1_1 := KE hf_1 (g)
 have hlow := KL (N := N) (σ := σ) hf_1
 clear hR
 by_cases hul : u = L.length
 ·subst hul
  rw [List.drop_length, walkA] at hrun
  subst hrun
  simp only [Option.getD_some, Option.isSome_some]
  clear hl ha hat
  exact WL
 ·have hu1 : u < L.length := by omega
  obtain ⟨z, hz⟩ : ∃ z, L[u] = z := ⟨_, rfl⟩
  have hzl := hl z (by rw [← hz]; exact List.getElem_mem _)
  have hzm : (L.map bAV)[u]? = some (.slice none (z.map byteAV)) := by rw [List.getElem?_map, List.getElem?_eq_getElem hu1, hz]; rfl
  rw [List.drop_eq_getElem_cons hu1, hz, walkA] at hrun
  have c1 := Tags1_spec a m ha hm t z hzl.1 hzl.2 b g
  have hb26 : (acc.length + 1) * 32 ≤ 140737488355328 := by omega
  clear hl ha
  unfold entAV at c1
  cases ho : lookO a t z with
  | none =>
   rw [ho] at hrun c1
   simp only at hrun
   subst hrun
   simp only [Option.getD_none, Option.isSome_none, List.map_nil] at c1 ⊢
   have hcs := And.intro c1 True.intro
   clear c1 ho
   exact WL
  | some t2 =>
   rw [ho] at hrun c1
   simp only at hrun
   simp only [Option.getD_some, Option.isSome_some] at c1
   have hcs := And.intro c1 True.intro
   have hal2 : (acc ++ [t2]).length = u + 1 + 1 := by rw [List.length_append, List.length_singleton, hal]
   have hat2 : ((acc ++ [t2]).map tagAV)[u + 1]? = some (tagAV t2) := by rw [List.getElem?_map, List.getElem?_append_right (by omega), hal]; simp
   clear c1 ho
   refine Wk ?_
   exact ⟨WS, WG, WN, _, (show L.length - (u + 1) < m_1 by omega), u + 1, t2, acc ++ [t2], rfl, WF, WF, WF, WC, WC, WC, WC⟩
end

section
variable [W : W32]
omit W in
theorem cavM_pos (c : Ca) : 0 < (cavM c).length := by simp [cavM]
omit W in
theorem any_take {l : List Ca} {u : Nat} (hu : u < l.length) (hb : cavB l[u] = false) : (l.any fun c => !cavB c) = true := by
 rw [List.any_eq_true]
 exact ⟨l[u], List.getElem_mem hu, by rw [hb]; rfl⟩
set_option maxHeartbeats 4000000 in
theorem cTags_spec (a : Alg) (m : Nat) (ha : AlgIn a m) (hm : m ≤ 900000) (num : Int) (key : Tg) (ser : Int) (l : List Ca) (hl : l.length ≤ 10000) (hpk : ∀ c ∈ l, PrOk c.first) (g h k : Nat) (_hgh : g ≠ h) :
  ACall Tryz.prog 40 [algAV a, .agg [.lit (.int .i64 num), tagAV key], .lit (.int .i64 ser), .slice none (l.map caAV)] k [(g, shaG), (h, bitsG)] (tsAV (tagsS a num key ser l)) [] := by
 unfold tagsS
 by_cases hr : num < 1 ∨ 1000 < num ∨ ser < 1 ∨ 1073741824 < ser
 ·rw [if_pos hr]
  unfold tsAV
  simp only [List.map_nil]
  have c1 := ranges_no num ser hr
  refine Bd Tryz.func40 Tryz.ntmps40 fun σ N hp hpn hk hkn hfree => ?_
  simp only [List.mem_cons, List.not_mem_nil, or_false, forall_eq_or_imp, forall_eq] at hp hpn; obtain ⟨hd1, hd2⟩ := hp; obtain ⟨hdn1, hdn2⟩ := hpn
  have hcs := And.intro c1 True.intro
  clear c1 ha hpk
  exact WL
 ·rw [if_neg hr]
  have c1 := ranges_ok num ser (by omega) (by omega) (by omega) (by omega)
  obtain ⟨n, rfl⟩ := Int.eq_ofNat_of_zero_le (show 0 ≤ ser by omega)
  have c2 := mint_spec n (by omega)
  have hM : msgsL (n : Int) l = mintM n :: l.map cavM := by unfold msgsL; rw [Int.toNat_natCast]
  rw [hM]
  have hml := mintM_len n (by omega)
  have hM0 : 0 < (mintM n).length := by simp [mintM]
  have hmm : ∀ x ∈ mintM n :: l.map cavM, 0 < x.length ∧ x.length ≤ 100000 := fun x hx => by
   rcases List.mem_cons.1 hx with rfl | hx
   ·exact ⟨hM0, by omega⟩
   ·obtain ⟨c, _, rfl⟩ := List.mem_map.1 hx
    exact ⟨cavM_pos c, by have := cavM_len c; omega⟩
  have c3 := fun b => walk_spec a m ha hm key (mintM n :: l.map cavM) (by simp; omega) hmm b g
  have hw := walkA_acc a [key] (mintM n :: l.map cavM) [] key
  rw [List.append_nil] at hw
  rw [hw] at c3
  obtain ⟨R, hR⟩ : ∃ R, walkA a [] key (mintM n :: l.map cavM) = R := ⟨_, rfl⟩
  rw [hR] at c3 ⊢
  clear hw hR hmm hM hml hM0 ha hr
  generalize mintM n = M0 at *
  obtain ⟨v, hv⟩ : ∃ v, (if (l.any fun c => !cavB c) = true then ([], 5) else orTag R) = v := ⟨_, rfl⟩
  rw [hv]
  have hb24 : (l.length + 1) * 24 ≤ 140737488355328 := by omega
  refine Bd Tryz.func40 Tryz.ntmps40 fun σ N hp hpn hk hkn hfree => ?_
  simp only [List.mem_cons, List.not_mem_nil, or_false, forall_eq_or_imp, forall_eq] at hp hpn; obtain ⟨hd1, hd2⟩ := hp; obtain ⟨hdn1, hdn2⟩ := hpn
  have hcs := And.intro c1 (And.intro c2 True.intro)
  clear c1 c2
  refine Wk ?_
  clear hcs
  refine go_loopF mixed (by kernel_rfl) [8, 9, 10, 12, 13, 14, 27, 28, 29, 30, 31, 32, 33, 34, 35, 36, 37, 38, 39, 40, 41, 42, 43, 44] [N+11] (fun m_ s_ σ_ n_ => ∃ (u : Nat) (acc : List (List UInt8)), m_ = l.length - u ∧ s_ 27 = .lit (.int .i64 u) ∧ s_ 10 = .slice (some (N + 11)) (acc.map bAV) ∧ σ_ (N+11) = .row 26 1 acc.length ∧ (u ≤ l.length) ∧ (acc.length = u + 1) ∧ (M0 :: (l.take u).map cavM = acc) ∧ (∀ c ∈ l.take u, cavB c = true)) ⟨_, 0, [M0], rfl, WF, WF, WF, WC, WC, WC, WC⟩ ?_
  intro m_1 s_1 σ_1 n_1 hs_1 hf_1 hn_1 hI_1
  obtain ⟨u, acc, hm_1, h1_27, h1_10, e1_0, hu, hal, hacc, hok⟩ := hI_1
  have h1_4 := KS hs_1 4
  have h1_5 := KS hs_1 5
  have h1_25 := KS hs_1 25
  have h1_26 := KS hs_1 26
  have k1_0 := KE hf_1 (N)
  have k1_1 := KE hf_1 (N + 1)
  have k1_2 := KE hf_1 (g)
  have k1_3 := KE hf_1 (h)
  have hlow := KL (N := N) (σ := σ) hf_1
  by_cases hul : u = l.length
  ·subst hul
   rw [List.take_length] at hacc hok
   subst hacc
   have hany : (l.any fun c => !cavB c) = false := by
    rw [List.any_eq_false]
    intro c hc
    rw [hok c hc]; simp
   rw [hany, if_neg (by simp)] at hv
   subst hv
   clear hok hany hpk hal
   cases R with
   | none =>
    unfold wkAV at c3
    unfold tsAV orTag
    simp only [Option.map_none, Option.getD_none, Option.isSome_none, List.map_nil] at c3 ⊢
    have hcs := And.intro (c3 N) True.intro
    clear c3
    exact WL
   | some ts =>
    unfold wkAV at c3
    unfold tsAV orTag
    simp only [Option.map_some, Option.getD_some, Option.isSome_some, List.cons_append, List.nil_append, List.map_cons] at c3 ⊢
    have hcs := And.intro (c3 N) True.intro
    clear c3
    exact WL
  ·have hu1 : u < l.length := by omega
   obtain ⟨z, hz⟩ : ∃ z, l[u] = z := ⟨_, rfl⟩
   have hzp := hpk z (by rw [← hz]; exact List.getElem_mem _)
   have hzm : (l.map caAV)[u]? = some (caAV z) := by rw [List.getElem?_map, List.getElem?_eq_getElem hu1, hz]; rfl
   have c1 := cEnc_spec z hzp h
   unfold encAV at c1
   cases hzb : cavB z with
   | false =>
    have he : encS z = ([], 5) := by unfold encS; rw [hzb]; rfl
    rw [he] at c1
    simp only [List.map_nil] at c1
    rw [any_take hu1 (by rw [hz]; exact hzb), if_pos rfl] at hv
    subst hv
    unfold tsAV
    simp only [List.map_nil]
    have e5 : ((5 : Nat) : Int) = 5 := rfl
    simp only [e5] at c1 ⊢
    have hcs := And.intro c1 True.intro
    clear c1 c3 hpk hok
    exact WL
   | true =>
    have he : (encS z).2 = 0 := by unfold encS; rw [hzb]; rfl
    have hMz : [99, 97, 118, 101, 97, 116] ++ (encS z).1 = cavM z := rfl
    have hMl := cavM_len z
    have c2 := Message_spec [99, 97, 118, 101, 97, 116] (encS z).1 (by decide) (by unfold cavM at hMl; rw [List.length_append] at hMl; omega)
    rw [hMz] at c2
    have hacc2 : M0 :: (l.take (u + 1)).map cavM = acc ++ [cavM z] := by
     rw [List.take_add_one, List.getElem?_eq_getElem hu1, hz, List.map_append, ← hacc]; rfl
    have hok2 : ∀ c ∈ l.take (u + 1), cavB c = true := fun c hc => by
     rw [List.take_add_one, List.getElem?_eq_getElem hu1, hz] at hc
     rcases List.mem_append.1 hc with hc | hc
     ·exact hok c hc
     ·have hc : c = z := by simpa using hc
      rw [hc]; exact hzb
    rw [he] at c1
    generalize (encS z).1 = B at *
    generalize cavM z = Mz at *
    have e0 : ((0 : Nat) : Int) = 0 := rfl
    simp only [e0] at c1
    have hal2 : (acc ++ [Mz]).length = u + 1 + 1 := by rw [List.length_append, List.length_singleton, hal]
    have hb26 : (acc.length + 1) * 24 ≤ 140737488355328 := by omega
    have hcs := And.intro c1 (And.intro c2 True.intro)
    clear c1 c2 c3 hpk hok hacc hMz he hMl hzp
    refine Wk ?_
    exact ⟨WS, WG, WN, _, (show l.length - (u + 1) < m_1 by omega), u + 1, acc ++ [Mz], rfl, WF, WF, WF, WC, WC, WC, WC⟩
set_option maxHeartbeats 2000000 in
theorem cNodes_spec (a : Alg) (m : Nat) (ha : AlgIn a m) (hm : m ≤ 900000) (l : List Tg) (hl : l.length ≤ 10000) (g k : Nat) :
  ACall Tryz.prog 43 [algAV a, .slice none (l.map tagAV)] k [(g, shaG)] (tsAV (nodesS a l)) [] := by
 unfold nodesS
 obtain ⟨R, hR⟩ : ∃ R, nodesA a [] l = R := ⟨_, rfl⟩
 rw [hR]
 have hcl := fun t => Look_spec a t nodeB (by have := ha.ml; omega) ha.mm (by decide) (by decide) g
 clear ha
 have h110 : byteAV 110 = .lit (.int .u8 110) := rfl
 have h111 : byteAV 111 = .lit (.int .u8 111) := rfl
 have h100 : byteAV 100 = .lit (.int .u8 100) := rfl
 have h101 : byteAV 101 = .lit (.int .u8 101) := rfl
 have hnB : nodeB.map byteAV = [.lit (.int .u8 110), .lit (.int .u8 111), .lit (.int .u8 100), .lit (.int .u8 101)] := rfl
 simp only [hnB] at hcl
 clear h110 h111 h100 h101 hnB
 refine Bd Tryz.func43 Tryz.ntmps43 fun σ N hp hpn hk hkn hfree => ?_
 obtain ⟨hd, hdn⟩ := HD0 hp hpn; clear hp hpn
 refine Wk ?_
 refine ALoop.nilrow 6 29 32 (by simp (disch := omega) [go_sem, *, -List.reduceReplicate]) ?_
 refine go_loopB (N + 1) mixed (by kernel_rfl) [4, 5, 6, 8, 9, 10, 13, 14, 15, 16, 17, 18, 19, 20, 21, 22, 23, 24, 25, 26, 27, 28, 29, 30, 31] [] (fun m_ s_ σ_ n_ => ∃ (u : Nat) (q : Nat) (acc : List Tg), m_ = l.length - u ∧ s_ 13 = .lit (.int .i64 u) ∧ s_ 6 = .slice (some q) (acc.map tagAV) ∧ σ_ (q) = .row 29 32 acc.length ∧ (u ≤ l.length) ∧ (N + 1 ≤ q) ∧ (q < n_) ∧ (acc.length = u) ∧ (nodesA a acc (l.drop u) = R)) ⟨_, 0, _, [], rfl, WF, WF, WF, WC, WC, WC, WC, WC⟩ ?_
 intro m_3 s_3 σ_3 n_3 hs_3 hf_3 hn_3 hI_3
 obtain ⟨u, q, acc, hm_3, h3_13, h3_6, e3_0, hu, hq, hqn, hal, hrun⟩ := hI_3
 have h3_2 := KS hs_3 2
 have h3_11 := KS hs_3 11
 have h3_12 := KS hs_3 12
 have k3_0 := KE hf_3 (N)
 have k3_1 := KE hf_3 (g)
 have hlow := KL (N := N) (σ := σ) hf_3
 clear hR
 by_cases hul : u = l.length
 ·rw [hul, List.drop_length, nodesA] at hrun
  subst hul hrun
  unfold tsAV orTag
  simp only
  clear hcl
  exact WL
 ·have hu1 : u < l.length := by omega
  obtain ⟨z, hz⟩ : ∃ z, l[u] = z := ⟨_, rfl⟩
  have hzm : (l.map tagAV)[u]? = some (tagAV z) := by rw [List.getElem?_map, List.getElem?_eq_getElem hu1, hz]; rfl
  rw [List.drop_eq_getElem_cons hu1, hz, nodesA] at hrun
  have c1 := hcl z
  clear hcl
  unfold entAV at c1
  have hb26 : (acc.length + 1) * 32 ≤ 140737488355328 := by omega
  have M : Mut (n_3 + 5 + 2) := ⟨⟩
  cases ho : lookO a z nodeB with
  | none =>
   rw [ho] at hrun c1
   simp only at hrun
   subst hrun
   unfold tsAV orTag
   simp only [Option.getD_none, Option.isSome_none, List.map_nil] at c1 ⊢
   have hcs := And.intro c1 True.intro
   clear c1 ho
   exact WL
  | some t2 =>
   rw [ho] at hrun c1
   simp only at hrun
   simp only [Option.getD_some, Option.isSome_some] at c1
   have hcs := And.intro c1 True.intro
   clear c1 ho
   refine Wk ?_
   exact ⟨WS, WG, WN, _, (show l.length - (u + 1) < m_3 by omega), u + 1, q, acc ++ [t2], rfl, WF, WF, WF, WC, WC, WC, WC, WC⟩
end

section
variable [W : W32]
theorem found_ok {s : Sc} (hs : ScV s) {c : Ca} (hc : cavB c = true) {root : Tg} (hp : pathIn s.alg.macs root (mintM s.pass.serial.toNat :: s.pass.cavs.map cavM) s.pass.tag) :
  ∃ a' t ts ids, attS s.alg s.pass c = (a', ⟨s.pass.epoch, s.pass.serial, s.pass.cavs ++ [c], t⟩, 0) ∧ AlgIn a' 1002 ∧ tagsS a' 2 root s.pass.serial (s.pass.cavs ++ [c]) = (ts, 0) ∧ nodesS a' ts = (ids, 0) ∧
   ts.length = s.pass.cavs.length + 2 ∧ ids.length = ts.length ∧ ts[s.pass.cavs.length + 1]? = some t ∧ ts[s.pass.cavs.length]? = some s.pass.tag := by
 obtain ⟨se, hG, h1, h2⟩ := hs.good
 obtain ⟨a', t, k1, k2, k3, _, k5, k6, k7⟩ := att_step hG.ain hG.ok (by omega) hc (by have := hG.cl; simp only at this ⊢; omega) hp
 simp only at k1
 have hps : s.pass.serial = se := hG.es
 obtain ⟨ts, w1, w2, w3, w4, w5⟩ := walk_path k3 (acc := []) (hp.sub k5)
 have hl := look_in k3 k7.1
 simp only at hl
 have w6 := w5 _ _ hl
 rw [List.nil_append] at w6
 obtain ⟨ids, hi⟩ := nodes_path k3 (L := ts ++ [t]) (acc := []) (fun x hx => by
  rcases List.mem_append.1 hx with hx | hx
  ·exact w3 x hx
  ·rw [List.mem_singleton.1 hx]; exact k7.2)
 have hil := nodesA_len _ _ _ _ hi
 rw [List.length_cons, List.length_map] at w2
 rw [List.length_cons, List.length_map, List.getElem?_cons_succ] at w4
 refine ⟨a', t, ts ++ [t], ids, k1, k2, ?_, ?_, ?_, ?_, ?_, ?_⟩
 ·unfold tagsS
  have hany : ((s.pass.cavs ++ [c]).any fun c => !cavB c) = false := by
   rw [List.any_eq_false]
   intro x hx
   rcases List.mem_append.1 hx with hx | hx
   ·rw [(hG.cv x hx).1]; simp
   ·rw [List.mem_singleton.1 hx, hc]; simp
  rw [if_neg (by omega), hany, if_neg (by simp)]
  unfold msgsL
  rw [List.map_append, List.map_cons, List.map_nil, ← List.cons_append, w6]
  rfl
 ·unfold nodesS; rw [hi]; rfl
 ·rw [List.length_append, w2]; rfl
 ·simpa using hil
 ·rw [List.getElem?_append_right (by omega), w2]; simp
 ·rw [List.getElem?_append_left (by omega)]; exact w4
set_option maxHeartbeats 4000000 in
theorem ChainFound_core (xs : List Int) (hx : xs.length ≤ 9223372036854775807) (g h : Nat) (hgh : g ≠ h) (k : Nat) :
  ACall Tryz.prog 7 [.slice none (xs.map intAV)] k [(g, shaG), (h, bitsG)] (.lit (.bool true)) [] := by
 have c1 := New_spec xs
 obtain ⟨s, j, hs, hj, c2⟩ := Scene_ex xs 0 ⟨hx, Nat.zero_le _⟩
 obtain ⟨c, j2, hc, hco, hcm, hj2, c3⟩ := Caveat_ex xs j hj
 obtain ⟨root, hri, hp⟩ := hs.ri
 obtain ⟨a', t, ts, ids, f1, f2, f3, f4, f5, f6, f7, f8⟩ := found_ok hs hc hp
 obtain ⟨se, hG, s1, s2⟩ := hs.good
 have hcl := hG.cl
 simp only at hcl
 have hcv : ∀ x ∈ s.pass.cavs ++ [c], CaSm x ∧ PrOk x.first := fun x hx => by
  rcases List.mem_append.1 hx with hx | hx
  ·have := hG.cv x hx
   exact ⟨⟨by omega, by omega⟩, this.2.1⟩
  ·rw [List.mem_singleton.1 hx]; exact ⟨hcm, hco⟩
 have c4 := Att_spec s.alg 1000 hG.ain (by decide) s.pass (by omega) (fun x hx => (hcv x (List.mem_append_left _ hx)).1) c hcm hco g h hgh
 rw [f1] at c4
 have c5 := fun k => cTags_spec a' 1002 f2 (by decide) 2 root s.pass.serial (s.pass.cavs ++ [c]) (by rw [List.length_append, List.length_singleton]; omega) (fun x hx => (hcv x hx).2) g h k hgh
 rw [f3] at c5
 have c6 := cNodes_spec a' 1002 f2 (by decide) ts (by omega) g
 rw [f4] at c6
 have c9 := awake13_spec g h hgh
 obtain ⟨sa, sr, sc, ⟨pe, ps, pc, pt⟩, sg, sq, sh, sm⟩ := s
 simp only at *
 subst hri
 have hsA : scAV ⟨sa, ⟨[⟨2, root⟩], 3⟩, sc, ⟨pe, ps, pc, pt⟩, sg, sq, sh, sm⟩ = .agg [algAV sa, .agg [.slice none [.agg [.lit (.int .i64 2), tagAV root]], .lit (.int .i64 3)], concAV sc, .agg [.lit (.int .i64 pe), .lit (.int .i64 ps), .slice none (pc.map caAV), tagAV pt], .slice none (sg.map diAV), rqAV sq, .lit (.string ⟨sh.toArray⟩), .lit (.int .i64 sm)] := rfl
 have hpA : paAV ⟨pe, ps, pc, pt⟩ = .agg [.lit (.int .i64 pe), .lit (.int .i64 ps), .slice none (pc.map caAV), tagAV pt] := rfl
 have hpB : paAV ⟨pe, ps, pc ++ [c], t⟩ = .agg [.lit (.int .i64 pe), .lit (.int .i64 ps), .slice none ((pc ++ [c]).map caAV), tagAV t] := rfl
 unfold mpAV at c4
 unfold tsAV at c5 c6
 simp only at c4 c5 c6
 rw [hsA] at c2
 rw [hpA, hpB] at c4
 have e0 : ((0 : Nat) : Int) = 0 := rfl
 simp only [e0] at c4 c5 c6
 have hCl : (pc ++ [c]).length = pc.length + 1 := by simp
 have g1 : (ts.length : Int) - 1 = ((pc.length + 1 : Nat) : Int) := by omega
 have g2 : (ts.length : Int) - 2 = ((pc.length : Nat) : Int) := by omega
 have g3 : (((ts.length : Nat) : Int) != (((pc ++ [c]).length : Nat) : Int) + 1) = false := by rw [bne_eq_false_iff_eq]; omega
 have g4 : (((ids.length : Nat) : Int) != ((ts.length : Nat) : Int)) = false := by rw [bne_eq_false_iff_eq]; omega
 have g5 : (ts.map tagAV)[pc.length + 1]? = some (tagAV t) := by rw [List.getElem?_map, f7]; rfl
 have g6 : (ts.map tagAV)[pc.length]? = some (tagAV pt) := by rw [List.getElem?_map, f8]; rfl
 have b1 : (pc ++ [c]).length ≤ 100 := by omega
 have b2 : ts.length ≤ 100 := by omega
 have b3 : pc.length + 1 ≤ 100 := by omega
 have b4 : pc.length ≤ 100 := by omega
 clear f1 f2 f3 f4 f5 f6 f7 f8 hs hp hG hcv hco hcm hc hj hj2 hsA hpA hpB hCl hcl s1 s2 e0
 generalize pc ++ [c] = C at *
 generalize pc.length + 1 = n1 at *
 generalize pc.length = n0 at *
 refine Bd Tryz.func7 Tryz.ntmps7 fun σ N hp hpn hk hkn hfree => ?_
 simp only [List.mem_cons, List.not_mem_nil, or_false, forall_eq_or_imp, forall_eq] at hp hpn; obtain ⟨hd1, hd2⟩ := hp; obtain ⟨hdn1, hdn2⟩ := hpn
 have hcs := And.intro c1 (And.intro (c2 (N + 1 + 1)) (And.intro (c3 (N + 1 + 1)) (And.intro c4 (And.intro c5 (And.intro c6 (And.intro c9 True.intro))))))
 clear c1 c2 c3 c4 c5 c6 c9
 exact W0
end
theorem ChainFound_spec (xs : List Int) (_ : ∀ n ∈ xs, (Lit.int .i64 n).wf = true) (hx : xs.length ≤ 9223372036854775807) (g h : Nat) (hgh : g ≠ h) (k : Nat) :
  ACall Tryz.prog 7 [.slice none (xs.map intAV)] k [(g, shaG), (h, bitsG)] (.lit (.bool true)) [] :=
 @ChainFound_core w32 xs hx g h hgh k
end Go.Proofs.YtdmjpolnbmoehaaGreatDoor
