/- Texts W1, R3, R4, U10, M10, K12, K13, K14, K15, K16, K17, R6, joined. -/
import Derived.Test.YtdmjpolnbmoehaaDoorM7

namespace Go.Proofs.YtdmjpolnbmoehaaDoor
open Go.Ab
attribute [local irreducible] Go.Ab.tyAV Go.Ab.aw Go.Ab.aops Go.Ab.kReg Go.Ab.aThen Go.Ab.aBlk Go.Ab.acond Go.Ab.aguard Go.Ab.astep Go.Ab.AStepX Go.Ab.aRet
attribute [local irreducible] shaG
theorem pThirds_spec (l : List Ca) (hl : l.length ≤ 10000) (k : Nat) :
  ACall Tryd.prog 86 [.slice none (l.map caAV)] k [] (.lit (.int .i64 (thirdsS l : Nat))) [] := by
 have c1 := firsts_gen l _ rfl hl
 have h1 := firsts_len l
 have h2 : ((thirdsS l : Nat) : Int) = (l.length : Int) - ((firstsS l).length : Int) := by unfold thirdsS; omega
 rw [h2]
 generalize firstsS l = R at *
 clear h2
 refine Bd Tryd.func86 Tryd.ntmps86 fun σ N hp hpn hk hkn hfree => ?_
 have hcs := And.intro c1 True.intro
 clear c1
 exact W0
theorem ClipC_spec (l : List Ca) (_hl : l.length ≤ 1000000) (k : Nat) :
  ACall Tryd.prog 88 [.slice none (l.map caAV)] k [] (.clip (l.map caAV)) [] := by
 refine Bd Tryd.func88 Tryd.ntmps88 fun σ N hp hpn hk hkn hfree => ?_
 exact W0
theorem bitsG_nbx {t : TypeId} {x : AV} (h : bitsG = .box t x) : False := by unfold bitsG at h; cases h
theorem bitsG_nrw {t : TypeId} {n m : Nat} (h : bitsG = .row t n m) : False := by unfold bitsG at h; cases h
section
variable [W : W32]
def limB (p : Pa) (c : Ca) : Bool := decide (64 ≤ p.cavs.length) || (c.third && decide (8 ≤ thirdsS p.cavs))
def inE (e : Nat) (p : Pa) (c : Ca) : Nat :=
 if (if e = 0 then (encS c).2 else e) = 0 then (if limB p c = true then 2 else 0) else (if e = 0 then (encS c).2 else e)
def intoP (a : Alg) (e : Nat) (p : Pa) (c : Ca) : Alg × Nat × Pa :=
 ((mNode a (inE e p c) p.tag (cavM c)).1, (mNode a (inE e p c) p.tag (cavM c)).2.1, ⟨p.epoch, p.serial, p.cavs ++ [c], (mNode a (inE e p c) p.tag (cavM c)).2.2⟩)
set_option maxHeartbeats 8000000 in
theorem cInto_spec (a : Alg) (m : Nat) (ha : AlgIn a m) (hm : m ≤ 900000) (e : Nat) (p : Pa) (hpl : p.cavs.length ≤ 10000) (hpc : ∀ x ∈ p.cavs, CaSm x) (c : Ca) (hc : CaSm c) (hp0 : PrOk c.first) (q r1 r2 g h k : Nat) :
  ACall Tryd.prog 54 [.ptr q [] 0, paAV p, caAV c] k (makE a e q r1 r2 ++ [(g, shaG), (h, bitsG)]) (paAV (intoP a e p c).2.2) [(q, makB (intoP a e p c).1 (intoP a e p c).2.1 r1 r2), (r1, rowM (intoP a e p c).1.macs.length)] := by
 have c1 := cEnc_spec c hp0 h
 have hM : [99, 97, 118, 101, 97, 116] ++ (encS c).1 = cavM c := rfl
 have hMl := cavM_len c
 have c2 := Message_spec [99, 97, 118, 101, 97, 116] (encS c).1 (by decide) (by unfold cavM at hMl; rw [List.length_append] at hMl; omega)
 rw [hM] at c2
 have hM0 : 0 < (cavM c).length := by simp [cavM]
 have f1 := Fail_spec a e (encS c).2 q r1 r2
 have f2 := Fail_spec a (if e = 0 then (encS c).2 else e) 2 q r1 r2
 have c3 := mNode_spec a m ha hm (inE e p c) p.tag (cavM c) (fun _ => hM0) (by omega) q r1 r2 g
 have hbx := mNode_boxes a (inE e p c) p.tag (cavM c)
 have c4 := pThirds_spec p.cavs hpl
 have c5 := ClipC_spec p.cavs (by omega)
 have c6 := CopiedC_spec (p.cavs ++ [c]) (by rw [List.length_append, List.length_singleton]; omega) (fun x hx => by
  rcases List.mem_append.1 hx with hx | hx
  ·exact hpc x hx
  ·rw [List.mem_singleton.1 hx]; exact hc)
 have hT2 : thirdsS p.cavs ≤ 10000 := by unfold thirdsS; omega
 unfold intoP
 unfold limB at *
 unfold inE limB at *
 generalize (encS c) = X at *
 obtain ⟨B, E⟩ := X
 simp only at *
 generalize cavM c = M at *
 generalize thirdsS p.cavs = T at *
 obtain ⟨ep, se, L, tg⟩ := p
 simp only at *
 have hcc : caAV c = .agg [.lit (.bool c.third), prAV c.first, .lit (.int .i64 c.party), .slice none (c.ticket.map byteAV), .slice none (c.box.map byteAV)] := rfl
 have hpA : paAV ⟨ep, se, L, tg⟩ = .agg [.lit (.int .i64 ep), .lit (.int .i64 se), .slice none (L.map caAV), tagAV tg] := rfl
 rw [hpA]
 unfold encAV at c1
 simp only at c1
 generalize (if e = 0 then E else e) = e1 at *
 have hb : (L.length + 1) * 120 ≤ 140737488355328 := by omega
 have hb0 : L.length * 120 ≤ 140737488355328 := by omega
 have hb1 : L.length ≤ 140737488355327 := by omega
 have e02 : ((2 : Nat) : Int) = 2 := rfl
 clear ha hc hp0 hpc hM hMl hM0 hpA
 by_cases h64 : 64 ≤ L.length
 ·have h64i : (64 : Int) ≤ (L.length : Int) := by omega
  have hlim : (decide (64 ≤ L.length) || (c.third && decide (8 ≤ T))) = true := by rw [decide_eq_true h64]; rfl
  rw [hlim, if_pos rfl] at c3 hbx ⊢
  clear hlim
  generalize (if e1 = 0 then 2 else e1) = e2 at *
  generalize mNode a e2 tg M = Y at *
  obtain ⟨a2, e3, t2⟩ := Y
  simp only at c3 hbx ⊢
  have hpB : paAV ⟨ep, se, L ++ [c], t2⟩ = .agg [.lit (.int .i64 ep), .lit (.int .i64 se), .slice none (L.map caAV ++ [caAV c]), tagAV t2] := by simp [paAV]
  rw [hpB]
  rw [List.map_append, List.map_cons, List.map_nil] at c6
  unfold makE at *
  simp only [List.cons_append, List.nil_append] at *
  simp only [makB_def, rowM_eq, rowB_eq, hbx, e02] at *
  clear hpB hbx hT2
  refine Bd Tryd.func54 Tryd.ntmps54 fun σ N hp hpn hk hkn hfree => ?_
  simp only [List.mem_cons, List.not_mem_nil, or_false, forall_eq_or_imp, forall_eq] at hp hpn
  obtain ⟨hd1, hd2, hd3, hd4, hd5⟩ := hp
  obtain ⟨hdn1, hdn2, hdn3, hdn4, hdn5⟩ := hpn
  have hne : q ≠ r1 := by rintro rfl; rw [hd1] at hd2; cases hd2
  have hne3 : q ≠ r2 := by rintro rfl; rw [hd1] at hd3; cases hd3
  have hneg : g ≠ q := by rintro rfl; rw [hd4] at hd1; exact shaG_nbox hd1
  have hneg1 : g ≠ r1 := by rintro rfl; rw [hd4] at hd2; exact shaG_nrow hd2
  have hneh : h ≠ q := by rintro rfl; rw [hd5] at hd1; exact bitsG_nbx hd1
  have hneh1 : h ≠ r1 := by rintro rfl; rw [hd5] at hd2; exact bitsG_nrw hd2
  have hne23 : r1 ≠ r2 := by rintro rfl; rw [hd2] at hd3; simp at hd3
  have hcs := And.intro c1 (And.intro f1 (And.intro f2 (And.intro c5 (And.intro c6 (And.intro c2 (And.intro c3 (True.intro)))))))
  clear c1 f1 f2 c2 c3 c4 c5 c6
  refine Wk ?_
  refine go_resultW [(q, (.box 140 (.agg [.agg [.lit (.bool a2.free), tagAV a2.seed, .lit (.int .i64 a2.fresh), .slice (some r1) (a2.macs.map macAV), .slice (some r2) (a.boxes.map sealAV)], .lit (.int .i64 (e3 : Int))]))), (r1, (.row 102 65 a2.macs.length))] (by simp (disch := omega) [go_sem, *, -List.reduceReplicate]; rfl) (by first | rfl | (simp (disch := omega) [go_sem]; done) | (simp (disch := omega) [go_sem, *]; done) | simp (disch := omega) [go_sem]) (fun id hid => by simp only [wr_cons, wr_nil]; (by_cases hdd : id = q; (· (subst hdd; simp (disch := omega) [go_sem, *])); (· (by_cases hdd2 : id = r1; (· (subst hdd2; simp (disch := omega) [go_sem, *])); (· (simp (disch := omega) only [upd_ne]; try (first | exact hlow id hid hdd hdd2 | exact hlow id hid))))))) (by simp) (by simp (disch := omega) [go_sem, *])
 ·have h64i : ¬ (64 : Int) ≤ (L.length : Int) := by omega
  by_cases hth : c.third = true
  ·rw [hth] at hcc
   by_cases h8 : 8 ≤ T
   ·have h8i : (8 : Int) ≤ (T : Int) := by omega
    have hlim : (decide (64 ≤ L.length) || (c.third && decide (8 ≤ T))) = true := by rw [hth, decide_eq_true h8]; simp
    rw [hlim, if_pos rfl] at c3 hbx ⊢
    clear hlim hth
    generalize (if e1 = 0 then 2 else e1) = e2 at *
    generalize mNode a e2 tg M = Y at *
    obtain ⟨a2, e3, t2⟩ := Y
    simp only at c3 hbx ⊢
    have hpB : paAV ⟨ep, se, L ++ [c], t2⟩ = .agg [.lit (.int .i64 ep), .lit (.int .i64 se), .slice none (L.map caAV ++ [caAV c]), tagAV t2] := by simp [paAV]
    rw [hpB]
    rw [List.map_append, List.map_cons, List.map_nil] at c6
    unfold makE at *
    simp only [List.cons_append, List.nil_append] at *
    simp only [makB_def, rowM_eq, rowB_eq, hbx, e02] at *
    clear hpB hbx hT2
    refine Bd Tryd.func54 Tryd.ntmps54 fun σ N hp hpn hk hkn hfree => ?_
    simp only [List.mem_cons, List.not_mem_nil, or_false, forall_eq_or_imp, forall_eq] at hp hpn
    obtain ⟨hd1, hd2, hd3, hd4, hd5⟩ := hp
    obtain ⟨hdn1, hdn2, hdn3, hdn4, hdn5⟩ := hpn
    have hne : q ≠ r1 := by rintro rfl; rw [hd1] at hd2; cases hd2
    have hne3 : q ≠ r2 := by rintro rfl; rw [hd1] at hd3; cases hd3
    have hneg : g ≠ q := by rintro rfl; rw [hd4] at hd1; exact shaG_nbox hd1
    have hneg1 : g ≠ r1 := by rintro rfl; rw [hd4] at hd2; exact shaG_nrow hd2
    have hneh : h ≠ q := by rintro rfl; rw [hd5] at hd1; exact bitsG_nbx hd1
    have hneh1 : h ≠ r1 := by rintro rfl; rw [hd5] at hd2; exact bitsG_nrw hd2
    have hne23 : r1 ≠ r2 := by rintro rfl; rw [hd2] at hd3; simp at hd3
    have hcs := And.intro c1 (And.intro f1 (And.intro c4 (And.intro f2 (And.intro c5 (And.intro c6 (And.intro c2 (And.intro c3 (True.intro))))))))
    clear c1 f1 f2 c2 c3 c4 c5 c6
    refine Wk ?_
    refine go_resultW [(q, (.box 140 (.agg [.agg [.lit (.bool a2.free), tagAV a2.seed, .lit (.int .i64 a2.fresh), .slice (some r1) (a2.macs.map macAV), .slice (some r2) (a.boxes.map sealAV)], .lit (.int .i64 (e3 : Int))]))), (r1, (.row 102 65 a2.macs.length))] (by simp (disch := omega) [go_sem, *, -List.reduceReplicate]; rfl) (by first | rfl | (simp (disch := omega) [go_sem]; done) | (simp (disch := omega) [go_sem, *]; done) | simp (disch := omega) [go_sem]) (fun id hid => by simp only [wr_cons, wr_nil]; (by_cases hdd : id = q; (· (subst hdd; simp (disch := omega) [go_sem, *])); (· (by_cases hdd2 : id = r1; (· (subst hdd2; simp (disch := omega) [go_sem, *])); (· (simp (disch := omega) only [upd_ne]; try (first | exact hlow id hid hdd hdd2 | exact hlow id hid))))))) (by simp) (by simp (disch := omega) [go_sem, *])
   ·have h8i : ¬ (8 : Int) ≤ (T : Int) := by omega
    have hlim : (decide (64 ≤ L.length) || (c.third && decide (8 ≤ T))) = false := by rw [decide_eq_false h64, decide_eq_false h8]; simp
    rw [hlim, if_neg (show ¬ (false = true) by simp)] at c3 hbx ⊢
    clear hlim hth
    rw [show (if e1 = 0 then 0 else e1) = e1 by split <;> omega] at c3 hbx ⊢
    generalize mNode a e1 tg M = Y at *
    obtain ⟨a2, e3, t2⟩ := Y
    simp only at c3 hbx ⊢
    have hpB : paAV ⟨ep, se, L ++ [c], t2⟩ = .agg [.lit (.int .i64 ep), .lit (.int .i64 se), .slice none (L.map caAV ++ [caAV c]), tagAV t2] := by simp [paAV]
    rw [hpB]
    rw [List.map_append, List.map_cons, List.map_nil] at c6
    unfold makE at *
    simp only [List.cons_append, List.nil_append] at *
    simp only [makB_def, rowM_eq, rowB_eq, hbx, e02] at *
    clear hpB hbx hT2
    refine Bd Tryd.func54 Tryd.ntmps54 fun σ N hp hpn hk hkn hfree => ?_
    simp only [List.mem_cons, List.not_mem_nil, or_false, forall_eq_or_imp, forall_eq] at hp hpn
    obtain ⟨hd1, hd2, hd3, hd4, hd5⟩ := hp
    obtain ⟨hdn1, hdn2, hdn3, hdn4, hdn5⟩ := hpn
    have hne : q ≠ r1 := by rintro rfl; rw [hd1] at hd2; cases hd2
    have hne3 : q ≠ r2 := by rintro rfl; rw [hd1] at hd3; cases hd3
    have hneg : g ≠ q := by rintro rfl; rw [hd4] at hd1; exact shaG_nbox hd1
    have hneg1 : g ≠ r1 := by rintro rfl; rw [hd4] at hd2; exact shaG_nrow hd2
    have hneh : h ≠ q := by rintro rfl; rw [hd5] at hd1; exact bitsG_nbx hd1
    have hneh1 : h ≠ r1 := by rintro rfl; rw [hd5] at hd2; exact bitsG_nrw hd2
    have hne23 : r1 ≠ r2 := by rintro rfl; rw [hd2] at hd3; simp at hd3
    have hcs := And.intro c1 (And.intro f1 (And.intro c4 (And.intro c5 (And.intro c6 (And.intro c2 (And.intro c3 (True.intro)))))))
    clear c1 f1 f2 c2 c3 c4 c5 c6
    refine Wk ?_
    refine go_resultW [(q, (.box 140 (.agg [.agg [.lit (.bool a2.free), tagAV a2.seed, .lit (.int .i64 a2.fresh), .slice (some r1) (a2.macs.map macAV), .slice (some r2) (a.boxes.map sealAV)], .lit (.int .i64 (e3 : Int))]))), (r1, (.row 102 65 a2.macs.length))] (by simp (disch := omega) [go_sem, *, -List.reduceReplicate]; rfl) (by first | rfl | (simp (disch := omega) [go_sem]; done) | (simp (disch := omega) [go_sem, *]; done) | simp (disch := omega) [go_sem]) (fun id hid => by simp only [wr_cons, wr_nil]; (by_cases hdd : id = q; (· (subst hdd; simp (disch := omega) [go_sem, *])); (· (by_cases hdd2 : id = r1; (· (subst hdd2; simp (disch := omega) [go_sem, *])); (· (simp (disch := omega) only [upd_ne]; try (first | exact hlow id hid hdd hdd2 | exact hlow id hid))))))) (by simp) (by simp (disch := omega) [go_sem, *])
  ·have hth : c.third = false := by simpa using hth
   rw [hth] at hcc
   have hlim : (decide (64 ≤ L.length) || (c.third && decide (8 ≤ T))) = false := by rw [decide_eq_false h64, hth]; simp
   rw [hlim, if_neg (show ¬ (false = true) by simp)] at c3 hbx ⊢
   clear hlim hth
   rw [show (if e1 = 0 then 0 else e1) = e1 by split <;> omega] at c3 hbx ⊢
   generalize mNode a e1 tg M = Y at *
   obtain ⟨a2, e3, t2⟩ := Y
   simp only at c3 hbx ⊢
   have hpB : paAV ⟨ep, se, L ++ [c], t2⟩ = .agg [.lit (.int .i64 ep), .lit (.int .i64 se), .slice none (L.map caAV ++ [caAV c]), tagAV t2] := by simp [paAV]
   rw [hpB]
   rw [List.map_append, List.map_cons, List.map_nil] at c6
   unfold makE at *
   simp only [List.cons_append, List.nil_append] at *
   simp only [makB_def, rowM_eq, rowB_eq, hbx, e02] at *
   clear hpB hbx hT2
   refine Bd Tryd.func54 Tryd.ntmps54 fun σ N hp hpn hk hkn hfree => ?_
   simp only [List.mem_cons, List.not_mem_nil, or_false, forall_eq_or_imp, forall_eq] at hp hpn
   obtain ⟨hd1, hd2, hd3, hd4, hd5⟩ := hp
   obtain ⟨hdn1, hdn2, hdn3, hdn4, hdn5⟩ := hpn
   have hne : q ≠ r1 := by rintro rfl; rw [hd1] at hd2; cases hd2
   have hne3 : q ≠ r2 := by rintro rfl; rw [hd1] at hd3; cases hd3
   have hneg : g ≠ q := by rintro rfl; rw [hd4] at hd1; exact shaG_nbox hd1
   have hneg1 : g ≠ r1 := by rintro rfl; rw [hd4] at hd2; exact shaG_nrow hd2
   have hneh : h ≠ q := by rintro rfl; rw [hd5] at hd1; exact bitsG_nbx hd1
   have hneh1 : h ≠ r1 := by rintro rfl; rw [hd5] at hd2; exact bitsG_nrw hd2
   have hne23 : r1 ≠ r2 := by rintro rfl; rw [hd2] at hd3; simp at hd3
   have hcs := And.intro c1 (And.intro f1 (And.intro c5 (And.intro c6 (And.intro c2 (And.intro c3 (True.intro))))))
   clear c1 f1 f2 c2 c3 c4 c5 c6
   refine Wk ?_
   refine go_resultW [(q, (.box 140 (.agg [.agg [.lit (.bool a2.free), tagAV a2.seed, .lit (.int .i64 a2.fresh), .slice (some r1) (a2.macs.map macAV), .slice (some r2) (a.boxes.map sealAV)], .lit (.int .i64 (e3 : Int))]))), (r1, (.row 102 65 a2.macs.length))] (by simp (disch := omega) [go_sem, *, -List.reduceReplicate]; rfl) (by first | rfl | (simp (disch := omega) [go_sem]; done) | (simp (disch := omega) [go_sem, *]; done) | simp (disch := omega) [go_sem]) (fun id hid => by simp only [wr_cons, wr_nil]; (by_cases hdd : id = q; (· (subst hdd; simp (disch := omega) [go_sem, *])); (· (by_cases hdd2 : id = r1; (· (subst hdd2; simp (disch := omega) [go_sem, *])); (· (simp (disch := omega) only [upd_ne]; try (first | exact hlow id hid hdd hdd2 | exact hlow id hid))))))) (by simp) (by simp (disch := omega) [go_sem, *])
theorem attS_into (a : Alg) (p : Pa) (c : Ca) : attS a p c = if (intoP a 0 p c).2.1 = 0 then ((intoP a 0 p c).1, (intoP a 0 p c).2.2, 0) else (alg0, pa0, (intoP a 0 p c).2.1) := by
 unfold attS intoP inE
 simp only [if_true]
 cases hc : cavB c with
 | false =>
  have he : (encS c).2 = 5 := by unfold encS; rw [hc]; rfl
  have hm : ∀ t msg, mNode a 5 t msg = (a, 5, zeroTag) := fun t msg => by
   have h5 : (5 : Nat) ≠ 0 := by omega
   unfold mNode; simp only [mMac_err h5]
  rw [if_pos rfl, he, if_neg (show ¬ (5 : Nat) = 0 by omega), hm, if_neg (show ¬ (5 : Nat) = 0 by omega)]
 | true =>
  have he : (encS c).2 = 0 := by unfold encS; rw [hc]; rfl
  rw [if_neg (by simp), he, if_pos rfl]
  by_cases hl : 64 ≤ p.cavs.length ∨ (c.third = true ∧ 8 ≤ thirdsS p.cavs)
  ·have hb : limB p c = true := by
    unfold limB
    rcases hl with h | ⟨h, h'⟩
    ·rw [decide_eq_true h]; rfl
    ·rw [h, decide_eq_true h']; simp
   have hm : ∀ t msg, mNode a 2 t msg = (a, 2, zeroTag) := fun t msg => by
    have h5 : (2 : Nat) ≠ 0 := by omega
    unfold mNode; simp only [mMac_err h5]
   rw [if_pos hl, if_pos hb, hm, if_neg (show ¬ (2 : Nat) = 0 by omega)]
  ·have hb : limB p c = false := by
    unfold limB
    cases hh : (decide (64 ≤ p.cavs.length) || (c.third && decide (8 ≤ thirdsS p.cavs))) with
    | false => rfl
    | true =>
     refine absurd ?_ hl
     simpa using hh
   rw [if_neg hl, hb, if_neg (show ¬ (false = true) by simp), mNode_node]
   by_cases h : (mNode a 0 p.tag (cavM c)).2.1 = 0
   ·simp only [if_pos h, if_true]
   ·simp only [if_neg h]
set_option maxHeartbeats 4000000 in
theorem Att_spec (a : Alg) (m : Nat) (ha : AlgIn a m) (hm : m ≤ 900000) (p : Pa) (hpl : p.cavs.length ≤ 10000) (hpc : ∀ x ∈ p.cavs, CaSm x) (c : Ca) (hc : CaSm c) (hp0 : PrOk c.first) (g h : Nat) (_hgh : g ≠ h) (k : Nat) :
  ACall Tryd.prog 20 [algAV a, paAV p, caAV c] k [(g, shaG), (h, bitsG)] (mpAV (attS a p c)) [] := by
 have cb := Begin_spec a (by have := ha.ml; omega) (by have := ha.bl; omega)
 have c1 := fun q r1 r2 => cInto_spec a m ha hm 0 p hpl hpc c hc hp0 q r1 r2 g h
 have hbx : (intoP a 0 p c).1.boxes = a.boxes := mNode_boxes _ _ _ _
 rw [attS_into]
 generalize intoP a 0 p c = X at *
 obtain ⟨a1, e1, p1⟩ := X
 simp only at c1 hbx ⊢
 clear ha hpl hpc hc hp0
 by_cases he : e1 = 0
 ·subst he
  rw [if_pos rfl]
  unfold mpAV
  simp only
  have cd := Done_ok a1
  unfold makAV at cb
  unfold makE at c1 cd
  simp only [List.cons_append, List.nil_append] at *
  simp only [makB_def, rowM_eq, rowB_eq, hbx] at *
  refine Bd Tryd.func20 Tryd.ntmps20 fun σ N hp hpn hk hkn hfree => ?_
  simp only [List.mem_cons, List.not_mem_nil, or_false, forall_eq_or_imp, forall_eq] at hp hpn; obtain ⟨hd1, hd2⟩ := hp; obtain ⟨hdn1, hdn2⟩ := hpn
  have hcs := And.intro cb True.intro
  refine Wm ?_
  iterate 2 refine Wz ?_
  clear hcs
  refine go_cliprowIn (N + 6 + 1) [0, 3] 102 65 (bt := 140) (c := .agg [.agg [.lit (.bool a.free), tagAV a.seed, .lit (.int .i64 a.fresh), .clip (a.macs.map macAV), .clip (a.boxes.map sealAV)], .lit (.int .i64 ((0 : Nat) : Int))]) (xs := a.macs.map macAV) (by simp (disch := omega) [go_sem, *, -List.reduceReplicate]) rfl (all_macs1 _) ?_; refine go_cliprowIn (N + 6 + 1) [0, 4] 105 35 (bt := 140) (c := .agg [.agg [.lit (.bool a.free), tagAV a.seed, .lit (.int .i64 a.fresh), .slice (some (N + 6 + 3)) (a.macs.map macAV), .clip (a.boxes.map sealAV)], .lit (.int .i64 ((0 : Nat) : Int))]) (xs := a.boxes.map sealAV) (by simp (disch := omega) [go_sem, *, -List.reduceReplicate]) rfl (all_boxes1 _) ?_
  have hcs := And.intro (c1 (N + 6 + 1) (N + 6 + 3) (N + 6 + 3 + 1)) (And.intro (cd (N + 6 + 1) (N + 6 + 3) (N + 6 + 3 + 1)) True.intro)
  clear cb c1 cd
  refine Wk ?_
  exact WD
 ·rw [if_neg he]
  unfold mpAV paAV pa0
  simp only [alg0_eq, List.map_nil]
  have h1i : ((e1 : Int) != 0) = true := by simp; omega
  have cd := Done_bad a1 e1 he
  unfold makAV at cb
  unfold makE at c1 cd
  simp only [List.cons_append, List.nil_append] at *
  simp only [makB_def, rowM_eq, rowB_eq, hbx, alg0_eq] at *
  refine Bd Tryd.func20 Tryd.ntmps20 fun σ N hp hpn hk hkn hfree => ?_
  simp only [List.mem_cons, List.not_mem_nil, or_false, forall_eq_or_imp, forall_eq] at hp hpn; obtain ⟨hd1, hd2⟩ := hp; obtain ⟨hdn1, hdn2⟩ := hpn
  have hcs := And.intro cb True.intro
  refine Wm ?_
  iterate 2 refine Wz ?_
  clear hcs
  refine go_cliprowIn (N + 6 + 1) [0, 3] 102 65 (bt := 140) (c := .agg [.agg [.lit (.bool a.free), tagAV a.seed, .lit (.int .i64 a.fresh), .clip (a.macs.map macAV), .clip (a.boxes.map sealAV)], .lit (.int .i64 ((0 : Nat) : Int))]) (xs := a.macs.map macAV) (by simp (disch := omega) [go_sem, *, -List.reduceReplicate]) rfl (all_macs1 _) ?_; refine go_cliprowIn (N + 6 + 1) [0, 4] 105 35 (bt := 140) (c := .agg [.agg [.lit (.bool a.free), tagAV a.seed, .lit (.int .i64 a.fresh), .slice (some (N + 6 + 3)) (a.macs.map macAV), .clip (a.boxes.map sealAV)], .lit (.int .i64 ((0 : Nat) : Int))]) (xs := a.boxes.map sealAV) (by simp (disch := omega) [go_sem, *, -List.reduceReplicate]) rfl (all_boxes1 _) ?_
  have hcs := And.intro (c1 (N + 6 + 1) (N + 6 + 3) (N + 6 + 3 + 1)) (And.intro (cd (N + 6 + 1) (N + 6 + 3) (N + 6 + 3 + 1)) True.intro)
  clear cb c1 cd
  refine Wk ?_
  exact WD
end
end Go.Proofs.YtdmjpolnbmoehaaDoor

namespace Go.Proofs.YtdmjpolnbmoehaaDoor
open Go.Ab
attribute [local irreducible] Go.Ab.tyAV Go.Ab.aw Go.Ab.aops Go.Ab.kReg Go.Ab.aThen Go.Ab.aBlk Go.Ab.acond Go.Ab.aguard Go.Ab.astep Go.Ab.AStepX Go.Ab.aRet
theorem u64_wrap_range (x : Int) : 0 ≤ IntKind.u64.wrap x ∧ IntKind.u64.wrap x < 18446744073709551616 := by
 have : IntKind.u64.wrap x = x % 18446744073709551616 := by simp [IntKind.wrap, IntKind.bits, IntKind.signed]
 rw [this]; omega
theorem u64_bits_range (op : BinOp) (a b : Int) : 0 ≤ bits op .u64 a b ∧ bits op .u64 a b < 18446744073709551616 := by
 unfold bits
 split <;> exact u64_wrap_range _
theorem u64_and32 (x : Int) (h0 : 0 ≤ x) (h1 : x < 18446744073709551616) : bits .and .u64 x 4294967295 = x % 4294967296 := bits_mask .u64 64 (by decide) (fun n a b => wrap_u64r a (by omega)) 32 (by decide) x h0 h1
theorem u64_and7 (x : Int) (h0 : 0 ≤ x) (h1 : x < 18446744073709551616) : bits .and .u64 x 127 = x % 128 := bits_mask .u64 64 (by decide) (fun n a b => wrap_u64r a (by omega)) 7 (by decide) x h0 h1
theorem Next_at (l : List Int) (i : Nat) (n : Nat) (h : Dk l i) (h0 : 0 < n) (hn : n ≤ 1000000000000000000) :
  ∃ x j : Nat, x < n ∧ Dk l j ∧ ∀ d k, ACall Tryd.prog 29 [.ptr d [] 0, .lit (.int .i64 n)] k [(d, deckBox l i)] (.lit (.int .i64 x)) [(d, deckBox l j)] := Next_ex l i n h h0 hn
theorem pow_lt (y n : Nat) (h : y < n) (_hn : n ≤ 64) : ∃ p : Int, (2 : Int) ^ y = p ∧ 0 < p ∧ p < 2 ^ n := by
 refine ⟨_, rfl, Int.pow_pos (by omega), ?_⟩
 exact_mod_cast Nat.pow_lt_pow_right (by omega) h
set_option maxHeartbeats 4000000 in
theorem mask64_ex (l : List Int) (i : Nat) (h : Dk l i) :
  ∃ (m : Int) (j : Nat), 0 < m ∧ m < 2 ^ 64 ∧ Dk l j ∧ ∀ d k, ACall Tryd.prog 112 [.ptr d [] 0, .lit (.int .i64 64)] k [(d, deckBox l i)] (.lit (.int .u64 m)) [(d, deckBox l j)] := by
 obtain ⟨x, j1, x1, d1, c1⟩ := Next_at l i 3 h (by omega) (by omega)
 have hx : x = 0 ∨ x = 1 ∨ x = 2 := by omega
 rcases hx with rfl | rfl | rfl
 ·obtain ⟨a, j2, a1, d2, c2⟩ := Next_at l j1 16 d1 (by omega) (by omega)
  obtain ⟨v, hv⟩ : ∃ v : Int, (a : Int) = v := ⟨_, rfl⟩
  have v0 : 0 ≤ v := by omega
  have v1 : v < 18446744073709551616 := by omega
  have hvw : IntKind.u64.wrap v = v := wrap_u64r v0 (by omega)
  by_cases hz : v = 0
  ·obtain ⟨y, j9, y1, d9, c9⟩ := Next_at l j2 64 d2 (by omega) (by omega)
   obtain ⟨p, hp1, hp2, hp3⟩ := pow_lt y 64 y1 (by omega)
   have hmn : min y 64 = y := by omega
   refine ⟨p, j9, hp2, hp3, d9, fun d k => ?_⟩
   have hpw : IntKind.u64.wrap p = p := wrap_u64r (by omega) (by simp at hp3; omega)
   have hyw : IntKind.u64.wrap (y : Int) = y := wrap_u64r (by omega) (by omega)
   have hzb : (v == 0) = true := by simp [hz]
   refine Bd Tryd.func112 Tryd.ntmps112 fun σ N hp hpn hk hkn hfree => ?_
   obtain ⟨hd, hdn⟩ := HD0 hp hpn; clear hp hpn
   have hcs := And.intro (c1 d) (And.intro (c2 d) (And.intro (c9 d) True.intro))
   clear c1 c2 c9
   refine Wk ?_
   exact RW (d) (deckBox l j9)
  ·have hzb : (v == 0) = false := by simp [hz]
   refine ⟨v, j2, by omega, by simp; omega, d2, fun d k => ?_⟩
   refine Bd Tryd.func112 Tryd.ntmps112 fun σ N hp hpn hk hkn hfree => ?_
   obtain ⟨hd, hdn⟩ := HD0 hp hpn; clear hp hpn
   have hcs := And.intro (c1 d) (And.intro (c2 d) True.intro)
   clear c1 c2
   refine Wk ?_
   exact RW (d) (deckBox l j2)
 ·obtain ⟨a, j2, a1, d2, c2⟩ := Next_at l j1 65536 d1 (by omega) (by omega)
  obtain ⟨b, j3, b1, d3, c3⟩ := Next_at l j2 65536 d2 (by omega) (by omega)
  obtain ⟨v, hv⟩ : ∃ v : Int, bits .or .u64 (a : Int) ((b : Int) * 281474976710656) = v := ⟨_, rfl⟩
  obtain ⟨v0, v1⟩ := u64_bits_range .or (a : Int) ((b : Int) * 281474976710656)
  rw [hv] at v0 v1
  have haw : IntKind.u64.wrap (a : Int) = a := wrap_u64r (by omega) (by omega)
  have hbw : IntKind.u64.wrap (b : Int) = b := wrap_u64r (by omega) (by omega)
  have hbs : IntKind.u64.wrap ((b : Int) * 281474976710656) = (b : Int) * 281474976710656 := wrap_u64r (by omega) (by omega)
  by_cases hz : v = 0
  ·obtain ⟨y, j9, y1, d9, c9⟩ := Next_at l j3 64 d3 (by omega) (by omega)
   obtain ⟨p, hp1, hp2, hp3⟩ := pow_lt y 64 y1 (by omega)
   have hmn : min y 64 = y := by omega
   refine ⟨p, j9, hp2, hp3, d9, fun d k => ?_⟩
   have hpw : IntKind.u64.wrap p = p := wrap_u64r (by omega) (by simp at hp3; omega)
   have hyw : IntKind.u64.wrap (y : Int) = y := wrap_u64r (by omega) (by omega)
   have hzb : (v == 0) = true := by simp [hz]
   refine Bd Tryd.func112 Tryd.ntmps112 fun σ N hp hpn hk hkn hfree => ?_
   obtain ⟨hd, hdn⟩ := HD0 hp hpn; clear hp hpn
   have hcs := And.intro (c1 d) (And.intro (c2 d) (And.intro (c3 d) (And.intro (c9 d) True.intro)))
   clear c1 c2 c3 c9
   refine Wk ?_
   exact RW (d) (deckBox l j9)
  ·have hzb : (v == 0) = false := by simp [hz]
   refine ⟨v, j3, by omega, by simp; omega, d3, fun d k => ?_⟩
   refine Bd Tryd.func112 Tryd.ntmps112 fun σ N hp hpn hk hkn hfree => ?_
   obtain ⟨hd, hdn⟩ := HD0 hp hpn; clear hp hpn
   have hcs := And.intro (c1 d) (And.intro (c2 d) (And.intro (c3 d) True.intro))
   clear c1 c2 c3
   refine Wk ?_
   exact RW (d) (deckBox l j3)
 ·obtain ⟨a, j2, a1, d2, c2⟩ := Next_at l j1 65536 d1 (by omega) (by omega)
  obtain ⟨v, hv⟩ : ∃ v : Int, bits .xor .u64 18446744073709551615 (a : Int) = v := ⟨_, rfl⟩
  obtain ⟨v0, v1⟩ := u64_bits_range .xor 18446744073709551615 (a : Int)
  rw [hv] at v0 v1
  have haw : IntKind.u64.wrap (a : Int) = a := wrap_u64r (by omega) (by omega)
  have hsx : (if IntKind.u64.signed = true then (-1 : Int) else IntKind.u64.max) = 18446744073709551615 := by decide
  by_cases hz : v = 0
  ·obtain ⟨y, j9, y1, d9, c9⟩ := Next_at l j2 64 d2 (by omega) (by omega)
   obtain ⟨p, hp1, hp2, hp3⟩ := pow_lt y 64 y1 (by omega)
   have hmn : min y 64 = y := by omega
   refine ⟨p, j9, hp2, hp3, d9, fun d k => ?_⟩
   have hpw : IntKind.u64.wrap p = p := wrap_u64r (by omega) (by simp at hp3; omega)
   have hyw : IntKind.u64.wrap (y : Int) = y := wrap_u64r (by omega) (by omega)
   have hzb : (v == 0) = true := by simp [hz]
   refine Bd Tryd.func112 Tryd.ntmps112 fun σ N hp hpn hk hkn hfree => ?_
   obtain ⟨hd, hdn⟩ := HD0 hp hpn; clear hp hpn
   have hcs := And.intro (c1 d) (And.intro (c2 d) (And.intro (c9 d) True.intro))
   clear c1 c2 c9
   refine Wk ?_
   exact RW (d) (deckBox l j9)
  ·have hzb : (v == 0) = false := by simp [hz]
   refine ⟨v, j2, by omega, by simp; omega, d2, fun d k => ?_⟩
   refine Bd Tryd.func112 Tryd.ntmps112 fun σ N hp hpn hk hkn hfree => ?_
   obtain ⟨hd, hdn⟩ := HD0 hp hpn; clear hp hpn
   have hcs := And.intro (c1 d) (And.intro (c2 d) True.intro)
   clear c1 c2
   refine Wk ?_
   exact RW (d) (deckBox l j2)
set_option maxHeartbeats 4000000 in
theorem mask32_ex (l : List Int) (i : Nat) (h : Dk l i) :
  ∃ (m : Int) (j : Nat), 0 < m ∧ m < 2 ^ 32 ∧ Dk l j ∧ ∀ d k, ACall Tryd.prog 112 [.ptr d [] 0, .lit (.int .i64 32)] k [(d, deckBox l i)] (.lit (.int .u64 m)) [(d, deckBox l j)] := by
 obtain ⟨x, j1, x1, d1, c1⟩ := Next_at l i 3 h (by omega) (by omega)
 have hx : x = 0 ∨ x = 1 ∨ x = 2 := by omega
 rcases hx with rfl | rfl | rfl
 ·obtain ⟨a, j2, a1, d2, c2⟩ := Next_at l j1 16 d1 (by omega) (by omega)
  obtain ⟨v, hv⟩ : ∃ v : Int, (a : Int) = v := ⟨_, rfl⟩
  have v0 : 0 ≤ v := by omega
  have v1 : v < 18446744073709551616 := by omega
  have hvw : IntKind.u64.wrap v = v := wrap_u64r v0 (by omega)
  have ha := u64_and32 v v0 v1
  obtain ⟨w, hw⟩ : ∃ w, v % 4294967296 = w := ⟨_, rfl⟩
  have w0 : 0 ≤ w := by omega
  have w1 : w < 4294967296 := by omega
  rw [hw] at ha
  by_cases hz : w = 0
  ·obtain ⟨y, j9, y1, d9, c9⟩ := Next_at l j2 32 d2 (by omega) (by omega)
   obtain ⟨p, hp1, hp2, hp3⟩ := pow_lt y 32 y1 (by omega)
   have hmn : min y 64 = y := by omega
   refine ⟨p, j9, hp2, hp3, d9, fun d k => ?_⟩
   have hpw : IntKind.u64.wrap p = p := wrap_u64r (by omega) (by simp at hp3; omega)
   have hyw : IntKind.u64.wrap (y : Int) = y := wrap_u64r (by omega) (by omega)
   have hzb : (w == 0) = true := by simp [hz]
   refine Bd Tryd.func112 Tryd.ntmps112 fun σ N hp hpn hk hkn hfree => ?_
   obtain ⟨hd, hdn⟩ := HD0 hp hpn; clear hp hpn
   have hcs := And.intro (c1 d) (And.intro (c2 d) (And.intro (c9 d) True.intro))
   clear c1 c2 c9
   refine Wk ?_
   exact RW (d) (deckBox l j9)
  ·have hzb : (w == 0) = false := by simp [hz]
   refine ⟨w, j2, by omega, by simp; omega, d2, fun d k => ?_⟩
   refine Bd Tryd.func112 Tryd.ntmps112 fun σ N hp hpn hk hkn hfree => ?_
   obtain ⟨hd, hdn⟩ := HD0 hp hpn; clear hp hpn
   have hcs := And.intro (c1 d) (And.intro (c2 d) True.intro)
   clear c1 c2
   refine Wk ?_
   exact RW (d) (deckBox l j2)
 ·obtain ⟨a, j2, a1, d2, c2⟩ := Next_at l j1 65536 d1 (by omega) (by omega)
  obtain ⟨b, j3, b1, d3, c3⟩ := Next_at l j2 65536 d2 (by omega) (by omega)
  obtain ⟨v, hv⟩ : ∃ v : Int, bits .or .u64 (a : Int) ((b : Int) * 281474976710656) = v := ⟨_, rfl⟩
  obtain ⟨v0, v1⟩ := u64_bits_range .or (a : Int) ((b : Int) * 281474976710656)
  rw [hv] at v0 v1
  have haw : IntKind.u64.wrap (a : Int) = a := wrap_u64r (by omega) (by omega)
  have hbw : IntKind.u64.wrap (b : Int) = b := wrap_u64r (by omega) (by omega)
  have hbs : IntKind.u64.wrap ((b : Int) * 281474976710656) = (b : Int) * 281474976710656 := wrap_u64r (by omega) (by omega)
  have ha := u64_and32 v v0 v1
  obtain ⟨w, hw⟩ : ∃ w, v % 4294967296 = w := ⟨_, rfl⟩
  have w0 : 0 ≤ w := by omega
  have w1 : w < 4294967296 := by omega
  rw [hw] at ha
  by_cases hz : w = 0
  ·obtain ⟨y, j9, y1, d9, c9⟩ := Next_at l j3 32 d3 (by omega) (by omega)
   obtain ⟨p, hp1, hp2, hp3⟩ := pow_lt y 32 y1 (by omega)
   have hmn : min y 64 = y := by omega
   refine ⟨p, j9, hp2, hp3, d9, fun d k => ?_⟩
   have hpw : IntKind.u64.wrap p = p := wrap_u64r (by omega) (by simp at hp3; omega)
   have hyw : IntKind.u64.wrap (y : Int) = y := wrap_u64r (by omega) (by omega)
   have hzb : (w == 0) = true := by simp [hz]
   refine Bd Tryd.func112 Tryd.ntmps112 fun σ N hp hpn hk hkn hfree => ?_
   obtain ⟨hd, hdn⟩ := HD0 hp hpn; clear hp hpn
   have hcs := And.intro (c1 d) (And.intro (c2 d) (And.intro (c3 d) (And.intro (c9 d) True.intro)))
   clear c1 c2 c3 c9
   refine Wk ?_
   exact RW (d) (deckBox l j9)
  ·have hzb : (w == 0) = false := by simp [hz]
   refine ⟨w, j3, by omega, by simp; omega, d3, fun d k => ?_⟩
   refine Bd Tryd.func112 Tryd.ntmps112 fun σ N hp hpn hk hkn hfree => ?_
   obtain ⟨hd, hdn⟩ := HD0 hp hpn; clear hp hpn
   have hcs := And.intro (c1 d) (And.intro (c2 d) (And.intro (c3 d) True.intro))
   clear c1 c2 c3
   refine Wk ?_
   exact RW (d) (deckBox l j3)
 ·obtain ⟨a, j2, a1, d2, c2⟩ := Next_at l j1 65536 d1 (by omega) (by omega)
  obtain ⟨v, hv⟩ : ∃ v : Int, bits .xor .u64 18446744073709551615 (a : Int) = v := ⟨_, rfl⟩
  obtain ⟨v0, v1⟩ := u64_bits_range .xor 18446744073709551615 (a : Int)
  rw [hv] at v0 v1
  have haw : IntKind.u64.wrap (a : Int) = a := wrap_u64r (by omega) (by omega)
  have hsx : (if IntKind.u64.signed = true then (-1 : Int) else IntKind.u64.max) = 18446744073709551615 := by decide
  have ha := u64_and32 v v0 v1
  obtain ⟨w, hw⟩ : ∃ w, v % 4294967296 = w := ⟨_, rfl⟩
  have w0 : 0 ≤ w := by omega
  have w1 : w < 4294967296 := by omega
  rw [hw] at ha
  by_cases hz : w = 0
  ·obtain ⟨y, j9, y1, d9, c9⟩ := Next_at l j2 32 d2 (by omega) (by omega)
   obtain ⟨p, hp1, hp2, hp3⟩ := pow_lt y 32 y1 (by omega)
   have hmn : min y 64 = y := by omega
   refine ⟨p, j9, hp2, hp3, d9, fun d k => ?_⟩
   have hpw : IntKind.u64.wrap p = p := wrap_u64r (by omega) (by simp at hp3; omega)
   have hyw : IntKind.u64.wrap (y : Int) = y := wrap_u64r (by omega) (by omega)
   have hzb : (w == 0) = true := by simp [hz]
   refine Bd Tryd.func112 Tryd.ntmps112 fun σ N hp hpn hk hkn hfree => ?_
   obtain ⟨hd, hdn⟩ := HD0 hp hpn; clear hp hpn
   have hcs := And.intro (c1 d) (And.intro (c2 d) (And.intro (c9 d) True.intro))
   clear c1 c2 c9
   refine Wk ?_
   exact RW (d) (deckBox l j9)
  ·have hzb : (w == 0) = false := by simp [hz]
   refine ⟨w, j2, by omega, by simp; omega, d2, fun d k => ?_⟩
   refine Bd Tryd.func112 Tryd.ntmps112 fun σ N hp hpn hk hkn hfree => ?_
   obtain ⟨hd, hdn⟩ := HD0 hp hpn; clear hp hpn
   have hcs := And.intro (c1 d) (And.intro (c2 d) True.intro)
   clear c1 c2
   refine Wk ?_
   exact RW (d) (deckBox l j2)
set_option maxHeartbeats 4000000 in
theorem mask7_ex (l : List Int) (i : Nat) (h : Dk l i) :
  ∃ (m : Int) (j : Nat), 0 < m ∧ m < 2 ^ 7 ∧ Dk l j ∧ ∀ d k, ACall Tryd.prog 112 [.ptr d [] 0, .lit (.int .i64 7)] k [(d, deckBox l i)] (.lit (.int .u64 m)) [(d, deckBox l j)] := by
 obtain ⟨x, j1, x1, d1, c1⟩ := Next_at l i 3 h (by omega) (by omega)
 have hx : x = 0 ∨ x = 1 ∨ x = 2 := by omega
 rcases hx with rfl | rfl | rfl
 ·obtain ⟨a, j2, a1, d2, c2⟩ := Next_at l j1 16 d1 (by omega) (by omega)
  obtain ⟨v, hv⟩ : ∃ v : Int, (a : Int) = v := ⟨_, rfl⟩
  have v0 : 0 ≤ v := by omega
  have v1 : v < 18446744073709551616 := by omega
  have hvw : IntKind.u64.wrap v = v := wrap_u64r v0 (by omega)
  have ha := u64_and7 v v0 v1
  obtain ⟨w, hw⟩ : ∃ w, v % 128 = w := ⟨_, rfl⟩
  have w0 : 0 ≤ w := by omega
  have w1 : w < 128 := by omega
  rw [hw] at ha
  by_cases hz : w = 0
  ·obtain ⟨y, j9, y1, d9, c9⟩ := Next_at l j2 7 d2 (by omega) (by omega)
   obtain ⟨p, hp1, hp2, hp3⟩ := pow_lt y 7 y1 (by omega)
   have hmn : min y 64 = y := by omega
   refine ⟨p, j9, hp2, hp3, d9, fun d k => ?_⟩
   have hpw : IntKind.u64.wrap p = p := wrap_u64r (by omega) (by simp at hp3; omega)
   have hyw : IntKind.u64.wrap (y : Int) = y := wrap_u64r (by omega) (by omega)
   have hzb : (w == 0) = true := by simp [hz]
   refine Bd Tryd.func112 Tryd.ntmps112 fun σ N hp hpn hk hkn hfree => ?_
   obtain ⟨hd, hdn⟩ := HD0 hp hpn; clear hp hpn
   have hcs := And.intro (c1 d) (And.intro (c2 d) (And.intro (c9 d) True.intro))
   clear c1 c2 c9
   refine Wk ?_
   exact RW (d) (deckBox l j9)
  ·have hzb : (w == 0) = false := by simp [hz]
   refine ⟨w, j2, by omega, by simp; omega, d2, fun d k => ?_⟩
   refine Bd Tryd.func112 Tryd.ntmps112 fun σ N hp hpn hk hkn hfree => ?_
   obtain ⟨hd, hdn⟩ := HD0 hp hpn; clear hp hpn
   have hcs := And.intro (c1 d) (And.intro (c2 d) True.intro)
   clear c1 c2
   refine Wk ?_
   exact RW (d) (deckBox l j2)
 ·obtain ⟨a, j2, a1, d2, c2⟩ := Next_at l j1 65536 d1 (by omega) (by omega)
  obtain ⟨b, j3, b1, d3, c3⟩ := Next_at l j2 65536 d2 (by omega) (by omega)
  obtain ⟨v, hv⟩ : ∃ v : Int, bits .or .u64 (a : Int) ((b : Int) * 281474976710656) = v := ⟨_, rfl⟩
  obtain ⟨v0, v1⟩ := u64_bits_range .or (a : Int) ((b : Int) * 281474976710656)
  rw [hv] at v0 v1
  have haw : IntKind.u64.wrap (a : Int) = a := wrap_u64r (by omega) (by omega)
  have hbw : IntKind.u64.wrap (b : Int) = b := wrap_u64r (by omega) (by omega)
  have hbs : IntKind.u64.wrap ((b : Int) * 281474976710656) = (b : Int) * 281474976710656 := wrap_u64r (by omega) (by omega)
  have ha := u64_and7 v v0 v1
  obtain ⟨w, hw⟩ : ∃ w, v % 128 = w := ⟨_, rfl⟩
  have w0 : 0 ≤ w := by omega
  have w1 : w < 128 := by omega
  rw [hw] at ha
  by_cases hz : w = 0
  ·obtain ⟨y, j9, y1, d9, c9⟩ := Next_at l j3 7 d3 (by omega) (by omega)
   obtain ⟨p, hp1, hp2, hp3⟩ := pow_lt y 7 y1 (by omega)
   have hmn : min y 64 = y := by omega
   refine ⟨p, j9, hp2, hp3, d9, fun d k => ?_⟩
   have hpw : IntKind.u64.wrap p = p := wrap_u64r (by omega) (by simp at hp3; omega)
   have hyw : IntKind.u64.wrap (y : Int) = y := wrap_u64r (by omega) (by omega)
   have hzb : (w == 0) = true := by simp [hz]
   refine Bd Tryd.func112 Tryd.ntmps112 fun σ N hp hpn hk hkn hfree => ?_
   obtain ⟨hd, hdn⟩ := HD0 hp hpn; clear hp hpn
   have hcs := And.intro (c1 d) (And.intro (c2 d) (And.intro (c3 d) (And.intro (c9 d) True.intro)))
   clear c1 c2 c3 c9
   refine Wk ?_
   exact RW (d) (deckBox l j9)
  ·have hzb : (w == 0) = false := by simp [hz]
   refine ⟨w, j3, by omega, by simp; omega, d3, fun d k => ?_⟩
   refine Bd Tryd.func112 Tryd.ntmps112 fun σ N hp hpn hk hkn hfree => ?_
   obtain ⟨hd, hdn⟩ := HD0 hp hpn; clear hp hpn
   have hcs := And.intro (c1 d) (And.intro (c2 d) (And.intro (c3 d) True.intro))
   clear c1 c2 c3
   refine Wk ?_
   exact RW (d) (deckBox l j3)
 ·obtain ⟨a, j2, a1, d2, c2⟩ := Next_at l j1 65536 d1 (by omega) (by omega)
  obtain ⟨v, hv⟩ : ∃ v : Int, bits .xor .u64 18446744073709551615 (a : Int) = v := ⟨_, rfl⟩
  obtain ⟨v0, v1⟩ := u64_bits_range .xor 18446744073709551615 (a : Int)
  rw [hv] at v0 v1
  have haw : IntKind.u64.wrap (a : Int) = a := wrap_u64r (by omega) (by omega)
  have hsx : (if IntKind.u64.signed = true then (-1 : Int) else IntKind.u64.max) = 18446744073709551615 := by decide
  have ha := u64_and7 v v0 v1
  obtain ⟨w, hw⟩ : ∃ w, v % 128 = w := ⟨_, rfl⟩
  have w0 : 0 ≤ w := by omega
  have w1 : w < 128 := by omega
  rw [hw] at ha
  by_cases hz : w = 0
  ·obtain ⟨y, j9, y1, d9, c9⟩ := Next_at l j2 7 d2 (by omega) (by omega)
   obtain ⟨p, hp1, hp2, hp3⟩ := pow_lt y 7 y1 (by omega)
   have hmn : min y 64 = y := by omega
   refine ⟨p, j9, hp2, hp3, d9, fun d k => ?_⟩
   have hpw : IntKind.u64.wrap p = p := wrap_u64r (by omega) (by simp at hp3; omega)
   have hyw : IntKind.u64.wrap (y : Int) = y := wrap_u64r (by omega) (by omega)
   have hzb : (w == 0) = true := by simp [hz]
   refine Bd Tryd.func112 Tryd.ntmps112 fun σ N hp hpn hk hkn hfree => ?_
   obtain ⟨hd, hdn⟩ := HD0 hp hpn; clear hp hpn
   have hcs := And.intro (c1 d) (And.intro (c2 d) (And.intro (c9 d) True.intro))
   clear c1 c2 c9
   refine Wk ?_
   exact RW (d) (deckBox l j9)
  ·have hzb : (w == 0) = false := by simp [hz]
   refine ⟨w, j2, by omega, by simp; omega, d2, fun d k => ?_⟩
   refine Bd Tryd.func112 Tryd.ntmps112 fun σ N hp hpn hk hkn hfree => ?_
   obtain ⟨hd, hdn⟩ := HD0 hp hpn; clear hp hpn
   have hcs := And.intro (c1 d) (And.intro (c2 d) True.intro)
   clear c1 c2
   refine Wk ?_
   exact RW (d) (deckBox l j2)

@[go_sem] theorem ba_empty_eq : (ByteArray.empty = { data := #[] }) = True := eq_true rfl
theorem Upto_ex (l : List Int) (i : Nat) (h : Dk l i) (most : Nat) (hm : most ≤ 900000000) :
  ∃ v j : Nat, v ≤ most ∧ Dk l j ∧ ∀ d k, ACall Tryd.prog 15 [.ptr d [] 0, .lit (.int .i64 most)] k [(d, deckBox l i)] (.lit (.int .i64 v)) [(d, deckBox l j)] := by
 obtain ⟨x, j1, x1, d1, c1⟩ := Next_at l i 4 h (by omega) (by omega)
 have hx : x = 0 ∨ x = 1 ∨ x = 2 ∨ x = 3 := by omega
 rcases hx with rfl | rfl | rfl | rfl
 ·obtain ⟨a, j2, a1, d2, c2⟩ := Next_at l j1 4 d1 (by omega) (by omega)
  obtain ⟨v, hv, hvm⟩ : ∃ v : Nat, (if most < a then (most : Int) else (a : Int)) = (v : Int) ∧ v ≤ most := ⟨min a most, by split <;> omega, by omega⟩
  refine ⟨v, j2, hvm, d2, fun d k => ?_⟩
  refine Bd Tryd.func15 Tryd.ntmps15 fun σ N hp hpn hk hkn hfree => ?_
  obtain ⟨hd, hdn⟩ := HD0 hp hpn; clear hp hpn
  have hcs := And.intro (c1 d) (And.intro (c2 d) True.intro)
  clear c1 c2
  refine Wk ?_
  exact RW (d) (deckBox l j2)
 ·obtain ⟨a, j2, a1, d2, c2⟩ := Next_at l j1 300 d1 (by omega) (by omega)
  obtain ⟨v, hv, hvm⟩ : ∃ v : Nat, (if most < a then (most : Int) else (a : Int)) = (v : Int) ∧ v ≤ most := ⟨min a most, by split <;> omega, by omega⟩
  refine ⟨v, j2, hvm, d2, fun d k => ?_⟩
  refine Bd Tryd.func15 Tryd.ntmps15 fun σ N hp hpn hk hkn hfree => ?_
  obtain ⟨hd, hdn⟩ := HD0 hp hpn; clear hp hpn
  have hcs := And.intro (c1 d) (And.intro (c2 d) True.intro)
  clear c1 c2
  refine Wk ?_
  exact RW (d) (deckBox l j2)
 ·obtain ⟨q, hq, hq0, hq1⟩ : ∃ q : Nat, (if (most : Int) + 1 < 3 then (most : Int) + 1 else 3) = (q : Int) ∧ 0 < q ∧ q ≤ most + 1 := ⟨min 3 (most + 1), by split <;> omega, by omega, by omega⟩
  obtain ⟨a, j2, a1, d2, c2⟩ := Next_at l j1 q d1 hq0 (by omega)
  refine ⟨most - a, j2, by omega, d2, fun d k => ?_⟩
  have hsub : ((most - a : Nat) : Int) = (most : Int) - (a : Int) := by omega
  rw [hsub]
  refine Bd Tryd.func15 Tryd.ntmps15 fun σ N hp hpn hk hkn hfree => ?_
  obtain ⟨hd, hdn⟩ := HD0 hp hpn; clear hp hpn
  have hcs := And.intro (c1 d) (And.intro (c2 d) True.intro)
  clear c1 c2 hsub
  refine Wk ?_
  exact RW (d) (deckBox l j2)
 ·obtain ⟨a, j2, a1, d2, c2⟩ := Next_at l j1 (most + 1) d1 (by omega) (by omega)
  have hc : ((most + 1 : Nat) : Int) = (most : Int) + 1 := by omega
  rw [hc] at c2
  refine ⟨a, j2, by omega, d2, fun d k => ?_⟩
  refine Bd Tryd.func15 Tryd.ntmps15 fun σ N hp hpn hk hkn hfree => ?_
  obtain ⟨hd, hdn⟩ := HD0 hp hpn; clear hp hpn
  have hcs := And.intro (c1 d) (And.intro (c2 d) True.intro)
  clear c1 c2 hc
  refine Wk ?_
  exact RW (d) (deckBox l j2)
theorem Minute_ex (l : List Int) (i : Nat) (h : Dk l i) : ∃ v j : Nat, v ≤ 67108864 ∧ Dk l j ∧ ∀ d k, ACall Tryd.prog 113 [.ptr d [] 0] k [(d, deckBox l i)] (.lit (.int .i64 v)) [(d, deckBox l j)] :=
 ⟨_, _, minuteD_le l i, minuteD_dk h, Minute_spec l i h⟩
theorem Name_ex (l : List Int) (i : Nat) (h : Dk l i) : ∃ (s : List UInt8) (j : Nat), nameB s = true ∧ s.length ≤ 16 ∧ Dk l j ∧ ∀ d k, ACall Tryd.prog 114 [.ptr d [] 0] k [(d, deckBox l i)] (.lit (.string ⟨s.toArray⟩)) [(d, deckBox l j)] := by
 have b := nextD_lt l i 8 (by omega)
 refine ⟨_, _, ?_, ?_, nameD_dk h, fun d k => Name_spec0 l i h d k⟩
 all_goals
  unfold nameD
  generalize (nextD l i 8).1 = x at b
  have : x = 0 ∨ x = 1 ∨ x = 2 ∨ x = 3 ∨ x = 4 ∨ x = 5 ∨ x = 6 ∨ x = 7 := by omega
  rcases this with rfl | rfl | rfl | rfl | rfl | rfl | rfl | rfl <;> (simp only; decide)
theorem PrOk.mk0 {k m f t x : Int} {n : List UInt8} (h0 : 0 ≤ m) (h1 : m < 18446744073709551616) (h2 : n.length ≤ 100) : PrOk ⟨k, m, f, t, n, x⟩ := ⟨h0, h1, by simp only; omega⟩
set_option maxHeartbeats 4000000 in
theorem Predicate_ex (l : List Int) (i : Nat) (h : Dk l i) (rides : Bool) :
  ∃ (p : Pr) (j : Nat), predB p = true ∧ PrOk p ∧ (rides = false → p.kind ≠ 7) ∧ Dk l j ∧ ∀ d k, ACall Tryd.prog 84 [.ptr d [] 0, .lit (.bool rides)] k [(d, deckBox l i)] (prAV p) [(d, deckBox l j)] := by
 have c1 := Range_spec l i 1 7 7 h (by omega) (by omega) (by omega) (by omega)
 have d1 := rangeD_dk (lo := 1) (n := 7) h
 have b1 := nextD_lt l i 7 (by omega)
 have hk : (rangeD l i 1 7).1 = 1 ∨ (rangeD l i 1 7).1 = 2 ∨ (rangeD l i 1 7).1 = 3 ∨ (rangeD l i 1 7).1 = 4 ∨ (rangeD l i 1 7).1 = 5 ∨ (rangeD l i 1 7).1 = 6 ∨ (rangeD l i 1 7).1 = 7 := by unfold rangeD; simp only; omega
 generalize rangeD l i 1 7 = X at *
 obtain ⟨kd, j1⟩ := X
 simp only at c1 d1 hk
 clear b1 h
 rcases hk with rfl | rfl | rfl | rfl | rfl | rfl | rfl
 ·obtain ⟨m, j2, m0, m1, d2, c2⟩ := mask64_ex l j1 d1
  refine ⟨⟨1, m, 0, 0, [], 0⟩, j2, (by simp [predB, maskB]; simp at m1; omega), .mk0 (by omega) (by simp at m1; omega) (by simp), by simp, d2, fun d k => ?_⟩
  simp only [prAV]
  refine Bd Tryd.func84 Tryd.ntmps84 fun σ N hp hpn hk hkn hfree => ?_
  obtain ⟨hd, hdn⟩ := HD0 hp hpn; clear hp hpn
  have hcs := And.intro (c1 d) (And.intro (c2 d) True.intro)
  clear c1 c2
  refine Wk ?_
  exact RW (d) (deckBox l j2)
 ·obtain ⟨m, j2, m0, m1, d2, c2⟩ := mask32_ex l j1 d1
  refine ⟨⟨2, m, 0, 0, [], 0⟩, j2, (by simp [predB, maskB]; simp at m1; omega), .mk0 (by omega) (by simp at m1; omega) (by simp), by simp, d2, fun d k => ?_⟩
  simp only [prAV]
  refine Bd Tryd.func84 Tryd.ntmps84 fun σ N hp hpn hk hkn hfree => ?_
  obtain ⟨hd, hdn⟩ := HD0 hp hpn; clear hp hpn
  have hcs := And.intro (c1 d) (And.intro (c2 d) True.intro)
  clear c1 c2
  refine Wk ?_
  exact RW (d) (deckBox l j2)
 ·obtain ⟨m, j2, m0, m1, d2, c2⟩ := mask7_ex l j1 d1
  refine ⟨⟨3, m, 0, 0, [], 0⟩, j2, (by simp [predB, maskB]; simp at m1; omega), .mk0 (by omega) (by simp at m1; omega) (by simp), by simp, d2, fun d k => ?_⟩
  simp only [prAV]
  refine Bd Tryd.func84 Tryd.ntmps84 fun σ N hp hpn hk hkn hfree => ?_
  obtain ⟨hd, hdn⟩ := HD0 hp hpn; clear hp hpn
  have hcs := And.intro (c1 d) (And.intro (c2 d) True.intro)
  clear c1 c2
  refine Wk ?_
  exact RW (d) (deckBox l j2)
 ·obtain ⟨a, j2, a1, d2, c2⟩ := Minute_ex l j1 d1
  obtain ⟨b, j3, b1, d3, c3⟩ := Minute_ex l j2 d2
  obtain ⟨lo, hlo, hlo1⟩ : ∃ lo : Nat, (if b < a then (b : Int) else (a : Int)) = (lo : Int) ∧ lo = min a b := ⟨min a b, by split <;> omega, rfl⟩
  obtain ⟨hi, hhi, hhi1⟩ : ∃ hi : Nat, (if a < b then (b : Int) else (a : Int)) = (hi : Int) ∧ hi = max a b := ⟨max a b, by split <;> omega, rfl⟩
  have hlo2 : ((min a b : Nat) : Int) = lo := by omega
  have hhi2 : ((max a b : Nat) : Int) = hi := by omega
  refine ⟨⟨4, 0, lo, hi, [], 0⟩, j3, (by simp [predB]; omega), .mk0 (by omega) (by omega) (by simp), by simp, d3, fun d k => ?_⟩
  simp only [prAV]
  refine Bd Tryd.func84 Tryd.ntmps84 fun σ N hp hpn hk hkn hfree => ?_
  obtain ⟨hd, hdn⟩ := HD0 hp hpn; clear hp hpn
  have hcs := And.intro (c1 d) (And.intro (c2 d) (And.intro (c3 d) True.intro))
  clear c1 c2 c3
  refine Wk ?_
  exact RW (d) (deckBox l j3)
 ·obtain ⟨a, j2, a1, d2, c2⟩ := Next_at l j1 1440 d1 (by omega) (by omega)
  obtain ⟨b, j3, b1, d3, c3⟩ := Next_at l j2 1440 d2 (by omega) (by omega)
  obtain ⟨c, j4, e1, d4, c4⟩ := Next_at l j3 3 d3 (by omega) (by omega)
  by_cases hc : c = 0
  ·subst hc
   obtain ⟨e, j5, f1, d5, c5⟩ := Next_at l j4 3 d4 (by omega) (by omega)
   obtain ⟨g, hg, hg1⟩ : ∃ g : Nat, ((a : Int) + e + 1440 - 1).tmod 1440 = (g : Int) ∧ g < 1440 := ⟨(a + e + 1440 - 1) % 1440, by rw [Int.tmod_eq_emod_of_nonneg (by omega)]; omega, by omega⟩
   refine ⟨⟨5, 0, a, g, [], 0⟩, j5, (by simp [predB]; omega), .mk0 (by omega) (by omega) (by simp), by simp, d5, fun d k => ?_⟩
   simp only [prAV]
   refine Bd Tryd.func84 Tryd.ntmps84 fun σ N hp hpn hk hkn hfree => ?_
   obtain ⟨hd, hdn⟩ := HD0 hp hpn; clear hp hpn
   have hcs := And.intro (c1 d) (And.intro (c2 d) (And.intro (c3 d) (And.intro (c4 d) (And.intro (c5 d) True.intro))))
   clear c1 c2 c3 c4 c5
   refine Wk ?_
   exact RW (d) (deckBox l j5)
  ·have hcb : ((c : Int) == 0) = false := by rw [beq_eq_false_iff_ne]; omega
   refine ⟨⟨5, 0, a, b, [], 0⟩, j4, (by simp [predB]; omega), .mk0 (by omega) (by omega) (by simp), by simp, d4, fun d k => ?_⟩
   simp only [prAV]
   refine Bd Tryd.func84 Tryd.ntmps84 fun σ N hp hpn hk hkn hfree => ?_
   obtain ⟨hd, hdn⟩ := HD0 hp hpn; clear hp hpn
   have hcs := And.intro (c1 d) (And.intro (c2 d) (And.intro (c3 d) (And.intro (c4 d) True.intro)))
   clear c1 c2 c3 c4
   refine Wk ?_
   exact RW (d) (deckBox l j4)
 ·obtain ⟨n, j2, n0, n1, d2, c2⟩ := Name_ex l j1 d1
  refine ⟨⟨6, 0, 0, 0, n, 0⟩, j2, (by simp [predB, n0]), .mk0 (by omega) (by omega) (by omega), by simp, d2, fun d k => ?_⟩
  simp only [prAV]
  refine Bd Tryd.func84 Tryd.ntmps84 fun σ N hp hpn hk hkn hfree => ?_
  obtain ⟨hd, hdn⟩ := HD0 hp hpn; clear hp hpn
  have hcs := And.intro (c1 d) (And.intro (c2 d) True.intro)
  clear c1 c2
  refine Wk ?_
  exact RW (d) (deckBox l j2)
 ·cases rides with
  | true =>
   obtain ⟨v, j2, v1, d2, c2⟩ := Upto_ex l j1 d1 1000000 (by omega)
   refine ⟨⟨7, 0, 0, 0, [], v⟩, j2, (by simp [predB]; omega), .mk0 (by omega) (by omega) (by simp), by simp, d2, fun d k => ?_⟩
   simp only [prAV]
   refine Bd Tryd.func84 Tryd.ntmps84 fun σ N hp hpn hk hkn hfree => ?_
   obtain ⟨hd, hdn⟩ := HD0 hp hpn; clear hp hpn
   have hcs := And.intro (c1 d) (And.intro (c2 d) True.intro)
   clear c1 c2
   refine Wk ?_
   exact RW (d) (deckBox l j2)
  | false =>
   obtain ⟨a, j2, a1, d2, c2⟩ := Minute_ex l j1 d1
   obtain ⟨b, j3, b1, d3, c3⟩ := Minute_ex l j2 d2
   obtain ⟨lo, hlo, hlo1⟩ : ∃ lo : Nat, (if b < a then (b : Int) else (a : Int)) = (lo : Int) ∧ lo = min a b := ⟨min a b, by split <;> omega, rfl⟩
   obtain ⟨hi, hhi, hhi1⟩ : ∃ hi : Nat, (if a < b then (b : Int) else (a : Int)) = (hi : Int) ∧ hi = max a b := ⟨max a b, by split <;> omega, rfl⟩
   have hlo2 : ((min a b : Nat) : Int) = lo := by omega
   have hhi2 : ((max a b : Nat) : Int) = hi := by omega
   refine ⟨⟨4, 0, lo, hi, [], 0⟩, j3, (by simp [predB]; omega), .mk0 (by omega) (by omega) (by simp), by simp, d3, fun d k => ?_⟩
   simp only [prAV]
   refine Bd Tryd.func84 Tryd.ntmps84 fun σ N hp hpn hk hkn hfree => ?_
   obtain ⟨hd, hdn⟩ := HD0 hp hpn; clear hp hpn
   have hcs := And.intro (c1 d) (And.intro (c2 d) (And.intro (c3 d) True.intro))
   clear c1 c2 c3
   refine Wk ?_
   exact RW (d) (deckBox l j3)
end Go.Proofs.YtdmjpolnbmoehaaDoor

namespace Go.Proofs.YtdmjpolnbmoehaaDoor
open Go.Ab
attribute [local irreducible] Go.Ab.tyAV Go.Ab.aw Go.Ab.aops Go.Ab.kReg Go.Ab.aThen Go.Ab.aBlk Go.Ab.acond Go.Ab.aguard Go.Ab.astep Go.Ab.AStepX Go.Ab.aRet
attribute [local irreducible] shaG
def firC (p : Pr) : Ca := ⟨false, p, 0, [], []⟩
section
variable [W : W32]
end

section
variable [W : W32]
def lookO (a : Alg) (key : Tg) (msg : List UInt8) : Option Tg := if a.free = true then entL key msg a.macs else if 4096 < msg.length then none else some (hmacT key.1 msg)
end
end Go.Proofs.YtdmjpolnbmoehaaDoor

namespace Go.Proofs.YtdmjpolnbmoehaaDoor
open Go.Ab
attribute [local irreducible] Go.Ab.tyAV Go.Ab.aw Go.Ab.aops Go.Ab.kReg Go.Ab.aThen Go.Ab.aBlk Go.Ab.acond Go.Ab.aguard Go.Ab.astep Go.Ab.AStepX Go.Ab.aRet
def RdBox (b : List UInt8) (u e : Nat) : Ent := .box 125 (.agg [.slice none (b.map byteAV), .lit (.int .i64 u), .lit (.int .i64 e)])
@[simp, go_sem] theorem RdBox_ne (b : List UInt8) (u e : Nat) : (RdBox b u e = .none) = False := by simp [RdBox]
@[go_sem] theorem RdBox_ren (b : List UInt8) (u e : Nat) (f : Nat → Option Nat) : (RdBox b u e).ren f = RdBox b u e := by
 simp only [RdBox, ent_ren_box, AV.ren, AV.renl, renl_bytes, Option.bind_none]
def numR (b : List UInt8) (u : Nat) : Nat × Nat × Nat := ((rdS (b.drop u)).1, u + (rdS (b.drop u)).2.1, (rdS (b.drop u)).2.2)
def fldR (b : List UInt8) (u : Nat) : List UInt8 × Nat × Nat := ((rdF (b.drop u)).1, u + (rdF (b.drop u)).2.1, (rdF (b.drop u)).2.2)
theorem numR_le {b : List UInt8} {u : Nat} (h : u ≤ b.length) : (numR b u).2.1 ≤ b.length := by
 have := rdS_le (b.drop u)
 rw [List.length_drop] at this
 unfold numR
 simp only
 omega
def be8 (l : List UInt8) : Nat := l.foldl (fun m x => 256 * m + x.toNat) 0
theorem be8_snoc (l : List UInt8) (x : UInt8) : be8 (l ++ [x]) = 256 * be8 l + x.toNat := by simp [be8]
theorem be8_lt (l : List UInt8) : be8 l < 256 ^ l.length := by
 have key : ∀ (r : List UInt8) (m j : Nat), m < 256 ^ j → r.foldl (fun m x => 256 * m + x.toNat) m < 256 ^ (j + r.length) := by
  intro r
  induction r with
  | nil => intro m j h; simpa using h
  | cons x r ih =>
   intro m j h
   have hx := x.toNat_lt
   have := ih (256 * m + x.toNat) (j + 1) (by rw [Nat.pow_succ]; omega)
   rw [List.foldl_cons, List.length_cons]
   rw [show j + (r.length + 1) = j + 1 + r.length from by omega]
   exact this
 have := key l 0 0 (by simp)
 simpa [be8] using this
theorem be8_take {L : List UInt8} {i : Nat} (h : i < L.length) : be8 (L.take (i + 1)) = 256 * be8 (L.take i) + L[i].toNat := by
 rw [List.take_add_one, List.getElem?_eq_getElem h]
 exact be8_snoc _ _
theorem be8_bound {L : List UInt8} {i : Nat} (h : L.length = 8) (hi : i ≤ 8) : be8 (L.take i) < 18446744073709551616 ∧ (i < 8 → be8 (L.take i) < 72057594037927936) := by
 have h1 := be8_lt (L.take i)
 rw [List.length_take, Nat.min_eq_left (by omega)] at h1
 have h2 : 256 ^ i ≤ 256 ^ 8 := Nat.pow_le_pow_right (by decide) hi
 refine ⟨by omega, fun h3 => ?_⟩
 have h4 : 256 ^ i ≤ 256 ^ 7 := Nat.pow_le_pow_right (by decide) (by omega)
 omega

theorem RFail0 (b : List UInt8) (u : Nat) (e : Int) (d k : Nat) :
  ACall Tryd.prog 104 [.ptr d [] 0, .lit (.int .i64 e)] k [(d, RdBox b u 0)] (.tup []) [(d, .box 125 (.agg [.slice none (b.map byteAV), .lit (.int .i64 u), .lit (.int .i64 e)]))] := by
 simp only [RdBox]
 refine Bd Tryd.func104 Tryd.ntmps104 fun σ N hp hpn hk hkn hfree => ?_
 obtain ⟨hd, hdn⟩ := HD0 hp hpn; clear hp hpn
 refine Wk ?_
 refine go_fall ?_
 exact RW (d) (.box 125 (.agg [.slice none (b.map byteAV), .lit (.int .i64 (u : Int)), .lit (.int .i64 e)]))
theorem RFail1 (b : List UInt8) (u e0 : Nat) (h : e0 ≠ 0) (e : Int) (d k : Nat) :
  ACall Tryd.prog 104 [.ptr d [] 0, .lit (.int .i64 e)] k [(d, RdBox b u e0)] (.tup []) [(d, RdBox b u e0)] := by
 have he' : ((e0 : Int) == 0) = false := by rw [beq_eq_false_iff_ne]; omega
 simp only [RdBox]
 refine Bd Tryd.func104 Tryd.ntmps104 fun σ N hp hpn hk hkn hfree => ?_
 obtain ⟨hd, hdn⟩ := HD0 hp hpn; clear hp hpn
 refine Wk ?_
 refine go_fall ?_
 exact RW (d) (.box 125 (.agg [.slice none (b.map byteAV), .lit (.int .i64 (u : Int)), .lit (.int .i64 (e0 : Int))]))
theorem RNum_spec (b : List UInt8) (u : Nat) (hu : u ≤ b.length) (hb : b.length ≤ 1000000) (d k : Nat) :
  ACall Tryd.prog 69 [.ptr d [] 0] k [(d, RdBox b u 0)] (.lit (.int .i64 (numR b u).1)) [(d, RdBox b (numR b u).2.1 (numR b u).2.2)] := by
 have c1 := refRead_spec (b.drop u) (by rw [List.length_drop]; omega)
 have hl := rdS_le (b.drop u)
 rw [List.length_drop] at hl
 have hd1 : (b.map byteAV).drop u = (b.drop u).map byteAV := by rw [List.map_drop]
 unfold numR
 generalize rdS (b.drop u) = R at *
 obtain ⟨n, q, e⟩ := R
 simp only [rdAV] at *
 generalize b.drop u = t at *
 have c2 := RFail0 b u e d
 simp only [RdBox] at *
 refine Bd Tryd.func69 Tryd.ntmps69 fun σ N hp hpn hk hkn hfree => ?_
 obtain ⟨hd, hdn⟩ := HD0 hp hpn; clear hp hpn
 have hcs := And.intro c1 (And.intro c2 True.intro)
 clear c1 c2
 refine Wk ?_
 exact RW (d) (.box 125 (.agg [.slice none (b.map byteAV), .lit (.int .i64 ((u : Int) + (q : Int))), .lit (.int .i64 (e : Int))]))
theorem RNum_off (b : List UInt8) (u e : Nat) (he : e ≠ 0) (d k : Nat) :
  ACall Tryd.prog 69 [.ptr d [] 0] k [(d, RdBox b u e)] (.lit (.int .i64 0)) [(d, RdBox b u e)] := by
 have he' : ((e : Int) == 0) = false := by rw [beq_eq_false_iff_ne]; omega
 simp only [RdBox]
 refine Bd Tryd.func69 Tryd.ntmps69 fun σ N hp hpn hk hkn hfree => ?_
 obtain ⟨hd, hdn⟩ := HD0 hp hpn; clear hp hpn
 refine Wk ?_
 exact RW (d) (.box 125 (.agg [.slice none (b.map byteAV), .lit (.int .i64 (u : Int)), .lit (.int .i64 (e : Int))]))

def finP (p : Pr) (u : Nat) : Pr × Nat × Nat := if predB p = true then (p, u, 0) else (zeroPr, 0, 5)
def decP (b : List UInt8) : Pr × Nat × Nat :=
 if (numR b 0).2.2 ≠ 0 then (zeroPr, 0, (numR b 0).2.2)
 else if (numR b 0).1 = 1 ∨ (numR b 0).1 = 2 ∨ (numR b 0).1 = 3 then
  if b.length - (numR b 0).2.1 < 8 then (zeroPr, 0, 3) else finP ⟨(numR b 0).1, be8 ((b.drop (numR b 0).2.1).take 8), 0, 0, [], 0⟩ ((numR b 0).2.1 + 8)
 else if (numR b 0).1 = 4 ∨ (numR b 0).1 = 5 then
  if (numR b (numR b 0).2.1).2.2 ≠ 0 then (zeroPr, 0, (numR b (numR b 0).2.1).2.2)
  else if (numR b (numR b (numR b 0).2.1).2.1).2.2 ≠ 0 then (zeroPr, 0, (numR b (numR b (numR b 0).2.1).2.1).2.2)
  else finP ⟨(numR b 0).1, 0, (numR b (numR b 0).2.1).1, (numR b (numR b (numR b 0).2.1).2.1).1, [], 0⟩ (numR b (numR b (numR b 0).2.1).2.1).2.1
 else if (numR b 0).1 = 6 then
  if (fldR b (numR b 0).2.1).2.2 ≠ 0 then (zeroPr, 0, (fldR b (numR b 0).2.1).2.2) else finP ⟨6, 0, 0, 0, (fldR b (numR b 0).2.1).1, 0⟩ (fldR b (numR b 0).2.1).2.1
 else if (numR b 0).1 = 7 then
  if (numR b (numR b 0).2.1).2.2 ≠ 0 then (zeroPr, 0, (numR b (numR b 0).2.1).2.2) else finP ⟨7, 0, 0, 0, [], (numR b (numR b 0).2.1).1⟩ (numR b (numR b 0).2.1).2.1
 else (zeroPr, 0, 6)



def predR (b : List UInt8) (u : Nat) : Pr × Nat × Nat := ((decP (b.drop u)).1, u + (decP (b.drop u)).2.1, (decP (b.drop u)).2.2)
def zeroCa : Ca := ⟨false, zeroPr, 0, [], []⟩
def finC (c : Ca) (u : Nat) : Ca × Nat × Nat := if cavB c = true then (c, u, 0) else (zeroCa, 0, 5)
def fldO (b : List UInt8) (u e : Nat) : List UInt8 × Nat × Nat := if e ≠ 0 then ([], u, e) else fldR b u
def decC (b : List UInt8) : Ca × Nat × Nat :=
 if (numR b 0).2.2 ≠ 0 then (zeroCa, 0, (numR b 0).2.2)
 else if (numR b 0).1 = 1 then
  if (predR b (numR b 0).2.1).2.2 ≠ 0 then (zeroCa, 0, (predR b (numR b 0).2.1).2.2) else finC ⟨false, (predR b (numR b 0).2.1).1, 0, [], []⟩ (predR b (numR b 0).2.1).2.1
 else if (numR b 0).1 = 2 then
  let n := numR b (numR b 0).2.1
  let t := fldO b n.2.1 n.2.2
  let x := fldO b t.2.1 t.2.2
  if x.2.2 ≠ 0 then (zeroCa, 0, x.2.2) else finC ⟨true, zeroPr, n.1, t.1, x.1⟩ x.2.1
 else (zeroCa, 0, 6)



theorem Bytes_row (l : List Int) (i n : Nat) (h : Dk l i) (hn : n ≤ 100000) (d k : Nat) :
  ACall Tryd.prog 39 [.ptr d [] 0, .lit (.int .i64 n)] k [(d, deckBox l i)] (.slice (some k) ((bytesD l i n).1.map byteAV)) [(d, deckBox l (bytesD l i n).2), (k, .row 5 1 (bytesD l i n).1.length)] := by
 have c1 := Next_spec l i (n + 1) h (by omega) (by omega)
 have d1 := nextD_dk (n + 1) h
 have b1 := nextD_lt l i (n + 1) (by omega)
 have hn1 : ((n + 1 : Nat) : Int) = (n : Int) + 1 := by omega
 unfold bytesD
 rw [hn1] at c1
 generalize nextD l i (n + 1) = X at *
 obtain ⟨K, j⟩ := X
 simp only at c1 d1 b1 ⊢
 clear h hn1
 have hcs := And.intro (c1 d) True.intro
 generalize hR : bytesK l K j = R
 obtain ⟨R1, R2⟩ := R
 simp only
 refine Bd Tryd.func39 Tryd.ntmps39 fun σ N hp hpn hk hkn hfree => ?_
 obtain ⟨hd, hdn⟩ := HD0 hp hpn; clear hp hpn
 clear c1
 refine Wk ?_
 refine ALoop.nilrow 5 5 1 (by simp (disch := omega) [go_sem, *, -List.reduceReplicate]) ?_
 refine go_loopB (N) mixed (by kernel_rfl) [5, 6, 11, 12, 13, 14, 15, 16, 17, 18, 19, 20] [d] (fun m_ s_ σ_ n_ => ∃ (f : Nat) (j' : Nat) (r : Nat) (acc : List UInt8), m_ = f ∧ s_ 6 = .lit (.int .i64 f) ∧ s_ 5 = .slice (some r) (acc.map byteAV) ∧ σ_ (d) = deckBox l j' ∧ σ_ (r) = .row 5 1 acc.length ∧ (N ≤ r) ∧ (r < n_) ∧ (f + acc.length ≤ 100000) ∧ (Dk l j') ∧ ((acc ++ (bytesK l f j').1, (bytesK l f j').2) = (R1, R2))) ⟨_, K, j, _, [], rfl, WF, WF, WF, WF, WC, WC, WC, WC, WC⟩ ?_
 intro m_1 s_1 σ_1 n_1 hs_1 hf_1 hn_1 hI_1
 obtain ⟨f, j', r, acc, hm_1, h1_6, h1_5, e1_0, e1_1, hNr, hrn, hfl, hdj, hacc⟩ := hI_1
 have h1_0 := KS hs_1 0
 have h1_4 := KS hs_1 4
 have hlow := KD (N := N) (d := d) (σ := σ) hf_1
 have hne : ¬ r = d := by omega
 have hne2 : ¬ d = r := by omega
 cases f with
 | zero =>
  simp only [bytesK, List.append_nil, Prod.mk.injEq] at hacc
  obtain ⟨rfl, rfl⟩ := hacc
  refine Wk ?_
  refine go_result1W (_E := .none) (r0 := r) [(d, deckBox l j')] (by simp (disch := omega) [go_sem, *, -List.reduceReplicate]; rfl) (by omega) (by simp (disch := omega) [go_sem]; try rfl) (fun id hid => by simp only [wr_cons, wr_nil]; try (by_cases hdd : id = d; (· (subst hdd; simp (disch := omega) [go_sem, *])); (· (simp (disch := omega) only [upd_ne]; try (first | exact hlow id hid hdd | exact hlow id hid))))) (by simp) (by simp (disch := omega) [go_sem, *, -List.reduceReplicate]; rfl) (by simp (disch := omega) [go_sem, *])
 | succ f =>
  have c1 := Next_spec l j' 256 hdj (by omega) (by omega)
  have d1 := nextD_dk 256 hdj
  have b1 := nextD_lt l j' 256 (by omega)
  rw [bytesK] at hacc
  generalize nextD l j' 256 = X at *
  obtain ⟨x, j2⟩ := X
  simp only at c1 d1 b1 hacc
  have hw : IntKind.u8.wrap (x : Int) = x := by rw [IntKind.wrap_u8]; omega
  have hbx : AV.lit (.int .u8 (x : Int)) = byteAV (UInt8.ofNat x) := by simp [byteAV, Nat.mod_eq_of_lt b1]
  have hcs := And.intro (c1 d) True.intro
  clear c1 hdj
  refine Wk ?_
  exact ⟨WS, WG, WN, _, (show (f) < m_1 by omega), f, j2, r, acc ++ [UInt8.ofNat x], rfl, WF, WF, WF, WF, WC, WC, WC, WC, WC⟩
theorem Bytes_ex (l : List Int) (i n : Nat) (h : Dk l i) (hn : n ≤ 100000) : ∃ (b : List UInt8) (j : Nat), b.length ≤ n ∧ Dk l j ∧ ∀ d k, ACall Tryd.prog 39 [.ptr d [] 0, .lit (.int .i64 n)] k [(d, deckBox l i)] (.slice (some k) (b.map byteAV)) [(d, deckBox l j), (k, .row 5 1 b.length)] :=
 ⟨_, _, bytesD_len l i n, bytesD_dk n h, fun d k => Bytes_row l i n h hn d k⟩
end Go.Proofs.YtdmjpolnbmoehaaDoor
