/- Texts X7, X8, W1, X9, W12, D9p, X16, X21, U9, M9p, O0, O4, joined. -/
import Derived.Test.YtdmjpolnbmoehaaGreatDoorME2

namespace Go.Proofs.YtdmjpolnbmoehaaGreatDoor
open Go.Ab
attribute [local irreducible] Go.Ab.tyAV Go.Ab.aw Go.Ab.aops Go.Ab.kReg Go.Ab.aThen Go.Ab.aBlk Go.Ab.acond Go.Ab.aguard Go.Ab.astep Go.Ab.AStepX Go.Ab.aRet
attribute [local irreducible] shaG
theorem Wst {p q : Prop} (h : q) (h2 : Later q → p := by intro hq; (repeat (first | (apply go_mut; (· assumption); · (simp (disch := omega) [go_sem, *, -List.reduceReplicate]; first | exact ⟨rfl, rfl⟩ | (simp [go_sem, *]; exact ⟨rfl, rfl⟩))) | (apply go_mutP; (· assumption); · (simp (disch := omega) [go_sem, *, -List.reduceReplicate]; try first | rfl | exact ⟨rfl, rfl⟩ | exact ⟨rfl, rfl, rfl⟩)) | (apply go_guard_in; (· rfl); · (simp (disch := omega) [go_sem, *, -List.reduceReplicate]; try first | rfl | omega)) | (apply go_guard_off; (· rfl); · (simp (disch := omega) [go_sem, *, -List.reduceReplicate]; try first | rfl | omega)) | (apply go_guard_no; (· rfl); · (simp (disch := omega) [go_sem, *, -List.reduceReplicate]; try rfl)) | ((first | apply go_move | apply go_assign | apply go_load | apply go_store | apply go_append | apply go_copy | apply go_copy0 | apply go_clear0 | apply go_slice3 | apply go_indexA); · (simp (disch := omega) [go_sem, *, -List.reduceReplicate]; try first | rfl | exact ⟨rfl, rfl⟩ | exact ⟨rfl, rfl, rfl⟩)) | ((first | apply go_loadv | apply go_append0 | apply go_beyond); · (simp (disch := omega) [go_sem, *, -List.reduceReplicate]; try first | rfl | exact ⟨rfl, rfl⟩ | exact ⟨rfl, rfl, rfl⟩)) | (apply go_appself; · (simp (disch := omega) [go_sem, *, -List.reduceReplicate]; try first | rfl | exact ⟨rfl, rfl⟩ | exact ⟨rfl, rfl, rfl⟩)) | ((first | (apply go_appendz; · rfl) | (apply go_new; · rfl) | (apply go_pure; · rfl)); · (simp (disch := omega) [go_sem, *, -List.reduceReplicate]; try first | rfl | exact ⟨rfl, rfl⟩ | exact ⟨rfl, rfl, rfl⟩)) | ((apply go_glob; · assumption); · (simp (disch := omega) [go_sem, *, -List.reduceReplicate]; try first | rfl | exact ⟨rfl, rfl⟩ | exact ⟨rfl, rfl, rfl⟩)) | (apply go_read1; (· rfl); · (simp (disch := omega) [go_sem, *, -List.reduceReplicate]; try first | rfl | exact ⟨rfl, rfl⟩ | exact ⟨rfl, rfl, rfl⟩)) | (apply go_rw1; (· rfl); · (simp (disch := omega) [go_sem, *, -List.reduceReplicate]; try first | rfl | exact ⟨rfl, rfl⟩ | exact ⟨rfl, rfl, rfl⟩)) | (apply go_new1; (· rfl); · (simp (disch := omega) [go_sem, *, -List.reduceReplicate]; try first | rfl | exact ⟨rfl, rfl⟩ | exact ⟨rfl, rfl, rfl⟩)) | (apply go_conv; · (simp (disch := omega) [go_sem, *, -List.reduceReplicate]; try first | rfl | exact ⟨rfl, rfl⟩ | exact ⟨rfl, rfl, rfl⟩)) | ((first | (apply go_new; · rfl) | (apply go_pure; · rfl)); · (simp (disch := omega) [go_sem, *, -List.reduceReplicate]; simp [go_sem, *]; try first | rfl | exact ⟨rfl, rfl⟩)))); exact hq.out) : p := h2 ⟨h⟩
theorem Wgs {p q : Prop} (h : q) (h2 : Later q → p := by intro hq; (repeat (first | apply go_nil | apply go_kreg | (apply go_mut; (· assumption); · (simp (disch := omega) [go_sem, *, -List.reduceReplicate]; first | exact ⟨rfl, rfl⟩ | (simp [go_sem, *]; exact ⟨rfl, rfl⟩))) | (apply go_mutP; (· assumption); · (simp (disch := omega) [go_sem, *, -List.reduceReplicate]; try first | rfl | exact ⟨rfl, rfl⟩ | exact ⟨rfl, rfl, rfl⟩)) | (apply go_guard_in; (· rfl); · (simp (disch := omega) [go_sem, *, -List.reduceReplicate]; try first | rfl | omega)) | (apply go_guard_off; (· rfl); · (simp (disch := omega) [go_sem, *, -List.reduceReplicate]; try first | rfl | omega)) | (apply go_guard_no; (· rfl); · (simp (disch := omega) [go_sem, *, -List.reduceReplicate]; try rfl)) | ((first | apply go_move | apply go_assign | apply go_load | apply go_store | apply go_append | apply go_copy | apply go_copy0 | apply go_clear0 | apply go_slice3 | apply go_indexA); · (simp (disch := omega) [go_sem, *, -List.reduceReplicate]; try first | rfl | exact ⟨rfl, rfl⟩ | exact ⟨rfl, rfl, rfl⟩)) | ((first | apply go_loadv | apply go_append0 | apply go_beyond); · (simp (disch := omega) [go_sem, *, -List.reduceReplicate]; try first | rfl | exact ⟨rfl, rfl⟩ | exact ⟨rfl, rfl, rfl⟩)) | (apply go_appself; · (simp (disch := omega) [go_sem, *, -List.reduceReplicate]; try first | rfl | exact ⟨rfl, rfl⟩ | exact ⟨rfl, rfl, rfl⟩)) | ((first | (apply go_appendz; · rfl) | (apply go_new; · rfl) | (apply go_pure; · rfl)); · (simp (disch := omega) [go_sem, *, -List.reduceReplicate]; try first | rfl | exact ⟨rfl, rfl⟩ | exact ⟨rfl, rfl, rfl⟩)) | ((apply go_glob; · assumption); · (simp (disch := omega) [go_sem, *, -List.reduceReplicate]; try first | rfl | exact ⟨rfl, rfl⟩ | exact ⟨rfl, rfl, rfl⟩)) | (apply go_read1; (· rfl); · (simp (disch := omega) [go_sem, *, -List.reduceReplicate]; try first | rfl | exact ⟨rfl, rfl⟩ | exact ⟨rfl, rfl, rfl⟩)) | (apply go_rw1; (· rfl); · (simp (disch := omega) [go_sem, *, -List.reduceReplicate]; try first | rfl | exact ⟨rfl, rfl⟩ | exact ⟨rfl, rfl, rfl⟩)) | (apply go_new1; (· rfl); · (simp (disch := omega) [go_sem, *, -List.reduceReplicate]; try first | rfl | exact ⟨rfl, rfl⟩ | exact ⟨rfl, rfl, rfl⟩)) | (apply go_conv; · (simp (disch := omega) [go_sem, *, -List.reduceReplicate]; try first | rfl | exact ⟨rfl, rfl⟩ | exact ⟨rfl, rfl, rfl⟩)) | ((first | (apply go_new; · rfl) | (apply go_pure; · rfl)); · (simp (disch := omega) [go_sem, *, -List.reduceReplicate]; simp [go_sem, *]; try first | rfl | exact ⟨rfl, rfl⟩)))); exact hq.out) : p := h2 ⟨h⟩
theorem Wpp {p q : Prop} (h : q) (h2 : Later q → p := by intro hq; (repeat (first | apply goP_seq | apply goP_block | apply goP_scope | apply goP_skip | apply goP_ret | (apply goP_region; · (simp only [List.length_cons, List.length_nil, Nat.reduceAdd, Nat.add_assoc]; rfl)) | apply go_nil | apply go_kreg | apply go_kreg0 | apply go_kreg1 | (apply go_kregT; · (first | (simp [addT, CF, CFy, Ind, DisjF]; done) | (simp only [addT, CF, CFy, Ind]; repeat' (first | exact trivial | apply And.intro | exact Or.inl (by decide +kernel) | (refine Or.inr ⟨?_, ?_⟩ <;> (simp; try omega)))))) | apply go_then | apply go_then_exit | apply go_then_ret | apply go_blk | apply go_blk_ret | apply go_blk_here | (apply go_blk_there; · rfl) | (apply go_ifNilT; (· (kernel_rfl)); (· (simp (disch := omega) [go_sem, *, -List.reduceReplicate]; first | done | rfl))) | (apply go_ifNilF; (· (kernel_rfl)); (· (first | rfl | (simp (disch := omega) [go_sem, *, -List.reduceReplicate]; first | done | rfl | exact ⟨rfl, rfl⟩)))) | (apply go_mut; (· assumption); · (simp (disch := omega) [go_sem, *, -List.reduceReplicate]; first | exact ⟨rfl, rfl⟩ | (simp [go_sem, *]; exact ⟨rfl, rfl⟩))) | (apply go_mutP; (· assumption); · (simp (disch := omega) [go_sem, *, -List.reduceReplicate]; try first | rfl | exact ⟨rfl, rfl⟩ | exact ⟨rfl, rfl, rfl⟩)) | (apply go_guard_in; (· rfl); · (simp (disch := omega) [go_sem, *, -List.reduceReplicate]; try first | rfl | omega)) | (apply go_guard_off; (· rfl); · (simp (disch := omega) [go_sem, *, -List.reduceReplicate]; try first | rfl | omega)) | (apply go_guard_no; (· rfl); · (simp (disch := omega) [go_sem, *, -List.reduceReplicate]; try rfl)) | ((first | apply go_move | apply go_assign | apply go_load | apply go_store | apply go_append | apply go_copy | apply go_copy0 | apply go_clear0 | apply go_slice3 | apply go_indexA); · (simp (disch := omega) [go_sem, *, -List.reduceReplicate]; try first | rfl | exact ⟨rfl, rfl⟩ | exact ⟨rfl, rfl, rfl⟩)) | ((first | apply go_loadv | apply go_append0 | apply go_beyond); · (simp (disch := omega) [go_sem, *, -List.reduceReplicate]; try first | rfl | exact ⟨rfl, rfl⟩ | exact ⟨rfl, rfl, rfl⟩)) | (apply go_appself; · (simp (disch := omega) [go_sem, *, -List.reduceReplicate]; try first | rfl | exact ⟨rfl, rfl⟩ | exact ⟨rfl, rfl, rfl⟩)) | ((first | (apply go_appendz; · rfl) | (apply go_new; · rfl) | (apply go_pure; · rfl)); · (simp (disch := omega) [go_sem, *, -List.reduceReplicate]; try first | rfl | exact ⟨rfl, rfl⟩ | exact ⟨rfl, rfl, rfl⟩)) | ((apply go_glob; · assumption); · (simp (disch := omega) [go_sem, *, -List.reduceReplicate]; try first | rfl | exact ⟨rfl, rfl⟩ | exact ⟨rfl, rfl, rfl⟩)) | (apply go_read1; (· rfl); · (simp (disch := omega) [go_sem, *, -List.reduceReplicate]; try first | rfl | exact ⟨rfl, rfl⟩ | exact ⟨rfl, rfl, rfl⟩)) | (apply go_rw1; (· rfl); · (simp (disch := omega) [go_sem, *, -List.reduceReplicate]; try first | rfl | exact ⟨rfl, rfl⟩ | exact ⟨rfl, rfl, rfl⟩)) | (apply go_new1; (· rfl); · (simp (disch := omega) [go_sem, *, -List.reduceReplicate]; try first | rfl | exact ⟨rfl, rfl⟩ | exact ⟨rfl, rfl, rfl⟩)) | (apply go_conv; · (simp (disch := omega) [go_sem, *, -List.reduceReplicate]; try first | rfl | exact ⟨rfl, rfl⟩ | exact ⟨rfl, rfl, rfl⟩)) | ((first | (apply go_new; · rfl) | (apply go_pure; · rfl)); · (simp (disch := omega) [go_sem, *, -List.reduceReplicate]; simp [go_sem, *]; try first | rfl | exact ⟨rfl, rfl⟩)) | (apply goP_condT; · (simp (disch := omega) [go_sem, *, -List.reduceReplicate]; try first | rfl | omega; done)) | (apply goP_condF; · (simp (disch := omega) [go_sem, *, -List.reduceReplicate]; try first | rfl | omega; done)) | (obtain ⟨hcall, hcs⟩ := hcs; (first | refine go_callw (hcall _) (by simp (disch := omega) [go_sem, *, -List.reduceReplicate]; try rfl) (by simp (disch := omega) [go_sem, *, -List.reduceReplicate]; repeat' first | exact ALe.nil | exact AV.le_refl _ | exact AV.le_nils | exact AV.le_own _ _ | apply ALe.cons | apply AV.sub_agg) (by simp (disch := omega) [go_sem, *, -List.reduceReplicate]) ?_ | refine go_yieldw (hcall _) (by simp (disch := omega) [go_sem, *, -List.reduceReplicate]; try rfl) (by simp (disch := omega) [go_sem, *, -List.reduceReplicate]; repeat' first | exact ALe.nil | exact AV.le_refl _ | exact AV.le_nils | exact AV.le_own _ _ | apply ALe.cons | apply AV.sub_agg) (by simp (disch := omega) [go_sem, *, -List.reduceReplicate]) ?_); clear hcall))); exact hq.out) : p := h2 ⟨h⟩
theorem Wpm {p q : Prop} (h : q) (h2 : Later q → p := by intro hq; (repeat (first | apply goP_seq | apply goP_block | apply goP_scope | apply goP_skip | apply goP_ret | apply go_nil | apply go_kreg | apply go_kreg0 | apply go_kreg1 | (apply go_kregT; · (first | (simp [addT, CF, CFy, Ind, DisjF]; done) | (simp only [addT, CF, CFy, Ind]; repeat' (first | exact trivial | apply And.intro | exact Or.inl (by decide +kernel) | (refine Or.inr ⟨?_, ?_⟩ <;> (simp; try omega)))))) | apply go_then | apply go_then_exit | apply go_then_ret | apply go_blk | apply go_blk_ret | apply go_blk_here | (apply go_blk_there; · rfl) | (apply go_mut; (· assumption); · (simp (disch := omega) [go_sem, *, -List.reduceReplicate]; first | exact ⟨rfl, rfl⟩ | (simp [go_sem, *]; exact ⟨rfl, rfl⟩))) | (apply go_mutP; (· assumption); · (simp (disch := omega) [go_sem, *, -List.reduceReplicate]; try first | rfl | exact ⟨rfl, rfl⟩ | exact ⟨rfl, rfl, rfl⟩)) | (apply go_guard_in; (· rfl); · (simp (disch := omega) [go_sem, *, -List.reduceReplicate]; try first | rfl | omega)) | (apply go_guard_off; (· rfl); · (simp (disch := omega) [go_sem, *, -List.reduceReplicate]; try first | rfl | omega)) | (apply go_guard_no; (· rfl); · (simp (disch := omega) [go_sem, *, -List.reduceReplicate]; try rfl)) | ((first | apply go_move | apply go_assign | apply go_load | apply go_store | apply go_append | apply go_copy | apply go_copy0 | apply go_clear0 | apply go_slice3 | apply go_indexA); · (simp (disch := omega) [go_sem, *, -List.reduceReplicate]; try first | rfl | exact ⟨rfl, rfl⟩ | exact ⟨rfl, rfl, rfl⟩)) | ((first | apply go_loadv | apply go_append0 | apply go_beyond); · (simp (disch := omega) [go_sem, *, -List.reduceReplicate]; try first | rfl | exact ⟨rfl, rfl⟩ | exact ⟨rfl, rfl, rfl⟩)) | (apply go_appself; · (simp (disch := omega) [go_sem, *, -List.reduceReplicate]; try first | rfl | exact ⟨rfl, rfl⟩ | exact ⟨rfl, rfl, rfl⟩)) | ((first | (apply go_appendz; · rfl) | (apply go_new; · rfl) | (apply go_pure; · rfl)); · (simp (disch := omega) [go_sem, *, -List.reduceReplicate]; try first | rfl | exact ⟨rfl, rfl⟩ | exact ⟨rfl, rfl, rfl⟩)) | ((apply go_glob; · assumption); · (simp (disch := omega) [go_sem, *, -List.reduceReplicate]; try first | rfl | exact ⟨rfl, rfl⟩ | exact ⟨rfl, rfl, rfl⟩)) | (apply go_read1; (· rfl); · (simp (disch := omega) [go_sem, *, -List.reduceReplicate]; try first | rfl | exact ⟨rfl, rfl⟩ | exact ⟨rfl, rfl, rfl⟩)) | (apply go_rw1; (· rfl); · (simp (disch := omega) [go_sem, *, -List.reduceReplicate]; try first | rfl | exact ⟨rfl, rfl⟩ | exact ⟨rfl, rfl, rfl⟩)) | (apply go_new1; (· rfl); · (simp (disch := omega) [go_sem, *, -List.reduceReplicate]; try first | rfl | exact ⟨rfl, rfl⟩ | exact ⟨rfl, rfl, rfl⟩)) | (apply go_conv; · (simp (disch := omega) [go_sem, *, -List.reduceReplicate]; try first | rfl | exact ⟨rfl, rfl⟩ | exact ⟨rfl, rfl, rfl⟩)) | ((first | (apply go_new; · rfl) | (apply go_pure; · rfl)); · (simp (disch := omega) [go_sem, *, -List.reduceReplicate]; simp [go_sem, *]; try first | rfl | exact ⟨rfl, rfl⟩)) | (apply goP_condT; · (simp (disch := omega) [go_sem, *, -List.reduceReplicate]; try first | rfl | omega; done)) | (apply goP_condF; · (simp (disch := omega) [go_sem, *, -List.reduceReplicate]; try first | rfl | omega; done)) | (first | (apply go_yieldw (hcs.1 _); (focus (simp (disch := omega) [go_sem, *, -List.reduceReplicate]; (try rfl); done)); (focus (simp (disch := omega) [go_sem, *, -List.reduceReplicate]; (repeat' first | exact ALe.nil | exact AV.le_refl _ | exact AV.le_nils | exact AV.le_own _ _ | apply ALe.cons | apply AV.sub_agg); done)); (focus (simp (disch := omega) [go_sem, *, -List.reduceReplicate]; done)); have hcs := hcs.2) | (first | (apply go_callw (hcs.1 _); (focus (simp (disch := omega) [go_sem, *, -List.reduceReplicate]; (try rfl); done)); (focus (simp (disch := omega) [go_sem, *, -List.reduceReplicate]; (repeat' first | exact ALe.nil | exact AV.le_refl _ | exact AV.le_nils | exact AV.le_own _ _ | apply ALe.cons | apply AV.sub_agg); done)); (focus (simp (disch := omega) [go_sem, *, -List.reduceReplicate]; done)); have hcs := hcs.2) | (have hcs := hcs.2; (first | (apply go_callw (hcs.1 _); (focus (simp (disch := omega) [go_sem, *, -List.reduceReplicate]; (try rfl); done)); (focus (simp (disch := omega) [go_sem, *, -List.reduceReplicate]; (repeat' first | exact ALe.nil | exact AV.le_refl _ | exact AV.le_nils | exact AV.le_own _ _ | apply ALe.cons | apply AV.sub_agg); done)); (focus (simp (disch := omega) [go_sem, *, -List.reduceReplicate]; done)); have hcs := hcs.2) | (have hcs := hcs.2; (first | (apply go_callw (hcs.1 _); (focus (simp (disch := omega) [go_sem, *, -List.reduceReplicate]; (try rfl); done)); (focus (simp (disch := omega) [go_sem, *, -List.reduceReplicate]; (repeat' first | exact ALe.nil | exact AV.le_refl _ | exact AV.le_nils | exact AV.le_own _ _ | apply ALe.cons | apply AV.sub_agg); done)); (focus (simp (disch := omega) [go_sem, *, -List.reduceReplicate]; done)); have hcs := hcs.2) | (have hcs := hcs.2; (first | (apply go_callw (hcs.1 _); (focus (simp (disch := omega) [go_sem, *, -List.reduceReplicate]; (try rfl); done)); (focus (simp (disch := omega) [go_sem, *, -List.reduceReplicate]; (repeat' first | exact ALe.nil | exact AV.le_refl _ | exact AV.le_nils | exact AV.le_own _ _ | apply ALe.cons | apply AV.sub_agg); done)); (focus (simp (disch := omega) [go_sem, *, -List.reduceReplicate]; done)); have hcs := hcs.2) | (have hcs := hcs.2; (first | (apply go_callw (hcs.1 _); (focus (simp (disch := omega) [go_sem, *, -List.reduceReplicate]; (try rfl); done)); (focus (simp (disch := omega) [go_sem, *, -List.reduceReplicate]; (repeat' first | exact ALe.nil | exact AV.le_refl _ | exact AV.le_nils | exact AV.le_own _ _ | apply ALe.cons | apply AV.sub_agg); done)); (focus (simp (disch := omega) [go_sem, *, -List.reduceReplicate]; done)); have hcs := hcs.2) | (have hcs := hcs.2; (first | (apply go_callw (hcs.1 _); (focus (simp (disch := omega) [go_sem, *, -List.reduceReplicate]; (try rfl); done)); (focus (simp (disch := omega) [go_sem, *, -List.reduceReplicate]; (repeat' first | exact ALe.nil | exact AV.le_refl _ | exact AV.le_nils | exact AV.le_own _ _ | apply ALe.cons | apply AV.sub_agg); done)); (focus (simp (disch := omega) [go_sem, *, -List.reduceReplicate]; done)); have hcs := hcs.2) | (have hcs := hcs.2; (first | (apply go_callw (hcs.1 _); (focus (simp (disch := omega) [go_sem, *, -List.reduceReplicate]; (try rfl); done)); (focus (simp (disch := omega) [go_sem, *, -List.reduceReplicate]; (repeat' first | exact ALe.nil | exact AV.le_refl _ | exact AV.le_nils | exact AV.le_own _ _ | apply ALe.cons | apply AV.sub_agg); done)); (focus (simp (disch := omega) [go_sem, *, -List.reduceReplicate]; done)); have hcs := hcs.2) | (have hcs := hcs.2; (apply go_callw (hcs.1 _); (focus (simp (disch := omega) [go_sem, *, -List.reduceReplicate]; (try rfl); done)); (focus (simp (disch := omega) [go_sem, *, -List.reduceReplicate]; (repeat' first | exact ALe.nil | exact AV.le_refl _ | exact AV.le_nils | exact AV.le_own _ _ | apply ALe.cons | apply AV.sub_agg); done)); (focus (simp (disch := omega) [go_sem, *, -List.reduceReplicate]; done)); have hcs := hcs.2)))))))))))))))))); exact hq.out) : p := h2 ⟨h⟩
theorem Wpo {p q : Prop} (h : q) (h2 : Later q → p := by intro hq; (apply goP_region; · (simp only [List.length_cons, List.length_nil, Nat.reduceAdd, Nat.add_assoc]; rfl)); refine Wpm ?_; exact hq.out) : p := h2 ⟨h⟩
theorem pTerms_spec (t : Te) (k : Nat) : ACall Tryz.prog 135 [teAV t] k [] (.lit (.bool (teB t))) [] := by
 obtain ⟨x, y⟩ := t
 unfold teAV
 by_cases h1 : 0 ≤ x
 ·by_cases h2 : x ≤ y
  ·by_cases h3 : y ≤ 150
   ·have hr : teB ⟨x, y⟩ = true := by simp [teB, *]
    rw [hr]
    refine Bd Tryz.func135 Tryz.ntmps135 fun σ N hp hpn hk hkn hfree => ?_
    exact W0
   ·have hr : teB ⟨x, y⟩ = false := by simp [teB, *]
    rw [hr]
    refine Bd Tryz.func135 Tryz.ntmps135 fun σ N hp hpn hk hkn hfree => ?_
    exact W0
  ·have hr : teB ⟨x, y⟩ = false := by simp [teB, *]
   rw [hr]
   refine Bd Tryz.func135 Tryz.ntmps135 fun σ N hp hpn hk hkn hfree => ?_
   exact W0
 ·have hr : teB ⟨x, y⟩ = false := by simp [teB, *]
  rw [hr]
  refine Bd Tryz.func135 Tryz.ntmps135 fun σ N hp hpn hk hkn hfree => ?_
  exact W0
theorem number_ok (b : List UInt8) (hb : b.length ≤ 100000) (n u : Nat) (h : rdS b = (n, u, 0)) (k : Nat) :
  ACall Tryz.prog 210 [.slice none (b.map byteAV)] k [] (.tup [.lit (.int .i64 n), .slice none ((b.drop u).map byteAV)]) [] := by
 have c1 := Read_spec b (by omega)
 have hu := rdS_le b
 rw [h] at c1 hu
 unfold rdAV at c1
 simp only at c1 hu
 have hD : (b.map byteAV).drop u = (b.drop u).map byteAV := by rw [List.map_drop]
 obtain ⟨y, hy⟩ : ∃ y, b.drop u = y := ⟨_, rfl⟩
 rw [hy] at hD ⊢
 clear h hy
 refine Bd Tryz.func210 Tryz.ntmps210 fun σ N hp hpn hk hkn hfree => ?_
 have hcs := And.intro c1 True.intro
 clear c1
 exact W0
def malE (r : Bool) : List PanicEntry := [{ v := .iface 248 (.agg #[]), recovered := r }]
theorem number_bad (b : List UInt8) (hb : b.length ≤ 100000) (h : (rdS b).2.2 ≠ 0) (k : Nat) :
  APanic Tryz.prog 210 [.slice none (b.map byteAV)] k (malE false) := by
 have c1 := Read_spec b (by omega)
 unfold rdAV at c1
 generalize rdS b = X at *
 obtain ⟨n, u, e⟩ := X
 simp only at c1 h
 have hei : ((e : Int) != 0) = true := by simp; omega
 refine APanic.of_body mixed Tryz.func210 rfl (by kernel_rfl) Tryz.ntmps210 (by kernel_rfl) (by simp) fun σ N hk hkn hfree => ?_
 have hcs := And.intro c1 True.intro
 clear c1
 refine Wpm ?_
 iterate 3 (refine Wpo ?_)
 refine goP_panic (T := 248) (l1 := [_, _]) (l2 := []) rfl ?_
 refine Wst ?_
 apply go_nil
 refine ⟨by simp (disch := omega) [go_sem, *, -List.reduceReplicate], rfl, fun id hid => ?_⟩
 simp (disch := omega) only [wr_nil]
theorem read1_ret (i j q : Nat) : ADef Tryz.prog 209 [.ptr i [] 0, .ptr j [] 0, .ptr q [] 0] .returning .returning [] [] := by
 refine ADef.of_recover (.lit .nilIface) mixed Tryz.func209 rfl (by kernel_rfl) Tryz.ntmps209 (by kernel_rfl) (by decide) rfl (by simp) (by simp) (.inl ⟨rfl, rfl, rfl⟩) fun σ N hp hpn hfree => ?_
 refine Wpp ?_
 refine ⟨trivial, fun id hid => ?_⟩
 simp (disch := omega) only [wr_nil]
theorem read1_mal (T1 : Tg) (t1 : Te) (z1 : Int) (i j q : Nat) (hij : i ≠ j) (hiq : i ≠ q) (hjq : j ≠ q) : ADef Tryz.prog 209 [.ptr i [] 0, .ptr j [] 0, .ptr q [] 0] (.panicking (malE false)) (.panicking (malE true))
  [(i, .box 29 (tagAV T1)), (j, .box 104 (teAV t1)), (q, .box 57 (.lit (.int .i64 z1)))] [(i, .box 29 (tagAV zeroTag)), (j, .box 104 (teAV te0)), (q, .box 57 (.lit (.int .i64 5)))] := by
 obtain ⟨ta, tb⟩ := t1
 unfold teAV
 simp only [te0]
 refine ADef.of_recover (.iface 248 (.agg [])) mixed Tryz.func209 rfl (by kernel_rfl) Tryz.ntmps209 (by kernel_rfl) (by decide) rfl (by simp) (by simp) (.inr ⟨_, rfl, rfl, rfl⟩) fun σ N hp hpn hfree => ?_
 simp only [List.mem_cons, List.not_mem_nil, or_false, forall_eq_or_imp, forall_eq] at hp hpn; obtain ⟨hd1, hd2, hd3⟩ := hp; obtain ⟨hdn1, hdn2, hdn3⟩ := hpn
 refine Wpp ?_
 refine ⟨trivial, fun id hid => ?_⟩
 simp only [wr_cons, wr_nil]
 by_cases h1 : id = q
 ·subst h1; simp (disch := omega) only [upd_same]
 by_cases h2 : id = j
 ·subst h2; simp (disch := omega) only [upd_same, upd_ne]
 by_cases h3 : id = i
 ·subst h3; simp (disch := omega) only [upd_same, upd_ne]
 simp (disch := omega) only [upd_ne]
theorem read_short (b : List UInt8) (hb : b.length ≤ 100000) (h : ¬ 32 ≤ b.length) (k : Nat) :
  ACall Tryz.prog 180 [.slice none (b.map byteAV)] k [] (.tup [tagAV zeroTag, teAV te0, .lit (.int .i64 5)]) [] := by
 have hi : (b.length : Int) < 32 := by omega
 refine ACall.of_bodyD (l := [_]) mixed Tryz.func180 rfl (by kernel_rfl) Tryz.ntmps180 (by kernel_rfl) (by kernel_rfl) rfl (by kernel_rfl) rfl (by simp) (by simp) (by simp) fun σ N hp hpn hk hkn hfree => ?_
 (apply goP_region; (· (simp only [List.length_cons, List.length_nil, Nat.reduceAdd]; rfl)))
 refine Wgs ?_
 refine ⟨rfl, ?_⟩
 refine Wst ?_
 apply go_nil
 refine ⟨_, _, rfl, ?_⟩
 refine Wpm ?_
 refine Wpo ?_
 refine goP_panic (T := 248) (l1 := [_, _]) (l2 := []) rfl ?_
 refine Wst ?_
 apply go_nil
 refine ⟨by simp (disch := omega) [go_sem, *, -List.reduceReplicate], ?_⟩
 refine ⟨malE true, _, _, ?_, rfl, read1_mal zeroTag ⟨0, 0⟩ 0 N (N + 1) (N + 2) (by omega) (by omega) (by omega), fun σ' n' hag => ?_⟩
 ·intro p hp
  simp only [List.mem_cons, List.not_mem_nil, or_false] at hp
  rcases hp with rfl | rfl | rfl <;> (simp only [teAV]; simp (disch := omega) [go_sem, *, -List.reduceReplicate])
 ·have q1 : σ' N = .box 29 (tagAV zeroTag) := (hag N (by simp only; omega)).trans (by simp (disch := omega) only [wr_cons, wr_nil, upd_same, upd_ne])
  have q2 : σ' (N + 1) = .box 104 (teAV te0) := (hag (N + 1) (by simp only; omega)).trans (by simp (disch := omega) only [wr_cons, wr_nil, upd_same, upd_ne])
  have q3 : σ' (N + 2) = .box 57 (.lit (.int .i64 5)) := (hag (N + 2) (by simp only; omega)).trans (by simp (disch := omega) only [wr_cons, wr_nil, upd_same])
  have hlow : ∀ id, id < N → σ' id = σ id := fun id hid => (hag id (by simp only; omega)).trans (by simp (disch := omega) only [wr_cons, wr_nil, upd_ne])
  simp only [teAV, te0] at q2 ⊢
  refine ARet.of ?_
  exact go_result (by simp (disch := omega) [go_sem, *, -List.reduceReplicate]; rfl) (by simp (disch := omega) [go_sem]; try rfl) hlow
theorem read_bad1 (b : List UInt8) (hb : b.length ≤ 100000) (h : 32 ≤ b.length) (h1 : (rdS (b.drop 32)).2.2 ≠ 0) (k : Nat) :
  ACall Tryz.prog 180 [.slice none (b.map byteAV)] k [] (.tup [tagAV zeroTag, teAV te0, .lit (.int .i64 5)]) [] := by
 have hi : ¬ (b.length : Int) < 32 := by omega
 have hmin : Nat.min b.length 32 = 32 := Nat.min_eq_right h
 obtain ⟨T, hT⟩ : ∃ T : Tg, T = ⟨b.take 32, by rw [List.length_take]; omega⟩ := ⟨⟨b.take 32, by rw [List.length_take]; omega⟩, rfl⟩
 have hT1 : (b.map byteAV).take 32 = T.1.map byteAV := by rw [hT, List.map_take]
 have hD1 : (b.map byteAV).drop 32 = (b.drop 32).map byteAV := by rw [List.map_drop]
 have hDl : (b.drop 32).length = b.length - 32 := List.length_drop ..
 have c1 := number_bad (b.drop 32) (by omega) h1
 obtain ⟨y, hy⟩ : ∃ y, b.drop 32 = y := ⟨_, rfl⟩
 rw [hy] at hD1 hDl
 rw [hy] at c1
 clear h1 hy hT
 obtain ⟨T, hTl⟩ := T
 have hTA : tagAV ⟨T, hTl⟩ = .agg (T.map byteAV) := rfl
 have hs1 : (AV.agg (T.map byteAV)).sz = 32 := by simp only [AV.sz, szl_bytes]; exact hTl
 have hs2 : (AV.agg (T.map byteAV)).cell = true := celll_bytes T
 have hz32 : (zeroTag.val.map byteAV).drop 32 = [] := rfl
 simp only at hT1
 refine ACall.of_bodyD (l := [_]) mixed Tryz.func180 rfl (by kernel_rfl) Tryz.ntmps180 (by kernel_rfl) (by kernel_rfl) rfl (by kernel_rfl) rfl (by simp) (by simp) (by simp) fun σ N hp hpn hk hkn hfree => ?_
 (apply goP_region; (· (simp only [List.length_cons, List.length_nil, Nat.reduceAdd]; rfl)))
 refine Wgs ?_
 refine ⟨rfl, ?_⟩
 refine Wst ?_
 apply go_nil
 refine ⟨_, _, rfl, ?_⟩
 have M : Mut (N + 8) := ⟨⟩
 refine Wpm ?_
 iterate 3 (refine Wpo ?_)
 refine goP_callPanic (ch := malE false) (l1 := [_]) (l2 := [_, _, _, _, _, _]) rfl ?_
 refine Wst ?_
 apply go_nil
 refine ⟨⟨_, _, rfl, ?_⟩, ?_⟩
 ·refine Eq.mpr (congrArg (fun l => APanic Tryz.prog _ l _ _) ?_) (c1 _)
  simp (disch := omega) [go_sem, *, -List.reduceReplicate]
 ·refine ⟨malE true, _, _, ?_, rfl, read1_mal ⟨T, hTl⟩ ⟨0, 0⟩ 0 N (N + 1) (N + 2) (by omega) (by omega) (by omega), fun σ' n' hag => ?_⟩
  ·intro p hp
   simp only [List.mem_cons, List.not_mem_nil, or_false] at hp
   rcases hp with rfl | rfl | rfl <;> (simp only [teAV]; simp (disch := omega) [go_sem, *, -List.reduceReplicate])
  ·have q1 : σ' N = .box 29 (tagAV zeroTag) := (hag N (by simp only; omega)).trans (by simp (disch := omega) only [wr_cons, wr_nil, upd_same, upd_ne])
   have q2 : σ' (N + 1) = .box 104 (teAV te0) := (hag (N + 1) (by simp only; omega)).trans (by simp (disch := omega) only [wr_cons, wr_nil, upd_same, upd_ne])
   have q3 : σ' (N + 2) = .box 57 (.lit (.int .i64 5)) := (hag (N + 2) (by simp only; omega)).trans (by simp (disch := omega) only [wr_cons, wr_nil, upd_same])
   have hlow : ∀ id, id < N → σ' id = σ id := fun id hid => (hag id (by simp only; omega)).trans (by simp (disch := omega) only [wr_cons, wr_nil, upd_ne])
   simp only [teAV, te0] at q2 ⊢
   refine ARet.of ?_
   exact go_result (by simp (disch := omega) [go_sem, *, -List.reduceReplicate]; rfl) (by simp (disch := omega) [go_sem]; try rfl) hlow
theorem read_bad2 (b : List UInt8) (hb : b.length ≤ 100000) (h : 32 ≤ b.length) (n1 q1 : Nat) (h1 : rdS (b.drop 32) = (n1, q1, 0)) (h2 : (rdS ((b.drop 32).drop q1)).2.2 ≠ 0) (k : Nat) :
  ACall Tryz.prog 180 [.slice none (b.map byteAV)] k [] (.tup [tagAV zeroTag, teAV te0, .lit (.int .i64 5)]) [] := by
 have hi : ¬ (b.length : Int) < 32 := by omega
 have hmin : Nat.min b.length 32 = 32 := Nat.min_eq_right h
 obtain ⟨T, hT⟩ : ∃ T : Tg, T = ⟨b.take 32, by rw [List.length_take]; omega⟩ := ⟨⟨b.take 32, by rw [List.length_take]; omega⟩, rfl⟩
 have hT1 : (b.map byteAV).take 32 = T.1.map byteAV := by rw [hT, List.map_take]
 have hD1 : (b.map byteAV).drop 32 = (b.drop 32).map byteAV := by rw [List.map_drop]
 have hDl : (b.drop 32).length = b.length - 32 := List.length_drop ..
 have hle1 := rdS_le (b.drop 32)
 rw [h1] at hle1
 simp only at hle1
 have c1 := number_ok (b.drop 32) (by omega) n1 q1 h1
 obtain ⟨y2, hy2⟩ : ∃ z, (b.drop 32).drop q1 = z := ⟨_, rfl⟩
 have hy2l : y2.length ≤ b.length := by rw [← hy2, List.length_drop]; omega
 rw [hy2] at c1 h2
 have c2 := number_bad y2 (by omega) h2
 obtain ⟨y, hy⟩ : ∃ y, b.drop 32 = y := ⟨_, rfl⟩
 rw [hy] at hD1 hDl
 rw [hy] at c1
 clear h1 h2 hy hT hy2 hle1
 obtain ⟨T, hTl⟩ := T
 have hTA : tagAV ⟨T, hTl⟩ = .agg (T.map byteAV) := rfl
 have hs1 : (AV.agg (T.map byteAV)).sz = 32 := by simp only [AV.sz, szl_bytes]; exact hTl
 have hs2 : (AV.agg (T.map byteAV)).cell = true := celll_bytes T
 have hz32 : (zeroTag.val.map byteAV).drop 32 = [] := rfl
 simp only at hT1
 have hcs := And.intro c1 True.intro
 clear c1
 refine ACall.of_bodyD (l := [_]) mixed Tryz.func180 rfl (by kernel_rfl) Tryz.ntmps180 (by kernel_rfl) (by kernel_rfl) rfl (by kernel_rfl) rfl (by simp) (by simp) (by simp) fun σ N hp hpn hk hkn hfree => ?_
 (apply goP_region; (· (simp only [List.length_cons, List.length_nil, Nat.reduceAdd]; rfl)))
 refine Wgs ?_
 refine ⟨rfl, ?_⟩
 refine Wst ?_
 apply go_nil
 refine ⟨_, _, rfl, ?_⟩
 have M : Mut (N + 8) := ⟨⟩
 refine Wpm ?_
 iterate 4 (refine Wpo ?_)
 refine goP_callPanic (ch := malE false) (l1 := [_]) (l2 := [_, _, _, _, _, _]) rfl ?_
 refine Wst ?_
 apply go_nil
 refine ⟨⟨_, _, rfl, ?_⟩, ?_⟩
 ·refine Eq.mpr (congrArg (fun l => APanic Tryz.prog _ l _ _) ?_) (c2 _)
  simp (disch := omega) [go_sem, *, -List.reduceReplicate]
 ·refine ⟨malE true, _, _, ?_, rfl, read1_mal ⟨T, hTl⟩ ⟨(n1 : Nat), 0⟩ 0 N (N + 1) (N + 2) (by omega) (by omega) (by omega), fun σ' n' hag => ?_⟩
  ·intro p hp
   simp only [List.mem_cons, List.not_mem_nil, or_false] at hp
   rcases hp with rfl | rfl | rfl <;> (simp only [teAV]; simp (disch := omega) [go_sem, *, -List.reduceReplicate])
  ·have q1 : σ' N = .box 29 (tagAV zeroTag) := (hag N (by simp only; omega)).trans (by simp (disch := omega) only [wr_cons, wr_nil, upd_same, upd_ne])
   have q2 : σ' (N + 1) = .box 104 (teAV te0) := (hag (N + 1) (by simp only; omega)).trans (by simp (disch := omega) only [wr_cons, wr_nil, upd_same, upd_ne])
   have q3 : σ' (N + 2) = .box 57 (.lit (.int .i64 5)) := (hag (N + 2) (by simp only; omega)).trans (by simp (disch := omega) only [wr_cons, wr_nil, upd_same])
   have hlow : ∀ id, id < N → σ' id = σ id := fun id hid => (hag id (by simp only; omega)).trans (by simp (disch := omega) only [wr_cons, wr_nil, upd_ne])
   simp only [teAV, te0] at q2 ⊢
   refine ARet.of ?_
   exact go_result (by simp (disch := omega) [go_sem, *, -List.reduceReplicate]; rfl) (by simp (disch := omega) [go_sem]; try rfl) hlow
theorem read_long (b : List UInt8) (hb : b.length ≤ 100000) (h : 32 ≤ b.length) (n1 q1 : Nat) (h1 : rdS (b.drop 32) = (n1, q1, 0)) (n2 q2 : Nat) (h2 : rdS ((b.drop 32).drop q1) = (n2, q2, 0)) (h3 : 0 < (((b.drop 32).drop q1).drop q2).length) (k : Nat) :
  ACall Tryz.prog 180 [.slice none (b.map byteAV)] k [] (.tup [tagAV zeroTag, teAV te0, .lit (.int .i64 5)]) [] := by
 have hi : ¬ (b.length : Int) < 32 := by omega
 have hmin : Nat.min b.length 32 = 32 := Nat.min_eq_right h
 obtain ⟨T, hT⟩ : ∃ T : Tg, T = ⟨b.take 32, by rw [List.length_take]; omega⟩ := ⟨⟨b.take 32, by rw [List.length_take]; omega⟩, rfl⟩
 have hT1 : (b.map byteAV).take 32 = T.1.map byteAV := by rw [hT, List.map_take]
 have hD1 : (b.map byteAV).drop 32 = (b.drop 32).map byteAV := by rw [List.map_drop]
 have hDl : (b.drop 32).length = b.length - 32 := List.length_drop ..
 have hle1 := rdS_le (b.drop 32)
 rw [h1] at hle1
 simp only at hle1
 have c1 := number_ok (b.drop 32) (by omega) n1 q1 h1
 obtain ⟨y2, hy2⟩ : ∃ z, (b.drop 32).drop q1 = z := ⟨_, rfl⟩
 have hy2l : y2.length ≤ b.length := by rw [← hy2, List.length_drop]; omega
 rw [hy2] at c1 h2
 have hle2 := rdS_le y2
 rw [h2] at hle2
 simp only at hle2
 have c2 := number_ok y2 (by omega) n2 q2 h2
 obtain ⟨z, hzz⟩ : ∃ z, y2.drop q2 = z := ⟨_, rfl⟩
 rw [hy2] at h3
 rw [hzz] at c2 h3
 obtain ⟨y, hy⟩ : ∃ y, b.drop 32 = y := ⟨_, rfl⟩
 rw [hy] at hD1 hDl
 rw [hy] at c1
 clear h1 h2 hy hT hy2 hle1 hzz hle2
 obtain ⟨T, hTl⟩ := T
 have hTA : tagAV ⟨T, hTl⟩ = .agg (T.map byteAV) := rfl
 have hs1 : (AV.agg (T.map byteAV)).sz = 32 := by simp only [AV.sz, szl_bytes]; exact hTl
 have hs2 : (AV.agg (T.map byteAV)).cell = true := celll_bytes T
 have hz32 : (zeroTag.val.map byteAV).drop 32 = [] := rfl
 simp only at hT1
 have h3i : (0 : Int) < (z.length : Int) := by omega
 have hcs := And.intro c1 (And.intro c2 True.intro)
 clear c1 c2
 refine ACall.of_bodyD (l := [_]) mixed Tryz.func180 rfl (by kernel_rfl) Tryz.ntmps180 (by kernel_rfl) (by kernel_rfl) rfl (by kernel_rfl) rfl (by simp) (by simp) (by simp) fun σ N hp hpn hk hkn hfree => ?_
 (apply goP_region; (· (simp only [List.length_cons, List.length_nil, Nat.reduceAdd]; rfl)))
 refine Wgs ?_
 refine ⟨rfl, ?_⟩
 refine Wst ?_
 apply go_nil
 refine ⟨_, _, rfl, ?_⟩
 have M : Mut (N + 8) := ⟨⟩
 refine Wpm ?_
 iterate 6 (refine Wpo ?_)
 refine goP_panic (T := 248) (l1 := [_, _]) (l2 := []) rfl ?_
 refine Wst ?_
 apply go_nil
 refine ⟨by simp (disch := omega) [go_sem, *, -List.reduceReplicate], ?_⟩
 refine ⟨malE true, _, _, ?_, rfl, read1_mal ⟨T, hTl⟩ ⟨(n1 : Nat), (n2 : Nat)⟩ 0 N (N + 1) (N + 2) (by omega) (by omega) (by omega), fun σ' n' hag => ?_⟩
 ·intro p hp
  simp only [List.mem_cons, List.not_mem_nil, or_false] at hp
  rcases hp with rfl | rfl | rfl <;> (simp only [teAV]; simp (disch := omega) [go_sem, *, -List.reduceReplicate])
 ·have q1 : σ' N = .box 29 (tagAV zeroTag) := (hag N (by simp only; omega)).trans (by simp (disch := omega) only [wr_cons, wr_nil, upd_same, upd_ne])
  have q2 : σ' (N + 1) = .box 104 (teAV te0) := (hag (N + 1) (by simp only; omega)).trans (by simp (disch := omega) only [wr_cons, wr_nil, upd_same, upd_ne])
  have q3 : σ' (N + 2) = .box 57 (.lit (.int .i64 5)) := (hag (N + 2) (by simp only; omega)).trans (by simp (disch := omega) only [wr_cons, wr_nil, upd_same])
  have hlow : ∀ id, id < N → σ' id = σ id := fun id hid => (hag id (by simp only; omega)).trans (by simp (disch := omega) only [wr_cons, wr_nil, upd_ne])
  simp only [teAV, te0] at q2 ⊢
  refine ARet.of ?_
  exact go_result (by simp (disch := omega) [go_sem, *, -List.reduceReplicate]; rfl) (by simp (disch := omega) [go_sem]; try rfl) hlow
theorem read_inv (b : List UInt8) (hb : b.length ≤ 100000) (h : 32 ≤ b.length) (n1 q1 : Nat) (h1 : rdS (b.drop 32) = (n1, q1, 0)) (n2 q2 : Nat) (h2 : rdS ((b.drop 32).drop q1) = (n2, q2, 0)) (h3 : ((b.drop 32).drop q1).drop q2 = []) (h4 : teB ⟨(n1 : Nat), (n2 : Nat)⟩ = false) (k : Nat) :
  ACall Tryz.prog 180 [.slice none (b.map byteAV)] k [] (.tup [tagAV zeroTag, teAV te0, .lit (.int .i64 5)]) [] := by
 have c3 := pTerms_spec ⟨(n1 : Nat), (n2 : Nat)⟩
 rw [h4] at c3
 unfold teAV at c3
 simp only at c3
 have hi : ¬ (b.length : Int) < 32 := by omega
 have hmin : Nat.min b.length 32 = 32 := Nat.min_eq_right h
 obtain ⟨T, hT⟩ : ∃ T : Tg, T = ⟨b.take 32, by rw [List.length_take]; omega⟩ := ⟨⟨b.take 32, by rw [List.length_take]; omega⟩, rfl⟩
 have hT1 : (b.map byteAV).take 32 = T.1.map byteAV := by rw [hT, List.map_take]
 have hD1 : (b.map byteAV).drop 32 = (b.drop 32).map byteAV := by rw [List.map_drop]
 have hDl : (b.drop 32).length = b.length - 32 := List.length_drop ..
 have hle1 := rdS_le (b.drop 32)
 rw [h1] at hle1
 simp only at hle1
 have c1 := number_ok (b.drop 32) (by omega) n1 q1 h1
 obtain ⟨y2, hy2⟩ : ∃ z, (b.drop 32).drop q1 = z := ⟨_, rfl⟩
 have hy2l : y2.length ≤ b.length := by rw [← hy2, List.length_drop]; omega
 rw [hy2] at c1 h2
 have hle2 := rdS_le y2
 rw [h2] at hle2
 simp only at hle2
 have c2 := number_ok y2 (by omega) n2 q2 h2
 obtain ⟨z, hzz⟩ : ∃ z, y2.drop q2 = z := ⟨_, rfl⟩
 rw [hy2] at h3
 rw [hzz] at c2 h3
 obtain ⟨y, hy⟩ : ∃ y, b.drop 32 = y := ⟨_, rfl⟩
 rw [hy] at hD1 hDl
 rw [hy] at c1
 clear h1 h2 hy hT hy2 hle1 hzz hle2
 obtain ⟨T, hTl⟩ := T
 have hTA : tagAV ⟨T, hTl⟩ = .agg (T.map byteAV) := rfl
 have hs1 : (AV.agg (T.map byteAV)).sz = 32 := by simp only [AV.sz, szl_bytes]; exact hTl
 have hs2 : (AV.agg (T.map byteAV)).cell = true := celll_bytes T
 have hz32 : (zeroTag.val.map byteAV).drop 32 = [] := rfl
 simp only at hT1
 subst h3
 have hcs := And.intro c1 (And.intro c2 (And.intro c3 True.intro))
 clear c1 c2 c3 h4
 refine ACall.of_bodyD (l := [_]) mixed Tryz.func180 rfl (by kernel_rfl) Tryz.ntmps180 (by kernel_rfl) (by kernel_rfl) rfl (by kernel_rfl) rfl (by simp) (by simp) (by simp) fun σ N hp hpn hk hkn hfree => ?_
 (apply goP_region; (· (simp only [List.length_cons, List.length_nil, Nat.reduceAdd]; rfl)))
 refine Wgs ?_
 refine ⟨rfl, ?_⟩
 refine Wst ?_
 apply go_nil
 refine ⟨_, _, rfl, ?_⟩
 have M : Mut (N + 8) := ⟨⟩
 refine Wpm ?_
 iterate 6 (refine Wpo ?_)
 refine goP_panic (T := 248) (l1 := [_, _]) (l2 := []) rfl ?_
 refine Wst ?_
 apply go_nil
 refine ⟨by simp (disch := omega) [go_sem, *, -List.reduceReplicate], ?_⟩
 refine ⟨malE true, _, _, ?_, rfl, read1_mal ⟨T, hTl⟩ ⟨(n1 : Nat), (n2 : Nat)⟩ 0 N (N + 1) (N + 2) (by omega) (by omega) (by omega), fun σ' n' hag => ?_⟩
 ·intro p hp
  simp only [List.mem_cons, List.not_mem_nil, or_false] at hp
  rcases hp with rfl | rfl | rfl <;> (simp only [teAV]; simp (disch := omega) [go_sem, *, -List.reduceReplicate])
 ·have q1 : σ' N = .box 29 (tagAV zeroTag) := (hag N (by simp only; omega)).trans (by simp (disch := omega) only [wr_cons, wr_nil, upd_same, upd_ne])
  have q2 : σ' (N + 1) = .box 104 (teAV te0) := (hag (N + 1) (by simp only; omega)).trans (by simp (disch := omega) only [wr_cons, wr_nil, upd_same, upd_ne])
  have q3 : σ' (N + 2) = .box 57 (.lit (.int .i64 5)) := (hag (N + 2) (by simp only; omega)).trans (by simp (disch := omega) only [wr_cons, wr_nil, upd_same])
  have hlow : ∀ id, id < N → σ' id = σ id := fun id hid => (hag id (by simp only; omega)).trans (by simp (disch := omega) only [wr_cons, wr_nil, upd_ne])
  simp only [teAV, te0] at q2 ⊢
  refine ARet.of ?_
  exact go_result (by simp (disch := omega) [go_sem, *, -List.reduceReplicate]; rfl) (by simp (disch := omega) [go_sem]; try rfl) hlow
theorem read_ok (b : List UInt8) (hb : b.length ≤ 100000) (h : 32 ≤ b.length) (n1 q1 : Nat) (h1 : rdS (b.drop 32) = (n1, q1, 0)) (n2 q2 : Nat) (h2 : rdS ((b.drop 32).drop q1) = (n2, q2, 0)) (h3 : ((b.drop 32).drop q1).drop q2 = []) (h4 : teB ⟨(n1 : Nat), (n2 : Nat)⟩ = true) (T : Tg) (hT0 : T.1 = b.take 32) (k : Nat) :
  ACall Tryz.prog 180 [.slice none (b.map byteAV)] k [] (.tup [tagAV T, teAV ⟨(n1 : Nat), (n2 : Nat)⟩, .lit (.int .i64 0)]) [] := by
 have c3 := pTerms_spec ⟨(n1 : Nat), (n2 : Nat)⟩
 rw [h4] at c3
 unfold teAV at *
 simp only at c3 ⊢
 have hi : ¬ (b.length : Int) < 32 := by omega
 have hmin : Nat.min b.length 32 = 32 := Nat.min_eq_right h
 have hT1 : (b.map byteAV).take 32 = T.1.map byteAV := by rw [hT0, List.map_take]
 have hD1 : (b.map byteAV).drop 32 = (b.drop 32).map byteAV := by rw [List.map_drop]
 have hDl : (b.drop 32).length = b.length - 32 := List.length_drop ..
 have hle1 := rdS_le (b.drop 32)
 rw [h1] at hle1
 simp only at hle1
 have c1 := number_ok (b.drop 32) (by omega) n1 q1 h1
 obtain ⟨y2, hy2⟩ : ∃ z, (b.drop 32).drop q1 = z := ⟨_, rfl⟩
 have hy2l : y2.length ≤ b.length := by rw [← hy2, List.length_drop]; omega
 rw [hy2] at c1 h2
 have hle2 := rdS_le y2
 rw [h2] at hle2
 simp only at hle2
 have c2 := number_ok y2 (by omega) n2 q2 h2
 obtain ⟨z, hzz⟩ : ∃ z, y2.drop q2 = z := ⟨_, rfl⟩
 rw [hy2] at h3
 rw [hzz] at c2 h3
 obtain ⟨y, hy⟩ : ∃ y, b.drop 32 = y := ⟨_, rfl⟩
 rw [hy] at hD1 hDl
 rw [hy] at c1
 clear h1 h2 hy hT0 hy2 hle1 hzz hle2
 obtain ⟨T, hTl⟩ := T
 have hTA : tagAV ⟨T, hTl⟩ = .agg (T.map byteAV) := rfl
 have hs1 : (AV.agg (T.map byteAV)).sz = 32 := by simp only [AV.sz, szl_bytes]; exact hTl
 have hs2 : (AV.agg (T.map byteAV)).cell = true := celll_bytes T
 have hz32 : (zeroTag.val.map byteAV).drop 32 = [] := rfl
 simp only at hT1
 rw [hTA]
 subst h3
 have hcs := And.intro c1 (And.intro c2 (And.intro c3 True.intro))
 clear c1 c2 c3 h4
 refine ACall.of_bodyD (l := [_]) mixed Tryz.func180 rfl (by kernel_rfl) Tryz.ntmps180 (by kernel_rfl) (by kernel_rfl) rfl (by kernel_rfl) rfl (by simp) (by simp) (by simp) fun σ N hp hpn hk hkn hfree => ?_
 (apply goP_region; (· (simp only [List.length_cons, List.length_nil, Nat.reduceAdd]; rfl)))
 refine Wgs ?_
 refine ⟨rfl, ?_⟩
 refine Wst ?_
 apply go_nil
 refine ⟨_, _, rfl, ?_⟩
 have M : Mut (N + 8) := ⟨⟩
 refine Wpm ?_
 iterate 7 (refine Wpo ?_)
 refine ⟨rfl, ⟨[], (fun p hp => by cases hp), read1_ret N (N + 1) (N + 2)⟩, fun σ' n' hag => ?_⟩
 have q1 : σ' N = .box 29 (.agg (T.map byteAV)) := (hag N (by simp only; omega)).trans (by simp (disch := omega) [go_sem, *, -List.reduceReplicate])
 have q2 : σ' (N + 1) = .box 104 (.agg [.lit (.int .i64 n1), .lit (.int .i64 n2)]) := (hag (N + 1) (by simp only; omega)).trans (by simp (disch := omega) [go_sem, *, -List.reduceReplicate])
 have q3 : σ' (N + 2) = .box 57 (.lit (.int .i64 0)) := (hag (N + 2) (by simp only; omega)).trans (by simp (disch := omega) [go_sem, *, -List.reduceReplicate])
 have hlow : ∀ id, id < N → σ' id = σ id := fun id hid => (hag id (by simp only; omega)).trans (by simp (disch := omega) only [wr_nil, upd_ne])
 refine ARet.of ?_
 exact go_result (by simp (disch := omega) [go_sem, *, -List.reduceReplicate]; rfl) (by simp (disch := omega) [go_sem]; try rfl) hlow
theorem read_spec (b : List UInt8) (hb : b.length ≤ 100000) (k : Nat) : ACall Tryz.prog 180 [.slice none (b.map byteAV)] k [] (moAV (readT b)) [] := by
 unfold readT moAV
 by_cases h : 32 ≤ b.length
 ·have ht := tagR_ok (b := b) (u := 0) (by omega)
  rw [ht]
  rw [if_neg (by simp)]
  have hn : ∀ u, numR b u = ((rdS (b.drop u)).1, u + (rdS (b.drop u)).2.1, (rdS (b.drop u)).2.2) := fun _ => rfl
  by_cases h1 : (rdS (b.drop 32)).2.2 ≠ 0
  ·rw [if_pos (by rw [hn]; exact h1)]
   exact read_bad1 b hb h h1 k
  ·rw [if_neg (by rw [hn]; exact h1)]
   have h1e : rdS (b.drop 32) = ((rdS (b.drop 32)).1, (rdS (b.drop 32)).2.1, 0) := by
    have : (rdS (b.drop 32)).2.2 = 0 := by omega
    rw [← this]
   have hle1 := rdS_le (b.drop 32)
   generalize (rdS (b.drop 32)).1 = n1 at *
   generalize (rdS (b.drop 32)).2.1 = q1 at *
   have hu1 : numR b 32 = (n1, 32 + q1, 0) := by rw [hn, h1e]
   rw [hu1]
   simp only
   have hdd : b.drop (32 + q1) = (b.drop 32).drop q1 := by rw [List.drop_drop]
   by_cases h2 : (rdS ((b.drop 32).drop q1)).2.2 ≠ 0
   ·rw [if_pos (by rw [hn, hdd]; exact h2)]
    exact read_bad2 b hb h n1 q1 h1e h2 k
   ·rw [if_neg (by rw [hn, hdd]; exact h2)]
    have h2e : rdS ((b.drop 32).drop q1) = ((rdS ((b.drop 32).drop q1)).1, (rdS ((b.drop 32).drop q1)).2.1, 0) := by
     have : (rdS ((b.drop 32).drop q1)).2.2 = 0 := by omega
     rw [← this]
    have hle2 := rdS_le ((b.drop 32).drop q1)
    generalize (rdS ((b.drop 32).drop q1)).1 = n2 at *
    generalize (rdS ((b.drop 32).drop q1)).2.1 = q2 at *
    have hu2 : numR b (32 + q1) = (n2, 32 + q1 + q2, 0) := by rw [hn, hdd, h2e]
    rw [hu2]
    simp only
    rw [List.length_drop, List.length_drop] at hle2
    rw [List.length_drop] at hle1
    have hl3 : (((b.drop 32).drop q1).drop q2).length = b.length - (32 + q1 + q2) := by simp only [List.length_drop]; omega
    by_cases h3 : 32 + q1 + q2 = b.length
    ·have h3e : ((b.drop 32).drop q1).drop q2 = [] := List.length_eq_zero_iff.1 (by omega)
     cases h4 : teB ⟨(n1 : Nat), (n2 : Nat)⟩ with
     | false =>
      rw [if_pos (.inr rfl)]
      exact read_inv b hb h n1 q1 h1e n2 q2 h2e h3e h4 k
     | true =>
      rw [if_neg (by rintro (h5 | h5); · exact h5 h3
                     ·cases h5)]
      exact read_ok b hb h n1 q1 h1e n2 q2 h2e h3e h4 _ (by simp) k
    ·rw [if_pos (.inl h3)]
     exact read_long b hb h n1 q1 h1e n2 q2 h2e (by omega) k
 ·have ht := tagR_bad (b := b) (u := 0) (by omega)
  rw [ht, if_pos (by simp)]
  exact read_short b hb h k

section
variable [W : W32]
end

theorem bitsG_nbx {t : TypeId} {x : AV} (h : bitsG = .box t x) : False := by unfold bitsG at h; cases h
theorem bitsG_nrw {t : TypeId} {n m : Nat} (h : bitsG = .row t n m) : False := by unfold bitsG at h; cases h
section
variable [W : W32]
end

section
variable [W : W32]
set_option maxHeartbeats 4000000 in
theorem tOpen_spec (a : Alg) (m : Nat) (ha : AlgIn a m) (hm : m ≤ 900000) (c : Co) (t : List UInt8) (ht : t.length ≤ 100000) (g k : Nat) :
  ACall Tryz.prog 124 [algAV a, concAV c, .slice none (t.map byteAV)] k [(g, shaG)] (moAV (openT a c t)) [] := by
 have c0 := pOpen_spec a m ha hm c.key t ht g
 have hol := openS_len a m ha c.key t ht
 have haA : algAV a = .agg [.lit (.bool a.free), tagAV a.seed, .lit (.int .i64 a.fresh), .slice none (a.macs.map macAV), .slice none (a.boxes.map sealAV)] := rfl
 unfold openT
 unfold soAV at c0
 generalize openS a c.key t = X at *
 obtain ⟨b, e⟩ := X
 simp only at c0 hol ⊢
 obtain ⟨cp, ck, cs⟩ := c
 simp only at c0
 clear ha
 by_cases he : e = 0
 ·subst he
  rw [if_neg (by simp)]
  have c1 := read_spec b (by omega)
  generalize readT b = Y at *
  obtain ⟨y1, y2, y3⟩ := Y
  unfold moAV at c1 ⊢
  simp only at c1 ⊢
  refine Bd Tryz.func124 Tryz.ntmps124 fun σ N hp hpn hk hkn hfree => ?_
  obtain ⟨hd, hdn⟩ := HD0 hp hpn; clear hp hpn
  have hcs := And.intro c0 (And.intro c1 True.intro)
  clear c0 c1
  refine Wk ?_
  exact WD
 ·rw [if_pos he]
  have h1i : ((e : Int) != 0) = true := by rw [bne_iff_ne]; omega
  unfold moAV
  simp only [te0_eq]
  refine Bd Tryz.func124 Tryz.ntmps124 fun σ N hp hpn hk hkn hfree => ?_
  obtain ⟨hd, hdn⟩ := HD0 hp hpn; clear hp hpn
  have hcs := And.intro c0 True.intro
  clear c0
  refine Wk ?_
  exact WD
end

theorem pEncS_spec (p : Pr) (hp0 : PrOk p) (d k : Nat) : ACall Tryz.prog 96 [prAV p] k [(d, bitsG)] (encAV (encPS p)) [] := by
 unfold encPS
 split
 ·rename_i h; exact Enc_spec p hp0 h d k
 ·rename_i h
  exact (Enc_bad p hp0 (by simpa using h) d k).result (AV.sub_tup (.cons AV.le_nils0 (.cons (AV.le_refl _) .nil)))
theorem ClipP_spec (l : List Pr) (_hl : l.length ≤ 1000000) (k : Nat) :
  ACall Tryz.prog 152 [.slice none (l.map prAV)] k [] (.clip (l.map prAV)) [] := by
 refine Bd Tryz.func152 Tryz.ntmps152 fun σ N hp hpn hk hkn hfree => ?_
 exact W0
section
variable [W : W32]
def condP (a : Alg) (e : Nat) (d : Di) (p : Pr) : Alg × Nat × Di :=
 ((mMac a (if e = 0 then (encPS p).2 else e) d.tag (condM p)).1, (mMac a (if e = 0 then (encPS p).2 else e) d.tag (condM p)).2.1, ⟨d.ticket, d.conds ++ [p], (mMac a (if e = 0 then (encPS p).2 else e) d.tag (condM p)).2.2⟩)
set_option maxHeartbeats 4000000 in
theorem dCond_spec (a : Alg) (m : Nat) (ha : AlgIn a m) (hm : m ≤ 900000) (e : Nat) (d : Di) (hdt : d.ticket.length ≤ 100000) (hdc : d.conds.length ≤ 10000) (p : Pr) (hp0 : PrOk p) (q r1 r2 g h k : Nat) :
  ACall Tryz.prog 83 [.ptr q [] 0, diAV d, prAV p] k (makE a e q r1 r2 ++ [(g, shaG), (h, bitsG)]) (diAV (condP a e d p).2.2) [(q, makB (condP a e d p).1 (condP a e d p).2.1 r1 r2), (r1, rowM (condP a e d p).1.macs.length)] := by
 have c1 := pEncS_spec p hp0 h
 have hM : [99, 111, 110, 100, 105, 116, 105, 111, 110] ++ (encPS p).1 = condM p := rfl
 have hMl := condM_len p
 have hEl := encPS_len p
 have c2 := Message_spec [99, 111, 110, 100, 105, 116, 105, 111, 110] (encPS p).1 (by decide) (by omega)
 rw [hM] at c2
 have hM0 : 0 < (condM p).length := by simp [condM]
 have f1 := Fail_spec a e (encPS p).2 q r1 r2
 have c3 := mMac_spec a (if e = 0 then (encPS p).2 else e) d.tag (condM p) (by have := ha.ml; omega) ha.mm (fun _ => hM0) (by omega) q r1 r2 g
 have hbx := mMac_boxes a (if e = 0 then (encPS p).2 else e) d.tag (condM p)
 have c4 := Clone_spec d.ticket (by omega)
 have c5 := ClipP_spec d.conds (by omega)
 unfold condP
 generalize encPS p = X at *
 obtain ⟨B, E⟩ := X
 simp only at *
 generalize condM p = M at *
 generalize (if e = 0 then E else e) = e1 at *
 obtain ⟨ti, L, tg⟩ := d
 simp only at *
 generalize mMac a e1 tg M = Y at *
 obtain ⟨a2, e3, t2⟩ := Y
 simp only at c3 hbx ⊢
 have hdA : diAV ⟨ti, L, tg⟩ = .agg [.slice none (ti.map byteAV), .slice none (L.map prAV), tagAV tg] := rfl
 have hdB : diAV ⟨ti, L ++ [p], t2⟩ = .agg [.slice none (ti.map byteAV), .slice none (L.map prAV ++ [prAV p]), tagAV t2] := by simp [diAV]
 rw [hdA, hdB]
 unfold encAV at c1
 simp only at c1
 have hb : (L.length + 1) * 56 ≤ 140737488355328 := by omega
 unfold makE at *
 simp only [List.cons_append, List.nil_append] at *
 simp only [makB_def, rowM_eq, rowB_eq, hbx] at *
 clear ha hp0 hM hMl hEl hM0 hbx hdA hdB
 refine Bd Tryz.func83 Tryz.ntmps83 fun σ N hp hpn hk hkn hfree => ?_
 simp only [List.mem_cons, List.not_mem_nil, or_false, forall_eq_or_imp, forall_eq] at hp hpn
 obtain ⟨hd1, hd2, hd3, hd4, hd5⟩ := hp
 obtain ⟨hdn1, hdn2, hdn3, hdn4, hdn5⟩ := hpn
 have hne : q ≠ r1 := by rintro rfl; rw [hd1] at hd2; cases hd2
 have hne3 : q ≠ r2 := by rintro rfl; rw [hd1] at hd3; cases hd3
 have hneg : g ≠ q := by rintro rfl; rw [hd4] at hd1; exact shaG_nbox hd1
 have hneg1 : g ≠ r1 := by rintro rfl; rw [hd4] at hd2; exact shaG_nrow hd2
 have hneh : h ≠ q := by rintro rfl; rw [hd5] at hd1; exact bitsG_nbx hd1
 have hneh1 : h ≠ r1 := by rintro rfl; rw [hd5] at hd2; exact bitsG_nrw hd2
 have hne23 : r1 ≠ r2 := by rintro rfl; rw [hd2] at hd3; simp at hd3
 have hcs := And.intro c1 (And.intro f1 (And.intro c4 (And.intro c5 (And.intro c2 (And.intro c3 True.intro)))))
 clear c1 f1 c2 c3 c4 c5
 refine Wk ?_
 refine go_resultWI [(q, (.box 203 (.agg [.agg [.lit (.bool a2.free), tagAV a2.seed, .lit (.int .i64 a2.fresh), .slice (some r1) (a2.macs.map macAV), .slice (some r2) (a.boxes.map sealAV)], .lit (.int .i64 (e3 : Int))]))), (r1, (.row 149 65 a2.macs.length))] (by simp (disch := omega) [go_sem, *, -List.reduceReplicate]; rfl) (by first | exact AV.le_refl _ | ((first | apply AV.le_slices | apply AV.le_nilsE | apply AV.le_clipE); first | rfl | (simp (disch := omega) [go_sem, *, -List.reduceReplicate]; done)) | (apply AV.sub_tup; repeat' first | exact ALe.nil | exact AV.le_refl _ | apply ALe.cons | ((first | apply AV.le_slices | apply AV.le_nilsE | apply AV.le_clipE); first | rfl | (simp (disch := omega) [go_sem, *, -List.reduceReplicate]; done))) | (apply AV.sub_agg; repeat' first | exact ALe.nil | exact AV.le_refl _ | apply ALe.cons | ((first | apply AV.le_slices | apply AV.le_nilsE | apply AV.le_clipE); first | rfl | (simp (disch := omega) [go_sem, *, -List.reduceReplicate]; done)))) (by first | rfl | (simp (disch := omega) [go_sem]; done) | (simp (disch := omega) [go_sem, *]; done) | simp (disch := omega) [go_sem]) (fun id hid => by simp only [wr_cons, wr_nil]; (by_cases hdd : id = q; (· (subst hdd; simp (disch := omega) [go_sem, *])); (· (by_cases hdd2 : id = r1; (· (subst hdd2; simp (disch := omega) [go_sem, *])); (· (simp (disch := omega) only [upd_ne]; try (first | exact hlow id hid hdd hdd2 | exact hlow id hid))))))) (by simp) (by simp (disch := omega) [go_sem, *])
omit W in
theorem dDone_ok (a : Alg) (d : Di) (q r1 r2 k : Nat) :
  ACall Tryz.prog 82 [.ptr q [] 0, diAV d] k (makE a 0 q r1 r2) (mdAV (a, d, 0)) [] := by
 have cd := Done_ok a q r1 r2
 unfold mdAV
 simp only
 unfold makE at *
 simp only [makB_def, rowM_eq, rowB_eq] at *
 refine Bd Tryz.func82 Tryz.ntmps82 fun σ N hp hpn hk hkn hfree => ?_
 simp only [List.mem_cons, List.not_mem_nil, or_false, forall_eq_or_imp, forall_eq] at hp hpn; obtain ⟨hd1, hd2, hd3⟩ := hp; obtain ⟨hdn1, hdn2, hdn3⟩ := hpn
 have hcs := And.intro cd True.intro
 clear cd
 refine Wk ?_
 exact WD
omit W in
theorem dDone_bad (a : Alg) (e : Nat) (he : e ≠ 0) (d : Di) (q r1 r2 k : Nat) :
  ACall Tryz.prog 82 [.ptr q [] 0, diAV d] k (makE a e q r1 r2) (mdAV (alg0, di0, e)) [] := by
 have cd := Done_bad a e he q r1 r2
 have h1i : ((e : Int) != 0) = true := by simp; omega
 unfold mdAV di0
 simp only [diAV, alg0_eq, List.map_nil]
 unfold makE at *
 simp only [makB_def, rowM_eq, rowB_eq, alg0_eq] at *
 obtain ⟨ti, L, tg⟩ := d
 simp only
 refine Bd Tryz.func82 Tryz.ntmps82 fun σ N hp hpn hk hkn hfree => ?_
 simp only [List.mem_cons, List.not_mem_nil, or_false, forall_eq_or_imp, forall_eq] at hp hpn; obtain ⟨hd1, hd2, hd3⟩ := hp; obtain ⟨hdn1, hdn2, hdn3⟩ := hpn
 have hcs := And.intro cd True.intro
 clear cd
 refine Wk ?_
 exact WD
def resE (d : Di) (p : Pr) : Nat := if predB p = false then 5 else if p.kind = 7 then 6 else if 8 ≤ d.conds.length then 2 else 0
theorem restrS_cond (a : Alg) (d : Di) (p : Pr) : restrS a d p = if (condP a (resE d p) d p).2.1 = 0 then ((condP a (resE d p) d p).1, (condP a (resE d p) d p).2.2, 0) else (alg0, di0, (condP a (resE d p) d p).2.1) := by
 have bad : ∀ e : Nat, e ≠ 0 → (condP a e d p).2.1 = e := fun e he => by
  unfold condP
  simp only
  rw [if_neg he, mMac_err he]
 unfold restrS resE
 by_cases h1 : predB p = false
 ·rw [if_pos h1, if_pos h1, bad 5 (by omega), if_neg (show ¬ (5 : Nat) = 0 by omega)]
 ·rw [if_neg h1, if_neg h1]
  by_cases h2 : p.kind = 7
  ·rw [if_pos h2, if_pos h2, bad 6 (by omega), if_neg (show ¬ (6 : Nat) = 0 by omega)]
  ·rw [if_neg h2, if_neg h2]
   by_cases h3 : 8 ≤ d.conds.length
   ·rw [if_pos h3, if_pos h3, bad 2 (by omega), if_neg (show ¬ (2 : Nat) = 0 by omega)]
   ·rw [if_neg h3, if_neg h3]
    have he : (encPS p).2 = 0 := by unfold encPS; rw [if_pos (by simpa using h1)]
    unfold condP
    simp only [he, if_true]
    by_cases hm : (macS a d.tag (condM p)).2.2 = 0
    ·have hM : mMac a 0 d.tag (condM p) = ((macS a d.tag (condM p)).1, 0, (macS a d.tag (condM p)).2.1) := by unfold mMac; rw [if_neg (by simp), if_pos hm]
     rw [hM, if_pos hm]; rfl
    ·have hM : mMac a 0 d.tag (condM p) = (a, (macS a d.tag (condM p)).2.2, zeroTag) := by unfold mMac; rw [if_neg (by simp), if_neg hm]
     rw [hM, if_neg hm]; simp only; rw [if_neg hm]
end
end Go.Proofs.YtdmjpolnbmoehaaGreatDoor

namespace Go.Proofs.YtdmjpolnbmoehaaGreatDoor
open Go.Ab
attribute [local irreducible] Go.Ab.tyAV Go.Ab.aw Go.Ab.aops Go.Ab.kReg Go.Ab.aThen Go.Ab.aBlk Go.Ab.acond Go.Ab.aguard Go.Ab.astep Go.Ab.AStepX Go.Ab.aRet
theorem age_A (n : List UInt8) (b m : Int) (h : (decide (0 ≤ m) && decide (m ≤ 67108864)) = false) (k : Nat) :
  ACall Tryz.prog 70 [persAV ⟨n, b⟩, .lit (.int .i64 m)] k [] (.lit (.int .i64 0)) [] := by
 have c1 := minutes_spec m
 rw [h] at c1
 clear h
 refine Bd Tryz.func70 Tryz.ntmps70 fun σ N hp hpn hk hkn hfree => ?_
 have hcs := And.intro c1 True.intro
 exact W0
theorem age_C (n : List UInt8) (b m w x : Int) (h : (decide (0 ≤ m) && decide (m ≤ 67108864)) = true) (hw : IntKind.i64.wrap (-b) = w) (hx : (if b < w then w else b) = x) (h2 : (decide (0 ≤ x) && decide (x ≤ 67108864)) = true) (h3 : m < b) (k : Nat) :
  ACall Tryz.prog 70 [persAV ⟨n, b⟩, .lit (.int .i64 m)] k [] (.lit (.int .i64 0)) [] := by
 have c1 := minutes_spec m
 rw [h] at c1
 have c2 := minutes_spec x
 rw [h2] at c2
 clear h h2
 refine Bd Tryz.func70 Tryz.ntmps70 fun σ N hp hpn hk hkn hfree => ?_
 have hcs := And.intro c1 (And.intro c2 True.intro)
 exact W0
theorem age_D (n : List UInt8) (b m w x r : Int) (h : (decide (0 ≤ m) && decide (m ≤ 67108864)) = true) (hw : IntKind.i64.wrap (-b) = w) (hx : (if b < w then w else b) = x) (h2 : (decide (0 ≤ x) && decide (x ≤ 67108864)) = true) (h3 : ¬ m < b) (h4 : -67108864 ≤ b) (h5 : m ≤ 67108864)
  (hr : (if (150 : Int) < (m - b).tdiv 525600 then (150 : Int) else (m - b).tdiv 525600) = r) (k : Nat) :
  ACall Tryz.prog 70 [persAV ⟨n, b⟩, .lit (.int .i64 m)] k [] (.lit (.int .i64 r)) [] := by
 have c1 := minutes_spec m
 rw [h] at c1
 have c2 := minutes_spec x
 rw [h2] at c2
 have hwr : IntKind.i64.wrap (m - b) = m - b := wrap_i64 (by omega) (by omega)
 have hq : (m - b).tdiv 525600 = (m - b) / 525600 := Int.tdiv_eq_ediv_of_nonneg (by omega)
 rw [hq] at hr
 clear h h2
 refine Bd Tryz.func70 Tryz.ntmps70 fun σ N hp hpn hk hkn hfree => ?_
 have hcs := And.intro c1 (And.intro c2 True.intro)
 exact W0
theorem Age_spec (n : List UInt8) (b m : Int) (w : (Lit.int .i64 b).wf = true) (k : Nat) :
  ACall Tryz.prog 70 [persAV ⟨n, b⟩, .lit (.int .i64 m)] k [] (.lit (.int .i64 (ageS b m))) [] := by
 have wb : -9223372036854775808 ≤ b ∧ b ≤ 9223372036854775807 := i64_of_wf w
 unfold ageS
 by_cases h1 : m < 0 ∨ 67108864 < m
 ·rw [if_pos (by unfold ageBad; omega)]
  refine age_A n b m ?_ k
  rw [Bool.and_eq_false_iff, decide_eq_false_iff_not, decide_eq_false_iff_not]; omega
 ·have hm : (decide (0 ≤ m) && decide (m ≤ 67108864)) = true := by
   rw [Bool.and_eq_true, decide_eq_true_iff, decide_eq_true_iff]; omega
  by_cases h2 : b < -67108864 ∨ 67108864 < b
  ·rw [if_pos (by unfold ageBad; omega)]
   by_cases h3 : b = -9223372036854775808
   ·subst h3
    refine age_B n _ m (-9223372036854775808) (-9223372036854775808) hm (by decide +kernel) (by decide +kernel) (by decide +kernel) k
   ·refine age_B n b m (-b) (if b < -b then -b else b) hm (wrap_i64 (by omega) (by omega)) rfl ?_ k
    rw [Bool.and_eq_false_iff, decide_eq_false_iff_not, decide_eq_false_iff_not]; split <;> omega
  ·have hx : (decide (0 ≤ (if b < -b then -b else b)) && decide ((if b < -b then -b else b) ≤ 67108864)) = true := by
    rw [Bool.and_eq_true, decide_eq_true_iff, decide_eq_true_iff]; split <;> omega
   by_cases h3 : m < b
   ·rw [if_pos (by unfold ageBad; omega)]
    exact age_C n b m (-b) _ hm (wrap_i64 (by omega) (by omega)) rfl hx h3 k
   ·rw [if_neg (by unfold ageBad; omega)]
    refine age_D n b m (-b) _ _ hm (wrap_i64 (by omega) (by omega)) rfl hx h3 (by omega) (by omega) ?_ k
    rw [Int.tdiv_eq_ediv_of_nonneg (by omega)]
    split <;> split <;> omega
theorem Find_spec (p : Int) (t : Tg) (l : List Pe) (nm : List UInt8) (hl : l.length ≤ 1000000) (k : Nat) :
  ACall Tryz.prog 125 [concAV ⟨p, t, l⟩, strAV nm] k [] (.tup [persAV (findP l nm).1, .lit (.bool (findP l nm).2)]) [] := by
 have hnmv : strAV nm = .lit (.string ⟨nm.toArray⟩) := rfl
 refine Bd Tryz.func125 Tryz.ntmps125 fun σ N hp hpn hk hkn hfree => ?_
 refine Wk ?_
 refine go_loop (aloop mixed (by kernel_rfl) (fun c => ∃ (u : Nat), c.s 1 = strAV nm ∧ c.s 9 = .slice none (l.map persAV) ∧ c.s 10 = .lit (.int .i64 l.length) ∧ c.s 4 = .ptr (N + 1) [] 0 ∧ c.σ (N + 1) = .box 130 (persAV ⟨[], 0⟩) ∧ c.s 11 = .lit (.int .i64 u) ∧ u ≤ l.length ∧ N + 1 < c.n ∧ (∀ id, id < N → c.σ id = σ id) ∧ ∀ y ∈ l.take u, ¬ y.name = nm)
  (fun c => match c.s 11 with | .lit (.int _ m) => l.length - m.toNat | _ => 0) ⟨0, by simp (disch := omega) [go_sem, *, -List.reduceReplicate], by simp (disch := omega) [go_sem, *, -List.reduceReplicate], by simp (disch := omega) [go_sem, *, -List.reduceReplicate], by simp (disch := omega) [go_sem, *, -List.reduceReplicate], by simp (disch := omega) [go_sem, *, -List.reduceReplicate]; try rfl, by simp (disch := omega) [go_sem, *, -List.reduceReplicate], by omega, by simp only; omega, (fun id hid => by simp (disch := omega) only [upd_ne]; try exact hlow id hid), by simp⟩ ?_)
 rintro ⟨s, σ', n'⟩ ⟨u, h1, h9, h10, h4, hN1, h6, hu, hn', hlow, hno⟩
 simp only at h1 h9 h10 h4 hN1 h6 hn' hlow
 by_cases hul : u = l.length
 ·rw [findP_none (by rw [hul, List.take_length] at hno; exact hno)]
  clear hno
  exact W0
 ·have hu2 : u < l.length := by omega
  obtain ⟨x, hx⟩ : ∃ x, l[u] = x := ⟨_, rfl⟩
  by_cases hm : x.name = nm
  ·rw [findP_at hu2 hx hm hno]
   clear hno
   obtain ⟨xn, xb⟩ := x
   simp only at hm
   subst hm
   exact W0
  ·have hno2 := pno_succ hu2 hx hm hno
   clear hno
   obtain ⟨xn, xb⟩ := x
   simp only at hm
   refine Wk ?_
   refine ⟨⟨u + 1, by simp (disch := omega) [go_sem, *, -List.reduceReplicate], by simp (disch := omega) [go_sem, *, -List.reduceReplicate], by simp (disch := omega) [go_sem, *, -List.reduceReplicate], by simp (disch := omega) [go_sem, *, -List.reduceReplicate], by simp (disch := omega) [go_sem, *, -List.reduceReplicate], by simp (disch := omega) [go_sem, *, -List.reduceReplicate], by omega, by simp only; omega, (fun id hid => by simp (disch := omega) only [upd_ne]; try exact hlow id hid), hno2⟩, ?_⟩
   simp (disch := omega) [go_sem, *, -List.reduceReplicate]
   omega
end Go.Proofs.YtdmjpolnbmoehaaGreatDoor

namespace Go.Proofs.YtdmjpolnbmoehaaGreatDoor
open Go.Ab
attribute [local irreducible] Go.Ab.tyAV Go.Ab.aw Go.Ab.aops Go.Ab.kReg Go.Ab.aThen Go.Ab.aBlk Go.Ab.acond Go.Ab.aguard Go.Ab.astep Go.Ab.AStepX Go.Ab.aRet
attribute [local irreducible] shaG
def note (b : Bool) (f e : Nat) : Nat := if b = true then e else if e = 0 then f else e
theorem note_err {b : Bool} {f e : Nat} (h : e ≠ 0) : note b f e = e := by unfold note; rw [if_neg h, ite_self]
theorem note_t {f e : Nat} : note true f e = e := rfl
theorem note_f {f : Nat} : note false f 0 = f := rfl
def minB (n : Int) : Bool := decide (0 ≤ n) && decide (n ≤ 67108864)
theorem predB_hold (h : List UInt8) : predB (holdP h) = nameB h := by
 unfold predB holdP
 simp
section
variable [W : W32]
def grE (a : Alg) (c : Co) (t holder : List UInt8) (minute : Int) : Nat :=
 note (decide (¬ (openT a c t).2.1.most < ageS (findP c.ps holder).1.born minute)) 25
  (note (decide (¬ ageS (findP c.ps holder).1.born minute < (openT a c t).2.1.least)) 25
  (note (findP c.ps holder).2 12 (note (decide ((openT a c t).2.2 = 0)) (openT a c t).2.2 (note (minB minute) 1 (note (nameB holder) 7 0)))))
def grM (a : Alg) (e : Nat) (kt : Tg) (t : List UInt8) : Alg × Nat × Tg := mMac a e kt (grantM t)
def grC (a : Alg) (e : Nat) (kt : Tg) (t holder : List UInt8) : Alg × Nat × Di := condP (grM a e kt t).1 (grM a e kt t).2.1 ⟨t, [], (grM a e kt t).2.2⟩ (holdP holder)
theorem grC_err {a : Alg} {e : Nat} (kt : Tg) (t holder : List UInt8) (h : e ≠ 0) : (grC a e kt t holder).2.1 = e := by
 unfold grC grM
 rw [mMac_err h]
 unfold condP
 simp only
 rw [if_neg h, mMac_err h]
theorem grantS_C (a : Alg) (c : Co) (t holder : List UInt8) (minute : Int) :
  grantS a c t holder minute = if (grC a (grE a c t holder minute) (openT a c t).1 t holder).2.1 = 0 then ((grC a (grE a c t holder minute) (openT a c t).1 t holder).1, (grC a (grE a c t holder minute) (openT a c t).1 t holder).2.2, 0) else (alg0, di0, (grC a (grE a c t holder minute) (openT a c t).1 t holder).2.1) := by
 have bad : ∀ e : Nat, grE a c t holder minute = e → e ≠ 0 → (alg0, di0, e) = if (grC a (grE a c t holder minute) (openT a c t).1 t holder).2.1 = 0 then ((grC a (grE a c t holder minute) (openT a c t).1 t holder).1, (grC a (grE a c t holder minute) (openT a c t).1 t holder).2.2, 0) else (alg0, di0, (grC a (grE a c t holder minute) (openT a c t).1 t holder).2.1) := fun e h he => by
  rw [h, grC_err _ _ _ he, if_neg he]
 unfold grantS
 cases hn : nameB holder with
 | false =>
  rw [if_pos rfl]
  exact bad 7 (by unfold grE; rw [hn, note_f]; simp only [note_err (show (7 : Nat) ≠ 0 by decide)]) (by decide)
 | true =>
  rw [if_neg (by simp)]
  by_cases hm : minute < 0 ∨ 67108864 < minute
  ·rw [if_pos hm]
   have hb : minB minute = false := by unfold minB; rcases hm with h | h <;> simp <;> omega
   exact bad 1 (by unfold grE; rw [hn, note_t, hb, note_f]; simp only [note_err (show (1 : Nat) ≠ 0 by decide)]) (by decide)
  ·rw [if_neg hm]
   have hb : minB minute = true := by unfold minB; simp; omega
   by_cases ho : (openT a c t).2.2 ≠ 0
   ·rw [if_pos ho]
    have h1 : decide ((openT a c t).2.2 = 0) = false := by simpa using ho
    exact bad _ (by unfold grE; rw [hn, note_t, hb, note_t, h1, note_f]; simp only [note_err ho]) ho
   ·rw [if_neg ho]
    have h1 : decide ((openT a c t).2.2 = 0) = true := by simpa using ho
    cases hf : (findP c.ps holder).2 with
    | false =>
     rw [if_pos rfl]
     exact bad 12 (by unfold grE; rw [hn, note_t, hb, note_t, h1, note_t, hf, note_f]; simp only [note_err (show (12 : Nat) ≠ 0 by decide)]) (by decide)
    | true =>
     rw [if_neg (by simp)]
     by_cases h3 : ageS (findP c.ps holder).1.born minute < (openT a c t).2.1.least
     ·rw [if_pos (.inl h3)]
      have h2 : decide (¬ ageS (findP c.ps holder).1.born minute < (openT a c t).2.1.least) = false := by simpa using h3
      exact bad 25 (by unfold grE; rw [hn, note_t, hb, note_t, h1, note_t, hf, note_t, h2, note_f]; simp only [note_err (show (25 : Nat) ≠ 0 by decide)]) (by decide)
     ·have h2 : decide (¬ ageS (findP c.ps holder).1.born minute < (openT a c t).2.1.least) = true := by simpa using h3
      by_cases h4 : (openT a c t).2.1.most < ageS (findP c.ps holder).1.born minute
      ·rw [if_pos (.inr h4)]
       have h5 : decide (¬ (openT a c t).2.1.most < ageS (findP c.ps holder).1.born minute) = false := by simpa using h4
       exact bad 25 (by unfold grE; rw [hn, note_t, hb, note_t, h1, note_t, hf, note_t, h2, note_t, h5, note_f]) (by decide)
      ·rw [if_neg (by rintro (h | h); · exact h3 h
                      ·exact h4 h)]
       have h5 : decide (¬ (openT a c t).2.1.most < ageS (findP c.ps holder).1.born minute) = true := by simpa using h4
       have he : grE a c t holder minute = 0 := by unfold grE; rw [hn, note_t, hb, note_t, h1, note_t, hf, note_t, h2, note_t, h5, note_t]
       rw [he]
       unfold grC grM
       by_cases hk : (macS a (openT a c t).1 (grantM t)).2.2 = 0
       ·have hM : mMac a 0 (openT a c t).1 (grantM t) = ((macS a (openT a c t).1 (grantM t)).1, 0, (macS a (openT a c t).1 (grantM t)).2.1) := by unfold mMac; rw [if_neg (by simp), if_pos hk]
        rw [if_pos hk, hM, restrS_cond]
        have hr : ∀ x : Tg, resE ⟨t, [], x⟩ (holdP holder) = 0 := fun x => by
         unfold resE
         rw [predB_hold, hn, if_neg (by simp), if_neg (by simp [holdP]), if_neg (by simp)]
        rw [hr]
       ·have hM : mMac a 0 (openT a c t).1 (grantM t) = (a, (macS a (openT a c t).1 (grantM t)).2.2, zeroTag) := by unfold mMac; rw [if_neg (by simp), if_neg hk]
        rw [if_neg hk, hM]
        have h6 : (condP a (macS a (openT a c t).1 (grantM t)).2.2 ⟨t, [], zeroTag⟩ (holdP holder)).2.1 = (macS a (openT a c t).1 (grantM t)).2.2 := by
         unfold condP
         simp only
         rw [if_neg hk, mMac_err hk]
        simp only
        rw [h6, if_neg hk]
end

section
variable [W : W32]
omit W in
theorem note_open (f e : Nat) : (if e = 0 then f else e) = note (decide (f = 0)) f e := by
 unfold note
 by_cases h : f = 0
 ·rw [decide_eq_true h, if_pos rfl, h]
  split
  ·rename_i h2; exact h2.symm
  ·rfl
 ·rw [decide_eq_false h]; rfl
set_option maxHeartbeats 8000000 in
theorem Grant_spec (a : Alg) (m : Nat) (ha : AlgIn a m) (hm : m ≤ 800000) (c : Co) (hc : c.ps.length ≤ 1000000) (hcw : ∀ p ∈ c.ps, (Lit.int .i64 p.born).wf = true) (t : List UInt8) (ht : t.length ≤ 90000) (holder : List UInt8) (hh : holder.length ≤ 100000) (minute : Int) (g h : Nat) (_hgh : g ≠ h) (k : Nat) :
  ACall Tryz.prog 53 [algAV a, concAV c, .slice none (t.map byteAV), strAV holder, .lit (.int .i64 minute)] k [(g, shaG), (h, bitsG)] (mdAV (grantS a c t holder minute)) [] := by
 have hpo : PrOk (holdP holder) := ⟨by simp [holdP], by simp [holdP], by simp only [holdP]; omega⟩
 have cb := Begin_spec a (by have := ha.ml; omega) (by have := ha.bl; omega)
 have cv := predValid_spec (holdP holder) hpo h
 rw [predB_hold] at cv
 have cm := minutes_spec minute
 rw [show (decide (0 ≤ minute) && decide (minute ≤ 67108864)) = minB minute from rfl] at cm
 have co := tOpen_spec a m ha (by omega) c t (by omega) g
 have cf := Find_spec c.party c.key c.ps holder hc
 have hfw : (Lit.int .i64 (findP c.ps holder).1.born).wf = true := by
  unfold findP
  split
  ·rename_i p hp; exact hcw p (List.mem_of_find?_eq_some hp)
  ·decide
 have ca := Age_spec (findP c.ps holder).1.name (findP c.ps holder).1.born minute hfw
 have cM := Message_spec [103, 114, 97, 110, 116] t (by decide) (by omega)
 rw [show [103, 114, 97, 110, 116] ++ t = grantM t from rfl] at cM
 have cx : ∀ e q r1 r2 k, ACall Tryz.prog 126 [.ptr q [] 0, tagAV (openT a c t).1, .slice none ((grantM t).map byteAV)] k (makE a e q r1 r2 ++ [(g, shaG)]) (tagAV (grM a e (openT a c t).1 t).2.2) [(q, makB (grM a e (openT a c t).1 t).1 (grM a e (openT a c t).1 t).2.1 r1 r2), (r1, rowM (grM a e (openT a c t).1 t).1.macs.length)] := fun e q r1 r2 k =>
  mMac_spec a e (openT a c t).1 (grantM t) (by have := ha.ml; omega) ha.mm (fun _ => by simp [grantM]) (by simp [grantM]; omega) q r1 r2 g k
 have hbx : ∀ e, (grM a e (openT a c t).1 t).1.boxes = a.boxes := fun e => mMac_boxes _ _ _ _
 have hbx2 : ∀ e, (grC a e (openT a c t).1 t holder).1.boxes = (grM a e (openT a c t).1 t).1.boxes := fun e => mMac_boxes _ _ _ _
 have cc : ∀ e q r1 r2 k, ACall Tryz.prog 83 [.ptr q [] 0, diAV ⟨t, [], (grM a e (openT a c t).1 t).2.2⟩, prAV (holdP holder)] k (makE (grM a e (openT a c t).1 t).1 (grM a e (openT a c t).1 t).2.1 q r1 r2 ++ [(g, shaG), (h, bitsG)]) (diAV (grC a e (openT a c t).1 t holder).2.2) [(q, makB (grC a e (openT a c t).1 t holder).1 (grC a e (openT a c t).1 t holder).2.1 r1 r2), (r1, rowM (grC a e (openT a c t).1 t holder).1.macs.length)] := fun e q r1 r2 k =>
  dCond_spec (grM a e (openT a c t).1 t).1 (m + 1) (mMac_in ha e _ _) (by omega) (grM a e (openT a c t).1 t).2.1 ⟨t, [], (grM a e (openT a c t).1 t).2.2⟩ (by simp only; omega) (by simp) (holdP holder) hpo q r1 r2 g h k
 rw [grantS_C]
 obtain ⟨E, hE⟩ : ∃ E, grE a c t holder minute = E := ⟨_, rfl⟩
 rw [hE]
 unfold grE at hE
 replace cc := cc E
 replace cx := cx E
 replace hbx := hbx E
 replace hbx2 := hbx2 E
 have hcA : concAV c = .agg [.lit (.int .i64 c.party), tagAV c.key, .slice none (c.ps.map persAV)] := rfl
 rw [show (⟨c.party, c.key, c.ps⟩ : Co) = c from rfl] at cf
 generalize nameB holder = b1 at *
 generalize minB minute = b2 at *
 generalize findP c.ps holder = F at *
 obtain ⟨⟨pn, pb⟩, b3⟩ := F
 generalize grC a E (openT a c t).1 t holder = Z at *
 generalize grM a E (openT a c t).1 t = Y at *
 generalize openT a c t = O at *
 obtain ⟨kt, ⟨x, y⟩, oe⟩ := O
 obtain ⟨a2, e6, t2⟩ := Y
 obtain ⟨a3, e7, d3⟩ := Z
 simp only at *
 generalize ageS pb minute = A at *
 generalize grantM t = gm at *
 obtain ⟨e1, he1⟩ : ∃ e1, note b1 7 0 = e1 := ⟨_, rfl⟩
 rw [he1] at hE
 obtain ⟨e2, he2⟩ : ∃ e2, note b2 1 e1 = e2 := ⟨_, rfl⟩
 rw [he2] at hE
 obtain ⟨e3, he3⟩ : ∃ e3, note (decide (oe = 0)) oe e2 = e3 := ⟨_, rfl⟩
 rw [he3] at hE
 obtain ⟨e4, he4⟩ : ∃ e4, note b3 12 e3 = e4 := ⟨_, rfl⟩
 rw [he4] at hE
 rw [← note_open] at he3
 obtain ⟨v, hv, hvi⟩ : ∃ v, (if e7 = 0 then (a3, d3, 0) else (alg0, di0, e7)) = v ∧ ∀ q r1 r2 k, ACall Tryz.prog 82 [.ptr q [] 0, diAV d3] k (makE a3 e7 q r1 r2) (mdAV v) [] := by
  by_cases h1 : e7 = 0
  ·subst h1
   exact ⟨_, if_pos rfl, fun q r1 r2 k => dDone_ok a3 d3 q r1 r2 k⟩
  ·exact ⟨_, if_neg h1, fun q r1 r2 k => dDone_bad a3 e7 h1 d3 q r1 r2 k⟩
 rw [hv]
 clear hv ha hc hcw hfw hpo
 obtain ⟨av, dv, ev⟩ := v
 unfold mdAV at hvi ⊢
 unfold moAV teAV at co
 simp only at hvi co ⊢
 have hpA : prAV (holdP holder) = .agg [.lit (.int .i64 6), .lit (.int .u64 0), .lit (.int .i64 0), .lit (.int .i64 0), .lit (.string ⟨holder.toArray⟩), .lit (.int .i64 0)] := rfl
 have hnv : strAV holder = .lit (.string ⟨holder.toArray⟩) := rfl
 have hdA : diAV ⟨t, [], t2⟩ = .agg [.slice none (t.map byteAV), .slice none [], tagAV t2] := rfl
 rw [hpA] at cv cc
 rw [hnv] at cf ⊢
 rw [hdA] at cc
 unfold makAV at cb
 unfold makE at cx cc hvi
 simp only [List.cons_append, List.nil_append] at *
 rw [hbx2] at *
 simp only [makB_def, rowM_eq, rowB_eq, hbx] at *
 clear hbx hbx2 hpA hdA hcA
 have e00 : ((0 : Nat) : Int) = 0 := rfl
 rw [e00] at cb
 refine Bd Tryz.func53 Tryz.ntmps53 fun σ N hp hpn hk hkn hfree => ?_
 simp only [List.mem_cons, List.not_mem_nil, or_false, forall_eq_or_imp, forall_eq] at hp hpn; obtain ⟨hd1, hd2⟩ := hp; obtain ⟨hdn1, hdn2⟩ := hpn
 have hcs := And.intro cb True.intro
 refine Wm ?_
 iterate 2 refine Wz ?_
 clear hcs cb
 refine go_cliprowIn (N + 5 + 1) [0, 3] 149 65 (bt := 203) (c := .agg [.agg [.lit (.bool a.free), tagAV a.seed, .lit (.int .i64 a.fresh), .clip (a.macs.map macAV), .clip (a.boxes.map sealAV)], .lit (.int .i64 ((0 : Nat) : Int))]) (xs := a.macs.map macAV) (by simp (disch := omega) [go_sem, *, -List.reduceReplicate]) rfl (all_macs1 _) ?_; refine go_cliprowIn (N + 5 + 1) [0, 4] 151 35 (bt := 203) (c := .agg [.agg [.lit (.bool a.free), tagAV a.seed, .lit (.int .i64 a.fresh), .slice (some (N + 5 + 3)) (a.macs.map macAV), .clip (a.boxes.map sealAV)], .lit (.int .i64 ((0 : Nat) : Int))]) (xs := a.boxes.map sealAV) (by simp (disch := omega) [go_sem, *, -List.reduceReplicate]) rfl (all_boxes1 _) ?_
 have hcs := And.intro cv True.intro
 clear cv
 refine Wk ?_
 clear hcs
 refine go_if [29, 30] [N + 5 + 1] (fun σ' => σ' (N + 5 + 1) = (.box 203 (.agg [.agg [.lit (.bool a.free), tagAV a.seed, .lit (.int .i64 a.fresh), .slice (some (N + 5 + 3)) (a.macs.map macAV), .slice (some (N + 5 + 3 + 1)) (a.boxes.map sealAV)], .lit (.int .i64 (e1 : Int))]))) (fun hs_0 hf_0 => ?_) (fun s0 σ0 m0 hs_1 hf_1 hn0 g7 => ?_)
 ·cases b1 with
  | true =>
   have h1 : 0 = e1 := he1
   subst h1
   refine Wk ?_
   exact ⟨WS, hf_0, WN, WF⟩
  | false =>
   have h1 : (if 0 = 0 then 7 else 0) = e1 := he1
   have cF := Fail_spec a 0 7 (N + 5 + 1) (N + 5 + 3) (N + 5 + 3 + 1)
   rw [h1] at cF
   unfold makE at cF
   simp only [makB_def, rowM_eq, rowB_eq] at cF
   rw [show ((7 : Nat) : Int) = 7 from rfl] at cF
   rw [e00] at cF
   have hcs := And.intro cF True.intro
   clear cF
   refine Wk ?_
   exact ⟨WS, by simp only [wr_cons, wr_nil]; exact EKeep.updL (by simp) hf_0, WN, WF⟩
 have g2_1 := KS hs_1 2
 have g3_1 := KS hs_1 3
 have g4_1 := KS hs_1 4
 have g5_1 := KS hs_1 5
 have g6_1 := KS hs_1 6
 have g10_1 := KS hs_1 10
 have g11_1 := KS hs_1 11
 have g12_1 := KS hs_1 12
 have g13_1 := KS hs_1 13
 have g14_1 := KS hs_1 14
 have q0_1 := KE hf_1 N
 have q1_1 := KE hf_1 (N + 1)
 have q2_1 := KE hf_1 (N + 2)
 have q3_1 := KE hf_1 (N + 3)
 have q8_1 := KE hf_1 (N + 5 + 3)
 have q9_1 := KE hf_1 (N + 5 + 3 + 1)
 have qp_1 := KE hf_1 (N + 10 + 2)
 have qg_1 := KE hf_1 g
 have qh_1 := KE hf_1 h
 have hlow := KL (N := N) (σ := σ) hf_1
 clear hs_1 hf_1
 have hcs := And.intro cm True.intro
 clear cm
 refine Wk ?_
 clear hcs
 refine go_if [34, 35] [N + 5 + 1] (fun σ' => σ' (N + 5 + 1) = (.box 203 (.agg [.agg [.lit (.bool a.free), tagAV a.seed, .lit (.int .i64 a.fresh), .slice (some (N + 5 + 3)) (a.macs.map macAV), .slice (some (N + 5 + 3 + 1)) (a.boxes.map sealAV)], .lit (.int .i64 (e2 : Int))]))) (fun hs_0 hf_0 => ?_) (fun s2 σ2 m2 hs_2 hf_2 hn2 g7_2 => ?_)
 ·cases b2 with
  | true =>
   have h1 : e1 = e2 := he2
   subst h1
   refine Wk ?_
   exact ⟨WS, hf_0, WN, by simp (disch := omega) [go_sem, *, -List.reduceReplicate]⟩
  | false =>
   have h1 : (if e1 = 0 then 1 else e1) = e2 := he2
   have cF := Fail_spec a e1 1 (N + 5 + 1) (N + 5 + 3) (N + 5 + 3 + 1)
   rw [h1] at cF
   unfold makE at cF
   simp only [makB_def, rowM_eq, rowB_eq] at cF
   rw [show ((1 : Nat) : Int) = 1 from rfl] at cF
   have hcs := And.intro cF True.intro
   clear cF
   refine Wk ?_
   exact ⟨WS, by simp only [wr_cons, wr_nil]; exact EKeep.updL (by simp) hf_0, WN, WF⟩
 have g2_2 := KS hs_2 2
 have g3_2 := KS hs_2 3
 have g4_2 := KS hs_2 4
 have g5_2 := KS hs_2 5
 have g6_2 := KS hs_2 6
 have g10_2 := KS hs_2 10
 have g11_2 := KS hs_2 11
 have g12_2 := KS hs_2 12
 have g13_2 := KS hs_2 13
 have g14_2 := KS hs_2 14
 have q0_2 := KE hf_2 N
 have q1_2 := KE hf_2 (N + 1)
 have q2_2 := KE hf_2 (N + 2)
 have q3_2 := KE hf_2 (N + 3)
 have q4_2 := KE hf_2 (N + 5 + 3)
 have q5_2 := KE hf_2 (N + 5 + 3 + 1)
 have q6_2 := KE hf_2 (N + 10 + 2)
 have q7_2 := KE hf_2 g
 have q8_2 := KE hf_2 h
 replace hlow := KL (N := N) (σ := σ) hf_2
 clear hs_2 hf_2
 have cF := Fail_spec a e2 oe (N + 5 + 1) (N + 5 + 3) (N + 5 + 3 + 1)
 rw [he3] at cF
 unfold makE at cF
 simp only [makB_def, rowM_eq, rowB_eq] at cF
 have hcs := And.intro co (And.intro cF (And.intro cf True.intro))
 clear co cF cf
 refine Wk ?_
 clear hcs
 refine go_if [55, 56] [N + 5 + 1] (fun σ' => σ' (N + 5 + 1) = (.box 203 (.agg [.agg [.lit (.bool a.free), tagAV a.seed, .lit (.int .i64 a.fresh), .slice (some (N + 5 + 3)) (a.macs.map macAV), .slice (some (N + 5 + 3 + 1)) (a.boxes.map sealAV)], .lit (.int .i64 (e4 : Int))]))) (fun hs_0 hf_0 => ?_) (fun s3 σ3 m3 hs_3 hf_3 hn3 g7_3 => ?_)
 ·cases b3 with
  | true =>
   have h1 : e3 = e4 := he4
   subst h1
   refine Wk ?_
   exact ⟨WS, hf_0, WN, by simp (disch := omega) [go_sem, *, -List.reduceReplicate]⟩
  | false =>
   have h1 : (if e3 = 0 then 12 else e3) = e4 := he4
   have cF := Fail_spec a e3 12 (N + 5 + 1) (N + 5 + 3) (N + 5 + 3 + 1)
   rw [h1] at cF
   unfold makE at cF
   simp only [makB_def, rowM_eq, rowB_eq] at cF
   rw [show ((12 : Nat) : Int) = 12 from rfl] at cF
   have hcs := And.intro cF True.intro
   clear cF
   refine Wk ?_
   exact ⟨WS, by simp only [wr_cons, wr_nil]; exact EKeep.updL (by simp) hf_0, WN, WF⟩
 have g2_3 := KS hs_3 2
 have g3_3 := KS hs_3 3
 have g4_3 := KS hs_3 4
 have g5_3 := KS hs_3 5
 have g6_3 := KS hs_3 6
 have g10_3 := KS hs_3 10
 have g11_3 := KS hs_3 11
 have g12_3 := KS hs_3 12
 have g13_3 := KS hs_3 13
 have g14_3 := KS hs_3 14
 have g15_3 := KS hs_3 15
 have g16_3 := KS hs_3 16
 have g18_3 := KS hs_3 18
 have q0_3 := KE hf_3 N
 have q1_3 := KE hf_3 (N + 1)
 have q2_3 := KE hf_3 (N + 2)
 have q3_3 := KE hf_3 (N + 3)
 have q4_3 := KE hf_3 (N + 5 + 3)
 have q5_3 := KE hf_3 (N + 5 + 3 + 1)
 have q6_3 := KE hf_3 (N + 10 + 2)
 have q7_3 := KE hf_3 g
 have q8_3 := KE hf_3 h
 have q9_3 := KE hf_3 (m2 + 8)
 have q10_3 := KE hf_3 (m2 + 9)
 have q11_3 := KE hf_3 (m2 + 16 + 6)
 replace hlow := KL (N := N) (σ := σ) hf_3
 clear hs_3 hf_3
 obtain hA | ⟨hA, hB⟩ | ⟨hA, hB⟩ : A < x ∨ (¬ A < x ∧ y < A) ∨ (¬ A < x ∧ ¬ y < A) := by omega
 ·have h1 : (if e4 = 0 then 25 else e4) = E := by
   rw [← hE, decide_eq_false (show ¬ ¬ A < x from fun hn => hn hA)]
   by_cases h4 : e4 = 0
   ·subst h4
    rw [note_f, note_err (by decide)]; rfl
   ·rw [note_err h4, note_err h4, if_neg h4]
  have cF := Fail_spec a e4 25 (N + 5 + 1) (N + 5 + 3) (N + 5 + 3 + 1)
  rw [h1] at cF
  unfold makE at cF
  simp only [makB_def, rowM_eq, rowB_eq] at cF
  rw [show ((25 : Nat) : Int) = 25 from rfl] at cF
  have hcs := And.intro ca (And.intro cF (And.intro cM (And.intro (cx (N + 5 + 1) (N + 5 + 3) (N + 5 + 3 + 1)) (And.intro (cc (N + 5 + 1) (N + 5 + 3) (N + 5 + 3 + 1)) (And.intro (hvi (N + 5 + 1) (N + 5 + 3) (N + 5 + 3 + 1)) True.intro)))))
  clear ca cF cM cx cc hvi
  refine Wk ?_
  exact WD
 ·have h1 : (if e4 = 0 then 25 else e4) = E := by
   rw [← hE, decide_eq_true (show ¬ A < x from hA), note_t, decide_eq_false (show ¬ ¬ y < A from fun hn => hn hB)]; rfl
  have cF := Fail_spec a e4 25 (N + 5 + 1) (N + 5 + 3) (N + 5 + 3 + 1)
  rw [h1] at cF
  unfold makE at cF
  simp only [makB_def, rowM_eq, rowB_eq] at cF
  rw [show ((25 : Nat) : Int) = 25 from rfl] at cF
  have hcs := And.intro ca (And.intro cF (And.intro cM (And.intro (cx (N + 5 + 1) (N + 5 + 3) (N + 5 + 3 + 1)) (And.intro (cc (N + 5 + 1) (N + 5 + 3) (N + 5 + 3 + 1)) (And.intro (hvi (N + 5 + 1) (N + 5 + 3) (N + 5 + 3 + 1)) True.intro)))))
  clear ca cF cM cx cc hvi
  refine Wk ?_
  exact WD
 ·have h1 : e4 = E := by
   rw [← hE, decide_eq_true (show ¬ A < x from hA), note_t, decide_eq_true (show ¬ y < A from hB), note_t]
  subst h1
  have hcs := And.intro ca (And.intro cM (And.intro (cx (N + 5 + 1) (N + 5 + 3) (N + 5 + 3 + 1)) (And.intro (cc (N + 5 + 1) (N + 5 + 3) (N + 5 + 3 + 1)) (And.intro (hvi (N + 5 + 1) (N + 5 + 3) (N + 5 + 3 + 1)) True.intro))))
  clear ca cM cx cc hvi
  refine Wk ?_
  exact WD
end

theorem Same_refl (b : List UInt8) (hb : b.length ≤ 140737488351232) (k : Nat) : ACall Tryz.prog 69 [.slice none (b.map byteAV), .slice none (b.map byteAV)] k [] (.lit (.bool true)) [] := by
 have := Same_spec b b hb k
 rw [decide_eq_true rfl] at this
 exact this
set_option maxHeartbeats 1000000 in
theorem SameAlg_refl (a : Alg) (m : Nat) (ha : AlgIn a m) (hm : m ≤ 1000000) (k : Nat) :
  ACall Tryz.prog 22 [algAV a, algAV a] k [] (.lit (.bool true)) [] := by
 obtain ⟨fr, sd, fs, L, B⟩ := a
 have hL := ha.ml
 have hB := ha.bl
 have hmm := ha.mm
 have hbm := ha.bm
 simp only at hL hB hmm hbm
 clear ha
 simp only [algAV]
 refine Bd Tryz.func22 Tryz.ntmps22 fun σ N hp hpn hk hkn hfree => ?_
 refine Wk ?_
 refine go_loopF mixed (by kernel_rfl) (4 :: 5 :: 46 :: 47 :: 48 :: 49 :: 50 :: 51 :: 52 :: 53 :: 54 :: 55 :: 56 :: 57 :: 58 :: 59 :: 60 :: 61 :: 62 :: 63 :: 64 :: 65 :: 66 :: 67 :: 68 :: 69 :: 70 :: 71 :: 72 :: 73 :: 74 :: 75 :: 76 :: 77 :: 78 :: 79 :: 80 :: 81 :: 82 :: 83 :: 84 :: 85 :: 86 :: 87 :: 88 :: 89 :: 90 :: 91 :: 92 :: 93 :: 94 :: 95 :: 96 :: []) [N, N+1] (fun m_ s_ σ_ n_ => ∃ (u : Nat), m_ = L.length - u ∧ s_ 5 = .lit (.int .i64 u) ∧ σ_ (N) = .box 38 (.agg [.lit (.bool fr), tagAV sd, .lit (.int .i64 fs), .slice none (L.map macAV), .slice none (B.map sealAV)]) ∧ σ_ (N+1) = .box 38 (.agg [.lit (.bool fr), tagAV sd, .lit (.int .i64 fs), .slice none (L.map macAV), .slice none (B.map sealAV)]) ∧ (u ≤ L.length)) ⟨_, 0, rfl, WF, WF, WF, WC⟩ ?_
 intro m_1 s_1 σ_1 n_1 hs_1 hf_1 hn_1 hI_1
 obtain ⟨u, hm_1, h1_5, e1_0, e1_1, hu⟩ := hI_1
 have h1_2 := KS hs_1 2
 have h1_3 := KS hs_1 3
 have hlow := KL (N := N) (σ := σ) hf_1
 by_cases hul : u = L.length
 ·subst hul
  refine Wk ?_
  refine go_loopF mixed (by kernel_rfl) [4, 6, 7, 8, 97, 98, 99, 100, 101, 102, 103, 104, 105, 106, 107, 108, 109, 110, 111, 112, 113, 114, 115, 116, 117, 118, 119, 120, 121, 122, 123, 124, 125, 126, 127, 128, 129, 130, 131, 132, 133, 134, 135, 136, 137, 138, 139, 140, 141] [N, N+1] (fun m_ s_ σ_ n_ => ∃ (v : Nat), m_ = B.length - v ∧ s_ 6 = .lit (.int .i64 v) ∧ σ_ (N) = .box 38 (.agg [.lit (.bool fr), tagAV sd, .lit (.int .i64 fs), .slice none (L.map macAV), .slice none (B.map sealAV)]) ∧ σ_ (N+1) = .box 38 (.agg [.lit (.bool fr), tagAV sd, .lit (.int .i64 fs), .slice none (L.map macAV), .slice none (B.map sealAV)]) ∧ (v ≤ B.length)) ⟨_, 0, rfl, WF, WF, WF, WC⟩ ?_
  intro m_2 s_2 σ_2 n_2 hs_2 hf_2 hn_2 hI_2
  obtain ⟨v, hm_2, h2_6, e2_0, e2_1, hv⟩ := hI_2
  have h2_2 := KS hs_2 2
  have h2_3 := KS hs_2 3
  have hlow := KL (N := N) (σ := σ) hf_2
  by_cases hvl : v = B.length
  ·subst hvl
   exact W0
  ·have hv1 : v < B.length := by omega
   have hmz := hbm _ (List.getElem_mem hv1)
   obtain ⟨z, hz⟩ : ∃ z, B[v] = z := ⟨_, rfl⟩
   rw [hz] at hmz
   obtain ⟨zk, zn, zp, zb⟩ := z
   simp only at hmz
   have hzd : sealAV ⟨zk, zn, zp, zb⟩ = .agg [tagAV zk, .lit (.int .i64 zn), bAV zp, bAV zb] := rfl
   have hzb := bAV_def zp
   have hzb2 := bAV_def zb
   have c1 := Same_refl zp (by omega)
   have c2 := Same_refl zb (by omega)
   have hcs := And.intro c1 (And.intro c2 True.intro)
   clear c1 c2 hmm hbm
   refine Wk ?_
   exact ⟨WS, WG, WN, _, (show B.length - (v + 1) < m_2 by omega), v + 1, rfl, WF, WF, WF, WC⟩
 ·have hu1 : u < L.length := by omega
  have hmz := hmm _ (List.getElem_mem hu1)
  obtain ⟨z, hz⟩ : ∃ z, L[u] = z := ⟨_, rfl⟩
  rw [hz] at hmz
  obtain ⟨zk, zm, zt⟩ := z
  simp only at hmz
  have hzd : macAV ⟨zk, zm, zt⟩ = .agg [tagAV zk, bAV zm, tagAV zt] := rfl
  have hzb := bAV_def zm
  have c1 := Same_refl zm (by omega)
  have hcs := And.intro c1 True.intro
  clear c1 hmm hbm
  refine Wk ?_
  exact ⟨WS, WG, WN, _, (show L.length - (u + 1) < m_1 by omega), u + 1, rfl, WF, WF, WF, WC⟩
theorem SameDis_refl (p : Di) (hp : p.ticket.length ≤ 100000000) (hc : p.conds.length ≤ 100000) (k : Nat) :
  ACall Tryz.prog 23 [diAV p, diAV p] k [] (.lit (.bool true)) [] := by
 have c1 := Same_refl p.ticket (by omega)
 have c2 := SamePredicates_refl p.conds hc
 obtain ⟨ti, L, tg⟩ := p
 unfold diAV
 simp only at c1 c2 ⊢
 refine Bd Tryz.func23 Tryz.ntmps23 fun σ N hp hpn hk hkn hfree => ?_
 have hcs := And.intro c1 (And.intro c2 True.intro)
 clear c1 c2
 exact W0

section
variable [W : W32]
def algStep (l : List Int) (i : Nat) (a : Alg) : Alg × Nat :=
 if (nextD l i 3).1 = 0 then ((keyS a).1, (nextD l i 3).2)
 else if (nextD l i 3).1 = 1 then ((macS a (knownD l (nextD l i 3).2 a).1 (bytesD l (knownD l (nextD l i 3).2 a).2 6).1).1, (bytesD l (knownD l (nextD l i 3).2 a).2 6).2)
 else ((sealS a (knownD l (nextD l i 3).2 a).1 (nextD l (knownD l (nextD l i 3).2 a).2 4).1 (bytesD l (nextD l (knownD l (nextD l i 3).2 a).2 4).2 40).1).1, (bytesD l (nextD l (knownD l (nextD l i 3).2 a).2 4).2 40).2)
theorem algStep_in {l : List Int} {i m : Nat} {a : Alg} (h : AlgIn a m) : AlgIn (algStep l i a).1 (m + 1) := by
 unfold algStep
 split
 ·exact keyS_in h
 ·split
  ·exact macS_in h _ _
  ·exact sealS_in h _ _ _
theorem algStep_dk {l : List Int} {i : Nat} {a : Alg} (h : Dk l i) : Dk l (algStep l i a).2 := by
 have h1 := nextD_dk 3 h
 unfold algStep
 split
 ·exact h1
 ·split
  ·exact bytesD_dk _ (knownD_dk a h1)
  ·exact bytesD_dk _ (nextD_dk _ (knownD_dk a h1))
def algK (l : List Int) : Nat → Nat → Alg → Alg × Nat
 | 0, i, a => (a, i)
 | f + 1, i, a => algK l f (algStep l i a).2 (algStep l i a).1
theorem algK_in {l : List Int} : ∀ f i m a, AlgIn a m → AlgIn (algK l f i a).1 (m + f)
 | 0, _, _, _, h => h
 | f + 1, i, m, a, h => by
  have := algK_in (l := l) f (algStep l i a).2 (m + 1) _ (algStep_in (l := l) (i := i) h)
  rw [show m + 1 + f = m + (f + 1) by omega] at this
  exact this
theorem algK_dk {l : List Int} : ∀ f i a, Dk l i → Dk l (algK l f i a).2
 | 0, _, _, h => h
 | f + 1, _i, _a, h => algK_dk f _ _ (algStep_dk h)
def algD (l : List Int) (i : Nat) : Alg × Nat :=
 algK l (nextD l (tagD l (nextD l i 2).2).2 5).1 (nextD l (tagD l (nextD l i 2).2).2 5).2 ⟨decide ((nextD l i 2).1 = 0), (tagD l (nextD l i 2).2).1, 0, [], []⟩
theorem algD_dk {l : List Int} {i : Nat} (h : Dk l i) : Dk l (algD l i).2 := algK_dk _ _ _ (nextD_dk _ (tagD_dk (nextD_dk _ h)))
theorem algD_in (l : List Int) (i : Nat) : AlgIn (algD l i).1 5 := by
 have h := algK_in (l := l) (nextD l (tagD l (nextD l i 2).2).2 5).1 (nextD l (tagD l (nextD l i 2).2).2 5).2 0 ⟨decide ((nextD l i 2).1 = 0), (tagD l (nextD l i 2).2).1, 0, [], []⟩ ⟨by simp, by simp, by simp, by simp, fun e he => by simp at he, fun e he => by simp at he⟩
 have h2 := nextD_lt l (tagD l (nextD l i 2).2).2 5 (by omega)
 exact h.more (by omega)
set_option maxHeartbeats 4000000 in
theorem Algebra_spec (l : List Int) (i : Nat) (h : Dk l i) (d k : Nat) :
  ACall Tryz.prog 50 [.ptr d [] 0] k [(d, deckBox l i)] (algAV (algD l i).1) [(d, deckBox l (algD l i).2)] := by
 unfold algD
 have c1 := Next_spec l i 2 h (by omega) (by omega)
 have d1 := nextD_dk 2 h
 have b1 := nextD_lt l i 2 (by omega)
 generalize nextD l i 2 = X at *
 obtain ⟨q, j1⟩ := X
 simp only at c1 d1 b1 ⊢
 have c2 := Tag_spec l j1 d1
 have d2 := tagD_dk d1
 generalize tagD l j1 = X at *
 obtain ⟨sd, j2⟩ := X
 simp only at c2 d2 ⊢
 have c4 := Next_spec l j2 5 d2 (by omega) (by omega)
 have d4 := nextD_dk 5 d2
 have b4 := nextD_lt l j2 5 (by omega)
 generalize nextD l j2 5 = X at *
 obtain ⟨K, j4⟩ := X
 simp only at c4 d4 b4 ⊢
 have hK : K ≤ 4 := by omega
 obtain ⟨fr, hfr⟩ : ∃ fr, decide (q = 0) = fr := ⟨_, rfl⟩
 have hfr2 : decide ((q : Int) = 0) = fr := by rw [← hfr]; congr 1; exact propext (by omega)
 have hfr3 : ((q : Int) == 0) = fr := by rw [← hfr2]; rfl
 have c3 := refNew_spec fr sd
 rw [hfr]
 generalize hA0 : (⟨fr, sd, 0, [], []⟩ : Alg) = A0 at *
 have hin : AlgIn A0 4 := by rw [← hA0]; exact ⟨by simp, by simp, by simp, by simp, fun e he => by simp at he, fun e he => by simp at he⟩
 have hin3 : AlgIn A0 (8 - K) := hin.more (by omega)
 obtain ⟨R, hR⟩ : ∃ R, algK l K j4 A0 = R := ⟨_, rfl⟩
 rw [hR]
 obtain ⟨R1, R2⟩ := R
 simp only
 refine Bd Tryz.func50 Tryz.ntmps50 fun σ N hp hpn hk hkn hfree => ?_
 obtain ⟨hd, hdn⟩ := HD0 hp hpn; clear hp hpn
 have hcs := And.intro (c1 d) (And.intro (c2 d) (And.intro c3 (And.intro (c4 d) True.intro)))
 clear c1 c2 c3 c4 d1 d2 h hfr hA0 b1 b4
 refine Wk ?_
 clear hcs
 have hn7 : ¬ N + 1 + 6 = d := by omega
 have hn8 : ¬ d = N + 1 + 6 := by omega
 refine go_loopF mixed (by kernel_rfl) [4, 13, 14, 15, 16, 17, 18, 19, 20, 21, 22, 23, 24, 25, 26, 27, 28, 29, 30, 31, 32, 33, 34, 35, 36, 37, 38, 39, 40, 41, 42, 43, 44, 45, 46, 47, 48, 49, 50, 51, 52, 53, 54] [d, N+7] (fun m_ s_ σ_ n_ => ∃ (f : Nat) (j' : Nat) (A : Alg), m_ = f ∧ s_ 4 = .lit (.int .i64 f) ∧ σ_ (d) = deckBox l j' ∧ σ_ (N+7) = .box 38 (algAV A) ∧ (f ≤ 4) ∧ (Dk l j') ∧ (AlgIn A (8 - f)) ∧ (algK l f j' A = (R1, R2))) ⟨_, K, j4, A0, rfl, WF, WF, WF, WC, WC, WC, WC⟩ ?_
 intro m_1 s_1 σ_1 n_1 hs_1 hf_1 hn_1 hI_1
 obtain ⟨f, j', A, hm_1, h1_4, e1_0, e1_1, hfl, hdj, hai, hacc⟩ := hI_1
 have h1_0 := KS hs_1 0
 have h1_2 := KS hs_1 2
 have h1_3 := KS hs_1 3
 have k1_0 := KE hf_1 (N)
 have hlow := KD (N := N) (d := d) (σ := σ) hf_1
 cases f with
 | zero =>
  simp only [algK, Prod.mk.injEq] at hacc
  obtain ⟨rfl, rfl⟩ := hacc
  refine Wk ?_
  exact RW (d) (deckBox l j')
 | succ f =>
  have hin2 := algStep_in (l := l) (i := j') hai
  have hdk2 := algStep_dk (a := A) hdj
  rw [show 8 - (f + 1) + 1 = 8 - f by omega] at hin2
  rw [algK] at hacc
  have c1 := Next_spec l j' 3 hdj (by omega) (by omega)
  have d1 := nextD_dk 3 hdj
  have b1 := nextD_lt l j' 3 (by omega)
  obtain ⟨St, hSt⟩ : ∃ St, algStep l j' A = St := ⟨_, rfl⟩
  rw [hSt] at hin2 hdk2 hacc
  unfold algStep at hSt
  generalize nextD l j' 3 = X at *
  obtain ⟨p, j5⟩ := X
  simp only at c1 d1 b1 hSt
  by_cases p0 : p = 0
  ·subst p0
   rw [if_pos rfl] at hSt
   have c2 := Key_spec A hai.f0
   generalize keyS A = X at *
   obtain ⟨A', t, e⟩ := X
   subst hSt
   unfold mkAV at c2
   simp only at c2 hin2 hdk2 hacc
   have hcs := And.intro (c1 d) (And.intro c2 True.intro)
   clear c1 c2 hai hdj d1 b1
   refine Wk ?_
   exact ⟨WS, WG, WN, _, (show (f) < m_1 by omega), f, j5, A', rfl, WF, WF, WF, WC, WC, WC, WC⟩
  ·rw [if_neg p0] at hSt
   have c2 := Known_spec l j5 d1 A _ hai (by omega)
   have d2 := knownD_dk A d1
   generalize knownD l j5 A = X at *
   obtain ⟨ky, j6⟩ := X
   simp only at c2 d2 hSt
   by_cases p1 : p = 1
   ·subst p1
    rw [if_pos rfl] at hSt
    have c3 := Bytes_spec l j6 6 d2 (by omega)
    have b3 := bytesD_len l j6 6
    generalize bytesD l j6 6 = X at *
    obtain ⟨bb, j7⟩ := X
    simp only at c3 b3 hSt
    have c4 := Mac_spec A ky bb (by have := hai.ml; omega) hai.mm
    generalize macS A ky bb = X at *
    obtain ⟨A', t, e⟩ := X
    subst hSt
    unfold mkAV at c4
    simp only at c4 hin2 hdk2 hacc
    have hcs := And.intro (c1 d) (And.intro (c2 d) (And.intro (c3 d) (And.intro c4 True.intro)))
    clear c1 c2 c3 c4 hai hdj d1 b1 d2
    refine Wk ?_
    exact ⟨WS, WG, WN, _, (show (f) < m_1 by omega), f, j7, A', rfl, WF, WF, WF, WC, WC, WC, WC⟩
   ·rw [if_neg p1] at hSt
    obtain rfl : p = 2 := by omega
    have c3 := Next_spec l j6 4 d2 (by omega) (by omega)
    have d3 := nextD_dk 4 d2
    generalize nextD l j6 4 = X at *
    obtain ⟨nn, j7⟩ := X
    simp only at c3 d3 hSt
    have c4 := Bytes_spec l j7 40 d3 (by omega)
    have b4 := bytesD_len l j7 40
    generalize bytesD l j7 40 = X at *
    obtain ⟨bb, j8⟩ := X
    simp only at c4 b4 hSt
    have c5 := Seal_spec A ky nn bb (by have := hai.bl; omega) hai.bm
    generalize sealS A ky nn bb = X at *
    obtain ⟨A', t, e⟩ := X
    subst hSt
    unfold skAV at c5
    simp only at c5 hin2 hdk2 hacc
    have hcs := And.intro (c1 d) (And.intro (c2 d) (And.intro (c3 d) (And.intro (c4 d) (And.intro c5 True.intro))))
    clear c1 c2 c3 c4 c5 hai hdj d1 b1 d2 d3
    refine Wk ?_
    exact ⟨WS, WG, WN, _, (show (f) < m_1 by omega), f, j8, A', rfl, WF, WF, WF, WC, WC, WC, WC⟩
end
end Go.Proofs.YtdmjpolnbmoehaaGreatDoor

namespace Go.Proofs.YtdmjpolnbmoehaaGreatDoor
open Go.Ab
attribute [local irreducible] Go.Ab.tyAV Go.Ab.aw Go.Ab.aops Go.Ab.kReg Go.Ab.aThen Go.Ab.aBlk Go.Ab.acond Go.Ab.aguard Go.Ab.astep Go.Ab.AStepX Go.Ab.aRet

structure BoIn (d : Bo) : Prop where
 tl : d.ticket.length ≤ 9223372036854775807
 cl : d.conds.length ≤ 9223372036854775807
 ok : ∀ p ∈ d.conds, PrOk p
structure BuIn (b : Bu) : Prop where
 cl : b.cavs.length ≤ 1000
 dl : b.dis.length ≤ 1000
 ok : ∀ c ∈ b.cavs, PrOk c.first
 di : ∀ d ∈ b.dis, BoIn d
end Go.Proofs.YtdmjpolnbmoehaaGreatDoor
