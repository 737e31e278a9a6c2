/- The laws DeviceTorn and DeviceFull. -/
import Derived.Test.YthklokpgjfopnaaV8
namespace Go.Proofs.Ythklokpgjfopnaa
open Go.Ab
attribute [local irreducible] Go.Ab.aw Go.Ab.aops Go.Ab.kReg Go.Ab.aThen Go.Ab.aBlk Go.Ab.acond Go.Ab.aguard Go.Ab.astep Go.Ab.AStepX Go.Ab.aRet

theorem data_cap {d : Dv} {w : Nat} (h : DvB d w) : (d.data.length : Int) ≤ d.cap := by
  have h1 := h.l0
  have h2 := h.l1
  unfold Dv.data Dv.area
  split <;> assumption

theorem app_full {d : Dv} {w : Nat} {b : List UInt8} (_h : DvB d w) (ho : d.off = false) (hc : d.cap < d.data.length + b.length) : appS d b = (d, 26) := by
  rw [appS, writeS, if_neg (by simp [ho]), if_pos hc]
theorem rep_full {d : Dv} {w : Nat} {b : List UInt8} (_h : DvB d w) (ho : d.off = false) (hc : d.cap < b.length) : repS d b = (d, 26) := by
  rw [repS, writeS, if_neg (by simp [ho]), if_pos (by omega)]
theorem app_off {d : Dv} {b : List UInt8} (ho : d.off = true) : appS d b = (d, 27) := by rw [appS, writeS, if_pos ho]
theorem rep_off {d : Dv} {b : List UInt8} (ho : d.off = true) : repS d b = (d, 27) := by rw [repS, writeS, if_pos ho]
theorem app_torn {d : Dv} {w : Nat} {b : List UInt8} (h : DvB d w) (ho : d.off = false) (hc : ¬ d.cap < d.data.length + b.length) (hcut : d.wr + 1 = d.cutAt) :
    ∃ y, appS d b = (y, 27) ∧ y.off = true ∧ y.data = d.data ++ b.take (cutN d.torn b.length) := by
  refine ⟨_, by rw [appS, writeS, if_neg (by simp [ho]), if_neg hc, if_pos hcut], rfl, ?_⟩
  rcases h.act with e | e <;> simp [Dv.data, Dv.area, Dv.put, e]
theorem rep_torn {d : Dv} {w : Nat} {b : List UInt8} (h : DvB d w) (ho : d.off = false) (hc : ¬ d.cap < b.length) (hcut : d.wr + 1 = d.cutAt) :
    ∃ y, repS d b = (y, 27) ∧ y.off = true ∧ y.data = d.data := by
  refine ⟨_, by rw [repS, writeS, if_neg (by simp [ho]), if_neg (by omega), if_pos hcut], rfl, ?_⟩
  rcases h.act with e | e <;> simp [Dv.data, Dv.area, Dv.put, e]
theorem app_cap (d : Dv) (b : List UInt8) : (appS d b).1.cap = d.cap := by
  unfold appS writeS Dv.put
  split
  · rfl
  · split
    · rfl
    · split <;> split <;> rfl
theorem rep_cap (d : Dv) (b : List UInt8) : (repS d b).1.cap = d.cap := by
  unfold repS writeS Dv.put
  split
  · rfl
  · split
    · rfl
    · split <;> split <;> rfl

set_option maxHeartbeats 4000000 in
theorem dfull_core (deck : List Int) (hd : deck.length ≤ 9223372036854775807) (bb b : List UInt8) (m : Nat) (h1 : (if (200 : Int) < (bb.length : Int) then (200 : Int) else (bb.length : Int)) = (m : Int)) (h2 : m ≤ bb.length) (h3 : m ≤ 200) (h4 : b.length = m) (h5 : (bb.map byteAV).take m = b.map byteAV) (k : Nat) :
    ACall Try.prog 8 [.slice none (deck.map intAV), .slice none (bb.map byteAV)] k [] (.lit (.bool true)) [] := by
  have m1 := made_spec deck hd
  obtain ⟨mB, mD⟩ := madeD_B hd
  generalize madeD deck = X3 at *
  obtain ⟨x, j⟩ := X3
  simp only at m1 mB mD
  have hA := mB.A (by omega)
  have a1 := Append_spec x b hA (by omega)
  have a2 := Replace_spec x b hA (by omega)
  have B1 := wrS_B (b := b) false mB
  have B2 := wrS_B (b := b) true mB
  rw [show wrS x b false = appS x b from rfl] at B1
  rw [show wrS x b true = repS x b from rfl] at B2
  have c1 := app_cap x b
  have c2 := rep_cap x b
  have f1 : x.off = true → appS x b = (x, 27) := app_off
  have f2 : x.off = true → repS x b = (x, 27) := rep_off
  have f3 : x.off = false → x.cap < x.data.length + b.length → appS x b = (x, 26) := app_full mB
  have f4 : x.off = false → x.cap < b.length → repS x b = (x, 26) := rep_full mB
  generalize appS x b = P1 at *
  generalize repS x b = P2 at *
  obtain ⟨y, e⟩ := P1
  obtain ⟨z, f⟩ := P2
  simp only at a1 a2 B1 B2 c1 c2
  have dy := data_cap B1
  have dz := data_cap B2
  have dx := data_cap mB
  have cx2 := mB.cap2
  have d1 := Data_spec y (B1.A (by omega))
  have d2 := Data_spec z (B2.A (by omega))
  have d3 := Data_spec x hA
  have s0 := SameDev_spec x (by have := hA.h0; omega) (by have := hA.h1; omega)
  rw [c1] at dy
  rw [c2] at dz
  have ny : ¬ x.cap < y.data.length := by omega
  have nz : ¬ x.cap < z.data.length := by omega
  generalize y.data = ydt at *
  generalize z.data = zdt at *
  clear B1 B2 c1 c2 mD hA mB
  cases ho : x.off with
  | true =>
    have e1 := f1 ho
    have e2 := f2 ho
    simp only [Prod.mk.injEq] at e1 e2
    obtain ⟨rfl, rfl⟩ := e1
    obtain ⟨rfl, rfl⟩ := e2
    refine ACall.of_body mixed Try.func8 rfl (by kernel_rfl) Try.ntmps8 (by kernel_rfl) rfl (by simp) (by simp) (by simp) fun σ N hp hpn hk hkn hfree => ?_
    have hcs := And.intro m1 (And.intro a1 (And.intro a2 (And.intro d1 (And.intro d2 (And.intro s0 (And.intro s0 (And.intro awake18_spec True.intro)))))))
    clear f1 f2 f3 f4 m1 a1 a2 d1 d2 d3 s0
    repeat (first | (refine go_nil ?_) | (refine go_kreg ?_) | (refine go_kreg0 ?_) | (refine go_kreg1 ?_) | (apply go_kregT; · (first | (simp [addT, CF, CFy, Ind, DisjF]; done) | (simp only [addT, CF, CFy, Ind]; repeat' (first | exact trivial | apply And.intro | exact Or.inl (by decide +kernel) | (refine Or.inr ⟨?_, ?_⟩ <;> (simp; try omega)))))) | (refine go_then ?_) | (refine go_then_exit ?_) | (refine go_then_ret ?_) | (refine go_blk ?_) | (refine go_blk_ret ?_) | (refine go_blk_here ?_) | (apply go_blk_there; · rfl) | (refine go_seq ?_) | (apply go_region; · (simp only [List.length_cons, List.length_nil, Nat.reduceAdd, Nat.add_assoc]; rfl)) | (refine go_skip ?_) | (refine go_block ?_) | (refine go_scope ?_) | (refine go_label ?_) | (refine go_exit ?_) | (refine go_ret ?_) | (apply go_mut; (· assumption); · (simp (disch := omega) [go_sem, *, -List.reduceReplicate]; first | exact ⟨rfl, rfl⟩ | (simp [go_sem, *]; exact ⟨rfl, rfl⟩))) | (apply go_mutP; (· assumption); · (simp (disch := omega) [go_sem, *, -List.reduceReplicate]; first | done | rfl)) | (apply go_guard_in; (· rfl); · (simp (disch := omega) [go_sem, *, -List.reduceReplicate]; try first | rfl | omega)) | (apply go_guard_off; (· rfl); · (simp (disch := omega) [go_sem, *, -List.reduceReplicate]; try first | rfl | omega)) | (apply go_guard_no; (· rfl); · (simp (disch := omega) [go_sem, *, -List.reduceReplicate]; try rfl)) | (apply go_move; · (simp (disch := omega) [go_sem, *, -List.reduceReplicate]; try rfl)) | (apply go_assign; · (simp (disch := omega) [go_sem, *, -List.reduceReplicate]; try rfl)) | (apply go_load; · (simp (disch := omega) [go_sem, *, -List.reduceReplicate]; exact ⟨rfl, rfl⟩)) | (apply go_loadv; · (simp (disch := omega) [go_sem, *, -List.reduceReplicate]; try rfl)) | (apply go_store; · (simp (disch := omega) [go_sem, *, -List.reduceReplicate]; exact ⟨rfl, rfl⟩)) | (apply go_append; · (simp (disch := omega) [go_sem, *, -List.reduceReplicate]; exact ⟨rfl, rfl, rfl⟩)) | (apply go_appendz; (· rfl); · (simp (disch := omega) [go_sem, *, -List.reduceReplicate]; exact ⟨rfl, rfl, rfl⟩)) | (apply go_append0; · (simp (disch := omega) [go_sem, *, -List.reduceReplicate]; exact ⟨rfl, rfl⟩)) | (apply go_new; (· rfl); · (simp (disch := omega) [go_sem, *, -List.reduceReplicate]; first | exact ⟨rfl, rfl⟩ | (simp [go_sem, *]; exact ⟨rfl, rfl⟩))) | (apply go_pure; (· rfl); · (simp (disch := omega) [go_sem, *, -List.reduceReplicate]; first | done | rfl | (simp [go_sem, *]; try rfl))) | (apply go_read1; (· rfl); · (simp (disch := omega) [go_sem, *, -List.reduceReplicate]; exact ⟨rfl, rfl⟩)) | (apply go_rw1; (· rfl); · (simp (disch := omega) [go_sem, *, -List.reduceReplicate]; exact ⟨rfl, rfl, rfl⟩)) | (apply go_new1; (· rfl); · (simp (disch := omega) [go_sem, *, -List.reduceReplicate]; exact ⟨rfl, rfl⟩)) | (apply go_copy; · (simp (disch := omega) [go_sem, *, -List.reduceReplicate]; exact ⟨rfl, rfl, rfl⟩)) | (apply go_copy0; · (simp (disch := omega) [go_sem, *, -List.reduceReplicate]; exact ⟨rfl, rfl, rfl⟩)) | (apply go_clear0; · (simp (disch := omega) [go_sem, *, -List.reduceReplicate]; exact ⟨rfl, rfl, rfl⟩)) | (apply go_conv; · (simp (disch := omega) [go_sem, *, -List.reduceReplicate]; exact ⟨rfl, rfl, rfl⟩)) | (apply go_condT; · (simp (disch := omega) [go_sem, *, -List.reduceReplicate]; try first | rfl | omega; done)) | (apply go_condF; · (simp (disch := omega) [go_sem, *, -List.reduceReplicate]; try first | rfl | omega; done)) | (obtain ⟨hcall, hcs⟩ := hcs; refine go_callw (hcall _) (by simp (disch := omega) [go_sem, *, -List.reduceReplicate]; try rfl) (by simp (disch := omega) [go_sem, *, -List.reduceReplicate]; repeat (first | exact ALe.nil | (refine ALe.cons (by first | exact AV.le_refl _ | exact AV.le_nils | exact AV.le_own _ _) ?_))) (by simp (disch := omega) [go_sem, *, -List.reduceReplicate]) ?_; clear hcall))
    refine go_result (by simp (disch := omega) [go_sem, *, -List.reduceReplicate]; rfl) (by simp (disch := omega) [go_sem]; try rfl) (fun id hid => by simp (disch := omega) only [upd_ne, wr_cons, wr_nil]; try exact hlow id hid)
  | false =>
    by_cases hc1 : x.cap < x.data.length + b.length
    · have e1 := f3 ho hc1
      simp only [Prod.mk.injEq] at e1
      obtain ⟨rfl, rfl⟩ := e1
      generalize y.data = xdt at *
      by_cases hc2 : y.cap < b.length
      · have e2 := f4 ho hc2
        simp only [Prod.mk.injEq] at e2
        obtain ⟨rfl, rfl⟩ := e2
        have hm2 : z.cap < (m : Int) := by omega
        have hm1 : z.cap < (xdt.length : Int) + (m : Int) := by omega
        refine ACall.of_body mixed Try.func8 rfl (by kernel_rfl) Try.ntmps8 (by kernel_rfl) rfl (by simp) (by simp) (by simp) fun σ N hp hpn hk hkn hfree => ?_
        have hcs := And.intro m1 (And.intro a1 (And.intro a2 (And.intro d1 (And.intro d2 (And.intro d3 (And.intro s0 (And.intro s0 (And.intro awake18_spec True.intro))))))))
        clear f1 f2 f3 f4 m1 a1 a2 d1 d2 d3 s0
        repeat (first | (refine go_nil ?_) | (refine go_kreg ?_) | (refine go_kreg0 ?_) | (refine go_kreg1 ?_) | (apply go_kregT; · (first | (simp [addT, CF, CFy, Ind, DisjF]; done) | (simp only [addT, CF, CFy, Ind]; repeat' (first | exact trivial | apply And.intro | exact Or.inl (by decide +kernel) | (refine Or.inr ⟨?_, ?_⟩ <;> (simp; try omega)))))) | (refine go_then ?_) | (refine go_then_exit ?_) | (refine go_then_ret ?_) | (refine go_blk ?_) | (refine go_blk_ret ?_) | (refine go_blk_here ?_) | (apply go_blk_there; · rfl) | (refine go_seq ?_) | (apply go_region; · (simp only [List.length_cons, List.length_nil, Nat.reduceAdd, Nat.add_assoc]; rfl)) | (refine go_skip ?_) | (refine go_block ?_) | (refine go_scope ?_) | (refine go_label ?_) | (refine go_exit ?_) | (refine go_ret ?_) | (apply go_mut; (· assumption); · (simp (disch := omega) [go_sem, *, -List.reduceReplicate]; first | exact ⟨rfl, rfl⟩ | (simp [go_sem, *]; exact ⟨rfl, rfl⟩))) | (apply go_mutP; (· assumption); · (simp (disch := omega) [go_sem, *, -List.reduceReplicate]; first | done | rfl)) | (apply go_guard_in; (· rfl); · (simp (disch := omega) [go_sem, *, -List.reduceReplicate]; try first | rfl | omega)) | (apply go_guard_off; (· rfl); · (simp (disch := omega) [go_sem, *, -List.reduceReplicate]; try first | rfl | omega)) | (apply go_guard_no; (· rfl); · (simp (disch := omega) [go_sem, *, -List.reduceReplicate]; try rfl)) | (apply go_move; · (simp (disch := omega) [go_sem, *, -List.reduceReplicate]; try rfl)) | (apply go_assign; · (simp (disch := omega) [go_sem, *, -List.reduceReplicate]; try rfl)) | (apply go_load; · (simp (disch := omega) [go_sem, *, -List.reduceReplicate]; exact ⟨rfl, rfl⟩)) | (apply go_loadv; · (simp (disch := omega) [go_sem, *, -List.reduceReplicate]; try rfl)) | (apply go_store; · (simp (disch := omega) [go_sem, *, -List.reduceReplicate]; exact ⟨rfl, rfl⟩)) | (apply go_append; · (simp (disch := omega) [go_sem, *, -List.reduceReplicate]; exact ⟨rfl, rfl, rfl⟩)) | (apply go_appendz; (· rfl); · (simp (disch := omega) [go_sem, *, -List.reduceReplicate]; exact ⟨rfl, rfl, rfl⟩)) | (apply go_append0; · (simp (disch := omega) [go_sem, *, -List.reduceReplicate]; exact ⟨rfl, rfl⟩)) | (apply go_new; (· rfl); · (simp (disch := omega) [go_sem, *, -List.reduceReplicate]; first | exact ⟨rfl, rfl⟩ | (simp [go_sem, *]; exact ⟨rfl, rfl⟩))) | (apply go_pure; (· rfl); · (simp (disch := omega) [go_sem, *, -List.reduceReplicate]; first | done | rfl | (simp [go_sem, *]; try rfl))) | (apply go_read1; (· rfl); · (simp (disch := omega) [go_sem, *, -List.reduceReplicate]; exact ⟨rfl, rfl⟩)) | (apply go_rw1; (· rfl); · (simp (disch := omega) [go_sem, *, -List.reduceReplicate]; exact ⟨rfl, rfl, rfl⟩)) | (apply go_new1; (· rfl); · (simp (disch := omega) [go_sem, *, -List.reduceReplicate]; exact ⟨rfl, rfl⟩)) | (apply go_copy; · (simp (disch := omega) [go_sem, *, -List.reduceReplicate]; exact ⟨rfl, rfl, rfl⟩)) | (apply go_copy0; · (simp (disch := omega) [go_sem, *, -List.reduceReplicate]; exact ⟨rfl, rfl, rfl⟩)) | (apply go_clear0; · (simp (disch := omega) [go_sem, *, -List.reduceReplicate]; exact ⟨rfl, rfl, rfl⟩)) | (apply go_conv; · (simp (disch := omega) [go_sem, *, -List.reduceReplicate]; exact ⟨rfl, rfl, rfl⟩)) | (apply go_condT; · (simp (disch := omega) [go_sem, *, -List.reduceReplicate]; try first | rfl | omega; done)) | (apply go_condF; · (simp (disch := omega) [go_sem, *, -List.reduceReplicate]; try first | rfl | omega; done)) | (obtain ⟨hcall, hcs⟩ := hcs; refine go_callw (hcall _) (by simp (disch := omega) [go_sem, *, -List.reduceReplicate]; try rfl) (by simp (disch := omega) [go_sem, *, -List.reduceReplicate]; repeat (first | exact ALe.nil | (refine ALe.cons (by first | exact AV.le_refl _ | exact AV.le_nils | exact AV.le_own _ _) ?_))) (by simp (disch := omega) [go_sem, *, -List.reduceReplicate]) ?_; clear hcall))
        refine go_result (by simp (disch := omega) [go_sem, *, -List.reduceReplicate]; rfl) (by simp (disch := omega) [go_sem]; try rfl) (fun id hid => by simp (disch := omega) only [upd_ne, wr_cons, wr_nil]; try exact hlow id hid)
      · have hm2 : ¬ y.cap < (m : Int) := by omega
        have hm1 : y.cap < (xdt.length : Int) + (m : Int) := by omega
        refine ACall.of_body mixed Try.func8 rfl (by kernel_rfl) Try.ntmps8 (by kernel_rfl) rfl (by simp) (by simp) (by simp) fun σ N hp hpn hk hkn hfree => ?_
        have hcs := And.intro m1 (And.intro a1 (And.intro a2 (And.intro d1 (And.intro d2 (And.intro d3 (And.intro s0 (And.intro awake18_spec True.intro)))))))
        clear f1 f2 f3 f4 m1 a1 a2 d1 d2 d3 s0
        repeat (first | (refine go_nil ?_) | (refine go_kreg ?_) | (refine go_kreg0 ?_) | (refine go_kreg1 ?_) | (apply go_kregT; · (first | (simp [addT, CF, CFy, Ind, DisjF]; done) | (simp only [addT, CF, CFy, Ind]; repeat' (first | exact trivial | apply And.intro | exact Or.inl (by decide +kernel) | (refine Or.inr ⟨?_, ?_⟩ <;> (simp; try omega)))))) | (refine go_then ?_) | (refine go_then_exit ?_) | (refine go_then_ret ?_) | (refine go_blk ?_) | (refine go_blk_ret ?_) | (refine go_blk_here ?_) | (apply go_blk_there; · rfl) | (refine go_seq ?_) | (apply go_region; · (simp only [List.length_cons, List.length_nil, Nat.reduceAdd, Nat.add_assoc]; rfl)) | (refine go_skip ?_) | (refine go_block ?_) | (refine go_scope ?_) | (refine go_label ?_) | (refine go_exit ?_) | (refine go_ret ?_) | (apply go_mut; (· assumption); · (simp (disch := omega) [go_sem, *, -List.reduceReplicate]; first | exact ⟨rfl, rfl⟩ | (simp [go_sem, *]; exact ⟨rfl, rfl⟩))) | (apply go_mutP; (· assumption); · (simp (disch := omega) [go_sem, *, -List.reduceReplicate]; first | done | rfl)) | (apply go_guard_in; (· rfl); · (simp (disch := omega) [go_sem, *, -List.reduceReplicate]; try first | rfl | omega)) | (apply go_guard_off; (· rfl); · (simp (disch := omega) [go_sem, *, -List.reduceReplicate]; try first | rfl | omega)) | (apply go_guard_no; (· rfl); · (simp (disch := omega) [go_sem, *, -List.reduceReplicate]; try rfl)) | (apply go_move; · (simp (disch := omega) [go_sem, *, -List.reduceReplicate]; try rfl)) | (apply go_assign; · (simp (disch := omega) [go_sem, *, -List.reduceReplicate]; try rfl)) | (apply go_load; · (simp (disch := omega) [go_sem, *, -List.reduceReplicate]; exact ⟨rfl, rfl⟩)) | (apply go_loadv; · (simp (disch := omega) [go_sem, *, -List.reduceReplicate]; try rfl)) | (apply go_store; · (simp (disch := omega) [go_sem, *, -List.reduceReplicate]; exact ⟨rfl, rfl⟩)) | (apply go_append; · (simp (disch := omega) [go_sem, *, -List.reduceReplicate]; exact ⟨rfl, rfl, rfl⟩)) | (apply go_appendz; (· rfl); · (simp (disch := omega) [go_sem, *, -List.reduceReplicate]; exact ⟨rfl, rfl, rfl⟩)) | (apply go_append0; · (simp (disch := omega) [go_sem, *, -List.reduceReplicate]; exact ⟨rfl, rfl⟩)) | (apply go_new; (· rfl); · (simp (disch := omega) [go_sem, *, -List.reduceReplicate]; first | exact ⟨rfl, rfl⟩ | (simp [go_sem, *]; exact ⟨rfl, rfl⟩))) | (apply go_pure; (· rfl); · (simp (disch := omega) [go_sem, *, -List.reduceReplicate]; first | done | rfl | (simp [go_sem, *]; try rfl))) | (apply go_read1; (· rfl); · (simp (disch := omega) [go_sem, *, -List.reduceReplicate]; exact ⟨rfl, rfl⟩)) | (apply go_rw1; (· rfl); · (simp (disch := omega) [go_sem, *, -List.reduceReplicate]; exact ⟨rfl, rfl, rfl⟩)) | (apply go_new1; (· rfl); · (simp (disch := omega) [go_sem, *, -List.reduceReplicate]; exact ⟨rfl, rfl⟩)) | (apply go_copy; · (simp (disch := omega) [go_sem, *, -List.reduceReplicate]; exact ⟨rfl, rfl, rfl⟩)) | (apply go_copy0; · (simp (disch := omega) [go_sem, *, -List.reduceReplicate]; exact ⟨rfl, rfl, rfl⟩)) | (apply go_clear0; · (simp (disch := omega) [go_sem, *, -List.reduceReplicate]; exact ⟨rfl, rfl, rfl⟩)) | (apply go_conv; · (simp (disch := omega) [go_sem, *, -List.reduceReplicate]; exact ⟨rfl, rfl, rfl⟩)) | (apply go_condT; · (simp (disch := omega) [go_sem, *, -List.reduceReplicate]; try first | rfl | omega; done)) | (apply go_condF; · (simp (disch := omega) [go_sem, *, -List.reduceReplicate]; try first | rfl | omega; done)) | (obtain ⟨hcall, hcs⟩ := hcs; refine go_callw (hcall _) (by simp (disch := omega) [go_sem, *, -List.reduceReplicate]; try rfl) (by simp (disch := omega) [go_sem, *, -List.reduceReplicate]; repeat (first | exact ALe.nil | (refine ALe.cons (by first | exact AV.le_refl _ | exact AV.le_nils | exact AV.le_own _ _) ?_))) (by simp (disch := omega) [go_sem, *, -List.reduceReplicate]) ?_; clear hcall))
        refine go_result (by simp (disch := omega) [go_sem, *, -List.reduceReplicate]; rfl) (by simp (disch := omega) [go_sem]; try rfl) (fun id hid => by simp (disch := omega) only [upd_ne, wr_cons, wr_nil]; try exact hlow id hid)
    · have hc2 : ¬ x.cap < b.length := by omega
      generalize x.data = xdt at *
      have hm2 : ¬ x.cap < (m : Int) := by omega
      have hm1 : ¬ x.cap < (xdt.length : Int) + (m : Int) := by omega
      refine ACall.of_body mixed Try.func8 rfl (by kernel_rfl) Try.ntmps8 (by kernel_rfl) rfl (by simp) (by simp) (by simp) fun σ N hp hpn hk hkn hfree => ?_
      have hcs := And.intro m1 (And.intro a1 (And.intro a2 (And.intro d1 (And.intro d2 (And.intro d3 (And.intro awake18_spec True.intro))))))
      clear f1 f2 f3 f4 m1 a1 a2 d1 d2 d3 s0
      repeat (first | (refine go_nil ?_) | (refine go_kreg ?_) | (refine go_kreg0 ?_) | (refine go_kreg1 ?_) | (apply go_kregT; · (first | (simp [addT, CF, CFy, Ind, DisjF]; done) | (simp only [addT, CF, CFy, Ind]; repeat' (first | exact trivial | apply And.intro | exact Or.inl (by decide +kernel) | (refine Or.inr ⟨?_, ?_⟩ <;> (simp; try omega)))))) | (refine go_then ?_) | (refine go_then_exit ?_) | (refine go_then_ret ?_) | (refine go_blk ?_) | (refine go_blk_ret ?_) | (refine go_blk_here ?_) | (apply go_blk_there; · rfl) | (refine go_seq ?_) | (apply go_region; · (simp only [List.length_cons, List.length_nil, Nat.reduceAdd, Nat.add_assoc]; rfl)) | (refine go_skip ?_) | (refine go_block ?_) | (refine go_scope ?_) | (refine go_label ?_) | (refine go_exit ?_) | (refine go_ret ?_) | (apply go_mut; (· assumption); · (simp (disch := omega) [go_sem, *, -List.reduceReplicate]; first | exact ⟨rfl, rfl⟩ | (simp [go_sem, *]; exact ⟨rfl, rfl⟩))) | (apply go_mutP; (· assumption); · (simp (disch := omega) [go_sem, *, -List.reduceReplicate]; first | done | rfl)) | (apply go_guard_in; (· rfl); · (simp (disch := omega) [go_sem, *, -List.reduceReplicate]; try first | rfl | omega)) | (apply go_guard_off; (· rfl); · (simp (disch := omega) [go_sem, *, -List.reduceReplicate]; try first | rfl | omega)) | (apply go_guard_no; (· rfl); · (simp (disch := omega) [go_sem, *, -List.reduceReplicate]; try rfl)) | (apply go_move; · (simp (disch := omega) [go_sem, *, -List.reduceReplicate]; try rfl)) | (apply go_assign; · (simp (disch := omega) [go_sem, *, -List.reduceReplicate]; try rfl)) | (apply go_load; · (simp (disch := omega) [go_sem, *, -List.reduceReplicate]; exact ⟨rfl, rfl⟩)) | (apply go_loadv; · (simp (disch := omega) [go_sem, *, -List.reduceReplicate]; try rfl)) | (apply go_store; · (simp (disch := omega) [go_sem, *, -List.reduceReplicate]; exact ⟨rfl, rfl⟩)) | (apply go_append; · (simp (disch := omega) [go_sem, *, -List.reduceReplicate]; exact ⟨rfl, rfl, rfl⟩)) | (apply go_appendz; (· rfl); · (simp (disch := omega) [go_sem, *, -List.reduceReplicate]; exact ⟨rfl, rfl, rfl⟩)) | (apply go_append0; · (simp (disch := omega) [go_sem, *, -List.reduceReplicate]; exact ⟨rfl, rfl⟩)) | (apply go_new; (· rfl); · (simp (disch := omega) [go_sem, *, -List.reduceReplicate]; first | exact ⟨rfl, rfl⟩ | (simp [go_sem, *]; exact ⟨rfl, rfl⟩))) | (apply go_pure; (· rfl); · (simp (disch := omega) [go_sem, *, -List.reduceReplicate]; first | done | rfl | (simp [go_sem, *]; try rfl))) | (apply go_read1; (· rfl); · (simp (disch := omega) [go_sem, *, -List.reduceReplicate]; exact ⟨rfl, rfl⟩)) | (apply go_rw1; (· rfl); · (simp (disch := omega) [go_sem, *, -List.reduceReplicate]; exact ⟨rfl, rfl, rfl⟩)) | (apply go_new1; (· rfl); · (simp (disch := omega) [go_sem, *, -List.reduceReplicate]; exact ⟨rfl, rfl⟩)) | (apply go_copy; · (simp (disch := omega) [go_sem, *, -List.reduceReplicate]; exact ⟨rfl, rfl, rfl⟩)) | (apply go_copy0; · (simp (disch := omega) [go_sem, *, -List.reduceReplicate]; exact ⟨rfl, rfl, rfl⟩)) | (apply go_clear0; · (simp (disch := omega) [go_sem, *, -List.reduceReplicate]; exact ⟨rfl, rfl, rfl⟩)) | (apply go_conv; · (simp (disch := omega) [go_sem, *, -List.reduceReplicate]; exact ⟨rfl, rfl, rfl⟩)) | (apply go_condT; · (simp (disch := omega) [go_sem, *, -List.reduceReplicate]; try first | rfl | omega; done)) | (apply go_condF; · (simp (disch := omega) [go_sem, *, -List.reduceReplicate]; try first | rfl | omega; done)) | (obtain ⟨hcall, hcs⟩ := hcs; refine go_callw (hcall _) (by simp (disch := omega) [go_sem, *, -List.reduceReplicate]; try rfl) (by simp (disch := omega) [go_sem, *, -List.reduceReplicate]; repeat (first | exact ALe.nil | (refine ALe.cons (by first | exact AV.le_refl _ | exact AV.le_nils | exact AV.le_own _ _) ?_))) (by simp (disch := omega) [go_sem, *, -List.reduceReplicate]) ?_; clear hcall))
      refine go_result (by simp (disch := omega) [go_sem, *, -List.reduceReplicate]; rfl) (by simp (disch := omega) [go_sem]; try rfl) (fun id hid => by simp (disch := omega) only [upd_ne, wr_cons, wr_nil]; try exact hlow id hid)
theorem DeviceFull_spec (deck : List Int) (_ : ∀ n ∈ deck, (Lit.int .i64 n).wf = true) (hd : deck.length ≤ 9223372036854775807) (b : List UInt8) (k : Nat) :
    ACall Try.prog 8 [.slice none (deck.map intAV), .slice none (b.map byteAV)] k [] (.lit (.bool true)) [] := by
  obtain ⟨m, t, h1, h2, h3, h4, h5⟩ := cutAt 200 b
  exact dfull_core deck hd b t m h1 h2 h3 h4 h5 k

set_option maxHeartbeats 4000000 in
theorem dtorn_core (deck : List Int) (hd : deck.length ≤ 9223372036854775807) (bb b : List UInt8) (m : Nat) (h1 : (if (100 : Int) < (bb.length : Int) then (100 : Int) else (bb.length : Int)) = (m : Int)) (h2 : m ≤ bb.length) (h3 : m ≤ 100) (h4 : b.length = m) (h5 : (bb.map byteAV).take m = b.map byteAV)
    (torn t60 : Int) (hw : IntKind.i64.wrap torn = torn) (ht : torn.tmod 60 = t60) (ht0 : 0 ≤ t60) (q : Nat) (bq : List UInt8) (hq : (if (b.length : Int) < t60 then (b.length : Int) else t60) = (q : Int)) (hql : q ≤ b.length) (hbq : (b.map byteAV).take q = bq.map byteAV) (hbq2 : b.take (cutN t60 b.length) = bq) (hbl : bq.length = q) (k : Nat) :
    ACall Try.prog 10 [.slice none (deck.map intAV), .slice none (bb.map byteAV), .lit (.int .u8 torn)] k [] (.lit (.bool true)) [] := by
  have m1 := made_spec deck hd
  obtain ⟨mB, mD⟩ := madeD_B hd
  generalize madeD deck = X3 at *
  obtain ⟨x, j⟩ := X3
  simp only at m1 mB mD
  have g1 := Restart_spec x (mB.A (by omega)).toDvOk
  have g2 := Cut_spec (resS x) t60 ((resS_B mB).A (by omega)).toDvOk
  have B := cutS_B (x := t60) (resS_B mB)
  have ho : (cutS (resS x) t60).off = false := rfl
  have hcut : (cutS (resS x) t60).wr + 1 = (cutS (resS x) t60).cutAt := rfl
  have htt : (cutS (resS x) t60).torn = t60 := rfl
  generalize cutS (resS x) t60 = y at *
  generalize resS x = xr at *
  have hA := B.A (by omega)
  have a1 := Append_spec y b hA (by omega)
  have a2 := Replace_spec y b hA (by omega)
  have B1 := wrS_B (b := b) false B
  have B2 := wrS_B (b := b) true B
  rw [show wrS y b false = appS y b from rfl] at B1
  rw [show wrS y b true = repS y b from rfl] at B2
  have d0 := Data_spec y hA
  have dy := data_cap B
  have cy2 := B.cap2
  have s0 := SameDev_spec y (by have := hA.h0; omega) (by have := hA.h1; omega)
  by_cases hc : y.cap < y.data.length + b.length
  · rw [app_full B ho hc] at a1
    simp only at a1
    generalize y.data = dt at *
    by_cases hc2 : y.cap < b.length
    · rw [rep_full B ho hc2] at a2
      simp only at a2
      refine ACall.of_body mixed Try.func10 rfl (by kernel_rfl) Try.ntmps10 (by kernel_rfl) rfl (by simp) (by simp) (by simp) fun σ N hp hpn hk hkn hfree => ?_
      have hcs := And.intro m1 (And.intro g1 (And.intro g2 (And.intro d0 (And.intro a1 (And.intro a2 (And.intro s0 (And.intro awake18_spec True.intro)))))))
      clear m1 g1 g2 d0 a1 a2 s0 hA B B1 B2 mB
      repeat (first | (refine go_nil ?_) | (refine go_kreg ?_) | (refine go_kreg0 ?_) | (refine go_kreg1 ?_) | (apply go_kregT; · (first | (simp [addT, CF, CFy, Ind, DisjF]; done) | (simp only [addT, CF, CFy, Ind]; repeat' (first | exact trivial | apply And.intro | exact Or.inl (by decide +kernel) | (refine Or.inr ⟨?_, ?_⟩ <;> (simp; try omega)))))) | (refine go_then ?_) | (refine go_then_exit ?_) | (refine go_then_ret ?_) | (refine go_blk ?_) | (refine go_blk_ret ?_) | (refine go_blk_here ?_) | (apply go_blk_there; · rfl) | (refine go_seq ?_) | (apply go_region; · (simp only [List.length_cons, List.length_nil, Nat.reduceAdd, Nat.add_assoc]; rfl)) | (refine go_skip ?_) | (refine go_block ?_) | (refine go_scope ?_) | (refine go_label ?_) | (refine go_exit ?_) | (refine go_ret ?_) | (apply go_mut; (· assumption); · (simp (disch := omega) [go_sem, *, -List.reduceReplicate]; first | exact ⟨rfl, rfl⟩ | (simp [go_sem, *]; exact ⟨rfl, rfl⟩))) | (apply go_mutP; (· assumption); · (simp (disch := omega) [go_sem, *, -List.reduceReplicate]; first | done | rfl)) | (apply go_guard_in; (· rfl); · (simp (disch := omega) [go_sem, *, -List.reduceReplicate]; try first | rfl | omega)) | (apply go_guard_off; (· rfl); · (simp (disch := omega) [go_sem, *, -List.reduceReplicate]; try first | rfl | omega)) | (apply go_guard_no; (· rfl); · (simp (disch := omega) [go_sem, *, -List.reduceReplicate]; try rfl)) | (apply go_move; · (simp (disch := omega) [go_sem, *, -List.reduceReplicate]; try rfl)) | (apply go_assign; · (simp (disch := omega) [go_sem, *, -List.reduceReplicate]; try rfl)) | (apply go_load; · (simp (disch := omega) [go_sem, *, -List.reduceReplicate]; exact ⟨rfl, rfl⟩)) | (apply go_loadv; · (simp (disch := omega) [go_sem, *, -List.reduceReplicate]; try rfl)) | (apply go_store; · (simp (disch := omega) [go_sem, *, -List.reduceReplicate]; exact ⟨rfl, rfl⟩)) | (apply go_append; · (simp (disch := omega) [go_sem, *, -List.reduceReplicate]; exact ⟨rfl, rfl, rfl⟩)) | (apply go_appendz; (· rfl); · (simp (disch := omega) [go_sem, *, -List.reduceReplicate]; exact ⟨rfl, rfl, rfl⟩)) | (apply go_append0; · (simp (disch := omega) [go_sem, *, -List.reduceReplicate]; exact ⟨rfl, rfl⟩)) | (apply go_new; (· rfl); · (simp (disch := omega) [go_sem, *, -List.reduceReplicate]; first | exact ⟨rfl, rfl⟩ | (simp [go_sem, *]; exact ⟨rfl, rfl⟩))) | (apply go_pure; (· rfl); · (simp (disch := omega) [go_sem, *, -List.reduceReplicate]; first | done | rfl | (simp [go_sem, *]; try rfl))) | (apply go_read1; (· rfl); · (simp (disch := omega) [go_sem, *, -List.reduceReplicate]; exact ⟨rfl, rfl⟩)) | (apply go_rw1; (· rfl); · (simp (disch := omega) [go_sem, *, -List.reduceReplicate]; exact ⟨rfl, rfl, rfl⟩)) | (apply go_new1; (· rfl); · (simp (disch := omega) [go_sem, *, -List.reduceReplicate]; exact ⟨rfl, rfl⟩)) | (apply go_copy; · (simp (disch := omega) [go_sem, *, -List.reduceReplicate]; exact ⟨rfl, rfl, rfl⟩)) | (apply go_copy0; · (simp (disch := omega) [go_sem, *, -List.reduceReplicate]; exact ⟨rfl, rfl, rfl⟩)) | (apply go_clear0; · (simp (disch := omega) [go_sem, *, -List.reduceReplicate]; exact ⟨rfl, rfl, rfl⟩)) | (apply go_conv; · (simp (disch := omega) [go_sem, *, -List.reduceReplicate]; exact ⟨rfl, rfl, rfl⟩)) | (apply go_condT; · (simp (disch := omega) [go_sem, *, -List.reduceReplicate]; try first | rfl | omega; done)) | (apply go_condF; · (simp (disch := omega) [go_sem, *, -List.reduceReplicate]; try first | rfl | omega; done)) | (obtain ⟨hcall, hcs⟩ := hcs; refine go_callw (hcall _) (by simp (disch := omega) [go_sem, *, -List.reduceReplicate]; try rfl) (by simp (disch := omega) [go_sem, *, -List.reduceReplicate]; repeat (first | exact ALe.nil | (refine ALe.cons (by first | exact AV.le_refl _ | exact AV.le_nils | exact AV.le_own _ _) ?_))) (by simp (disch := omega) [go_sem, *, -List.reduceReplicate]) ?_; clear hcall))
      refine go_result (by simp (disch := omega) [go_sem, *, -List.reduceReplicate]; rfl) (by simp (disch := omega) [go_sem]; try rfl) (fun id hid => by simp (disch := omega) only [upd_ne, wr_cons, wr_nil]; try exact hlow id hid)
    · obtain ⟨z, hz, z1, z2⟩ := rep_torn B ho hc2 hcut
      rw [hz] at a2
      simp only at a2
      refine ACall.of_body mixed Try.func10 rfl (by kernel_rfl) Try.ntmps10 (by kernel_rfl) rfl (by simp) (by simp) (by simp) fun σ N hp hpn hk hkn hfree => ?_
      have hcs := And.intro m1 (And.intro g1 (And.intro g2 (And.intro d0 (And.intro a1 (And.intro a2 (And.intro s0 (And.intro awake18_spec True.intro)))))))
      clear m1 g1 g2 d0 a1 a2 s0 hA B B1 B2 mB hz
      repeat (first | (refine go_nil ?_) | (refine go_kreg ?_) | (refine go_kreg0 ?_) | (refine go_kreg1 ?_) | (apply go_kregT; · (first | (simp [addT, CF, CFy, Ind, DisjF]; done) | (simp only [addT, CF, CFy, Ind]; repeat' (first | exact trivial | apply And.intro | exact Or.inl (by decide +kernel) | (refine Or.inr ⟨?_, ?_⟩ <;> (simp; try omega)))))) | (refine go_then ?_) | (refine go_then_exit ?_) | (refine go_then_ret ?_) | (refine go_blk ?_) | (refine go_blk_ret ?_) | (refine go_blk_here ?_) | (apply go_blk_there; · rfl) | (refine go_seq ?_) | (apply go_region; · (simp only [List.length_cons, List.length_nil, Nat.reduceAdd, Nat.add_assoc]; rfl)) | (refine go_skip ?_) | (refine go_block ?_) | (refine go_scope ?_) | (refine go_label ?_) | (refine go_exit ?_) | (refine go_ret ?_) | (apply go_mut; (· assumption); · (simp (disch := omega) [go_sem, *, -List.reduceReplicate]; first | exact ⟨rfl, rfl⟩ | (simp [go_sem, *]; exact ⟨rfl, rfl⟩))) | (apply go_mutP; (· assumption); · (simp (disch := omega) [go_sem, *, -List.reduceReplicate]; first | done | rfl)) | (apply go_guard_in; (· rfl); · (simp (disch := omega) [go_sem, *, -List.reduceReplicate]; try first | rfl | omega)) | (apply go_guard_off; (· rfl); · (simp (disch := omega) [go_sem, *, -List.reduceReplicate]; try first | rfl | omega)) | (apply go_guard_no; (· rfl); · (simp (disch := omega) [go_sem, *, -List.reduceReplicate]; try rfl)) | (apply go_move; · (simp (disch := omega) [go_sem, *, -List.reduceReplicate]; try rfl)) | (apply go_assign; · (simp (disch := omega) [go_sem, *, -List.reduceReplicate]; try rfl)) | (apply go_load; · (simp (disch := omega) [go_sem, *, -List.reduceReplicate]; exact ⟨rfl, rfl⟩)) | (apply go_loadv; · (simp (disch := omega) [go_sem, *, -List.reduceReplicate]; try rfl)) | (apply go_store; · (simp (disch := omega) [go_sem, *, -List.reduceReplicate]; exact ⟨rfl, rfl⟩)) | (apply go_append; · (simp (disch := omega) [go_sem, *, -List.reduceReplicate]; exact ⟨rfl, rfl, rfl⟩)) | (apply go_appendz; (· rfl); · (simp (disch := omega) [go_sem, *, -List.reduceReplicate]; exact ⟨rfl, rfl, rfl⟩)) | (apply go_append0; · (simp (disch := omega) [go_sem, *, -List.reduceReplicate]; exact ⟨rfl, rfl⟩)) | (apply go_new; (· rfl); · (simp (disch := omega) [go_sem, *, -List.reduceReplicate]; first | exact ⟨rfl, rfl⟩ | (simp [go_sem, *]; exact ⟨rfl, rfl⟩))) | (apply go_pure; (· rfl); · (simp (disch := omega) [go_sem, *, -List.reduceReplicate]; first | done | rfl | (simp [go_sem, *]; try rfl))) | (apply go_read1; (· rfl); · (simp (disch := omega) [go_sem, *, -List.reduceReplicate]; exact ⟨rfl, rfl⟩)) | (apply go_rw1; (· rfl); · (simp (disch := omega) [go_sem, *, -List.reduceReplicate]; exact ⟨rfl, rfl, rfl⟩)) | (apply go_new1; (· rfl); · (simp (disch := omega) [go_sem, *, -List.reduceReplicate]; exact ⟨rfl, rfl⟩)) | (apply go_copy; · (simp (disch := omega) [go_sem, *, -List.reduceReplicate]; exact ⟨rfl, rfl, rfl⟩)) | (apply go_copy0; · (simp (disch := omega) [go_sem, *, -List.reduceReplicate]; exact ⟨rfl, rfl, rfl⟩)) | (apply go_clear0; · (simp (disch := omega) [go_sem, *, -List.reduceReplicate]; exact ⟨rfl, rfl, rfl⟩)) | (apply go_conv; · (simp (disch := omega) [go_sem, *, -List.reduceReplicate]; exact ⟨rfl, rfl, rfl⟩)) | (apply go_condT; · (simp (disch := omega) [go_sem, *, -List.reduceReplicate]; try first | rfl | omega; done)) | (apply go_condF; · (simp (disch := omega) [go_sem, *, -List.reduceReplicate]; try first | rfl | omega; done)) | (obtain ⟨hcall, hcs⟩ := hcs; refine go_callw (hcall _) (by simp (disch := omega) [go_sem, *, -List.reduceReplicate]; try rfl) (by simp (disch := omega) [go_sem, *, -List.reduceReplicate]; repeat (first | exact ALe.nil | (refine ALe.cons (by first | exact AV.le_refl _ | exact AV.le_nils | exact AV.le_own _ _) ?_))) (by simp (disch := omega) [go_sem, *, -List.reduceReplicate]) ?_; clear hcall))
      refine go_result (by simp (disch := omega) [go_sem, *, -List.reduceReplicate]; rfl) (by simp (disch := omega) [go_sem]; try rfl) (fun id hid => by simp (disch := omega) only [upd_ne, wr_cons, wr_nil]; try exact hlow id hid)
  · obtain ⟨u, hu, u1, u2⟩ := app_torn B ho hc hcut
    obtain ⟨z, hz, z1, z2⟩ := rep_torn B ho (by omega : ¬ y.cap < b.length) hcut
    rw [hu] at a1 B1
    rw [hz] at a2 B2
    simp only at a1 a2 B1 B2
    have d1 := Data_spec u (B1.A (by omega))
    have d2 := Data_spec z (B2.A (by omega))
    rw [u2, htt, hbq2] at d1
    rw [z2] at d2
    have hdl : y.data.length ≤ 200 := by omega
    generalize y.data = dt at *
    have e1 := Same_spec (dt ++ bq) (dt ++ bq) (by simp; omega)
    have e2 := Same_spec dt dt (by omega)
    simp only [decide_true] at e1 e2
    have hab : dt.map byteAV ++ bq.map byteAV = (dt ++ bq).map byteAV := by simp
    have hal : (dt ++ bq).length = dt.length + q := by simp [hbl]
    generalize dt ++ bq = dq at *
    rw [h4] at hq
    refine ACall.of_body mixed Try.func10 rfl (by kernel_rfl) Try.ntmps10 (by kernel_rfl) rfl (by simp) (by simp) (by simp) fun σ N hp hpn hk hkn hfree => ?_
    have hcs := And.intro m1 (And.intro g1 (And.intro g2 (And.intro d0 (And.intro a1 (And.intro a2 (And.intro d1 (And.intro e1 (And.intro d2 (And.intro e2 (And.intro awake18_spec True.intro))))))))))
    clear m1 g1 g2 d0 a1 a2 s0 hA B B1 B2 mB hz d1 d2 e1 e2 hu u2 z2
    repeat (first | (refine go_nil ?_) | (refine go_kreg ?_) | (refine go_kreg0 ?_) | (refine go_kreg1 ?_) | (apply go_kregT; · (first | (simp [addT, CF, CFy, Ind, DisjF]; done) | (simp only [addT, CF, CFy, Ind]; repeat' (first | exact trivial | apply And.intro | exact Or.inl (by decide +kernel) | (refine Or.inr ⟨?_, ?_⟩ <;> (simp; try omega)))))) | (refine go_then ?_) | (refine go_then_exit ?_) | (refine go_then_ret ?_) | (refine go_blk ?_) | (refine go_blk_ret ?_) | (refine go_blk_here ?_) | (apply go_blk_there; · rfl) | (refine go_seq ?_) | (apply go_region; · (simp only [List.length_cons, List.length_nil, Nat.reduceAdd, Nat.add_assoc]; rfl)) | (refine go_skip ?_) | (refine go_block ?_) | (refine go_scope ?_) | (refine go_label ?_) | (refine go_exit ?_) | (refine go_ret ?_) | (apply go_mut; (· assumption); · (simp (disch := omega) [go_sem, *, -List.reduceReplicate]; first | exact ⟨rfl, rfl⟩ | (simp [go_sem, *]; exact ⟨rfl, rfl⟩))) | (apply go_mutP; (· assumption); · (simp (disch := omega) [go_sem, *, -List.reduceReplicate]; first | done | rfl)) | (apply go_guard_in; (· rfl); · (simp (disch := omega) [go_sem, *, -List.reduceReplicate]; try first | rfl | omega)) | (apply go_guard_off; (· rfl); · (simp (disch := omega) [go_sem, *, -List.reduceReplicate]; try first | rfl | omega)) | (apply go_guard_no; (· rfl); · (simp (disch := omega) [go_sem, *, -List.reduceReplicate]; try rfl)) | (apply go_move; · (simp (disch := omega) [go_sem, *, -List.reduceReplicate]; try rfl)) | (apply go_assign; · (simp (disch := omega) [go_sem, *, -List.reduceReplicate]; try rfl)) | (apply go_load; · (simp (disch := omega) [go_sem, *, -List.reduceReplicate]; exact ⟨rfl, rfl⟩)) | (apply go_loadv; · (simp (disch := omega) [go_sem, *, -List.reduceReplicate]; try rfl)) | (apply go_store; · (simp (disch := omega) [go_sem, *, -List.reduceReplicate]; exact ⟨rfl, rfl⟩)) | (apply go_append; · (simp (disch := omega) [go_sem, *, -List.reduceReplicate]; exact ⟨rfl, rfl, rfl⟩)) | (apply go_appendz; (· rfl); · (simp (disch := omega) [go_sem, *, -List.reduceReplicate]; exact ⟨rfl, rfl, rfl⟩)) | (apply go_append0; · (simp (disch := omega) [go_sem, *, -List.reduceReplicate]; exact ⟨rfl, rfl⟩)) | (apply go_new; (· rfl); · (simp (disch := omega) [go_sem, *, -List.reduceReplicate]; first | exact ⟨rfl, rfl⟩ | (simp [go_sem, *]; exact ⟨rfl, rfl⟩))) | (apply go_pure; (· rfl); · (simp (disch := omega) [go_sem, *, -List.reduceReplicate]; first | done | rfl | (simp [go_sem, *]; try rfl))) | (apply go_read1; (· rfl); · (simp (disch := omega) [go_sem, *, -List.reduceReplicate]; exact ⟨rfl, rfl⟩)) | (apply go_rw1; (· rfl); · (simp (disch := omega) [go_sem, *, -List.reduceReplicate]; exact ⟨rfl, rfl, rfl⟩)) | (apply go_new1; (· rfl); · (simp (disch := omega) [go_sem, *, -List.reduceReplicate]; exact ⟨rfl, rfl⟩)) | (apply go_copy; · (simp (disch := omega) [go_sem, *, -List.reduceReplicate]; exact ⟨rfl, rfl, rfl⟩)) | (apply go_copy0; · (simp (disch := omega) [go_sem, *, -List.reduceReplicate]; exact ⟨rfl, rfl, rfl⟩)) | (apply go_clear0; · (simp (disch := omega) [go_sem, *, -List.reduceReplicate]; exact ⟨rfl, rfl, rfl⟩)) | (apply go_conv; · (simp (disch := omega) [go_sem, *, -List.reduceReplicate]; exact ⟨rfl, rfl, rfl⟩)) | (apply go_condT; · (simp (disch := omega) [go_sem, *, -List.reduceReplicate]; try first | rfl | omega; done)) | (apply go_condF; · (simp (disch := omega) [go_sem, *, -List.reduceReplicate]; try first | rfl | omega; done)) | (obtain ⟨hcall, hcs⟩ := hcs; refine go_callw (hcall _) (by simp (disch := omega) [go_sem, *, -List.reduceReplicate]; try rfl) (by simp (disch := omega) [go_sem, *, -List.reduceReplicate]; repeat (first | exact ALe.nil | (refine ALe.cons (by first | exact AV.le_refl _ | exact AV.le_nils | exact AV.le_own _ _) ?_))) (by simp (disch := omega) [go_sem, *, -List.reduceReplicate]) ?_; clear hcall))
    refine go_result (by simp (disch := omega) [go_sem, *, -List.reduceReplicate]; rfl) (by simp (disch := omega) [go_sem]; try rfl) (fun id hid => by simp (disch := omega) only [upd_ne, wr_cons, wr_nil]; try exact hlow id hid)
theorem DeviceTorn_spec (deck : List Int) (_ : ∀ n ∈ deck, (Lit.int .i64 n).wf = true) (hd : deck.length ≤ 9223372036854775807) (b : List UInt8) (torn : Int) (w : (Lit.int .u8 torn).wf = true) (k : Nat) :
    ACall Try.prog 10 [.slice none (deck.map intAV), .slice none (b.map byteAV), .lit (.int .u8 torn)] k [] (.lit (.bool true)) [] := by
  obtain ⟨m, t, h1, h2, h3, h4, h5⟩ := cutAt 100 b
  obtain ⟨cb, hc, hn⟩ := byte_of_wf w
  have hlt := cb.toNat_lt
  have hm : torn.tmod 60 = torn % 60 := Int.tmod_eq_emod_of_nonneg (by omega)
  have hq := cutN_eq (torn % 60) t.length
  rw [if_neg (show ¬ torn % 60 < 0 by omega)] at hq
  exact dtorn_core deck hd b t m h1 h2 h3 h4 h5 torn _ (wrap_i64 (by omega) (by omega)) hm (by omega) _ _ hq (cutN_le _ _) (by rw [List.map_take]) rfl (by have := cutN_le (torn % 60) t.length; rw [List.length_take]; omega) k
end Go.Proofs.Ythklokpgjfopnaa
