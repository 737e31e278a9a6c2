/- Predicates: Valid. -/
import Derived.Test.YtaelnglalpiemaaDoorK1
import Derived.Test.YtaelnglalpiemaaDoorC8
namespace Go.Proofs.YtaelnglalpiemaaDoor
open Go.Ab
attribute [local irreducible] Go.Ab.tyAV Go.Ab.aw Go.Ab.aops Go.Ab.kReg Go.Ab.aThen Go.Ab.aBlk Go.Ab.acond Go.Ab.aguard Go.Ab.astep Go.Ab.AStepX Go.Ab.aRet

def bitsZ : List Int := [0, 64, 32, 7, 0, 0, 0, 0]
def bitsL : List AV := bitsZ.map fun z => .lit (.int .i64 z)
/-- The package-level table of bits. -/
def bitsG : Ent := .glob 0 (.agg bitsL)
@[simp, go_sem] theorem bitsG_ne : (bitsG = .none) = False := by simp [bitsG]
@[go_sem] theorem bitsL_1 : bitsL[1]? = some (.lit (.int .i64 64)) := rfl
@[go_sem] theorem bitsL_2 : bitsL[2]? = some (.lit (.int .i64 32)) := rfl
@[go_sem] theorem bitsL_3 : bitsL[3]? = some (.lit (.int .i64 7)) := rfl
@[go_sem] theorem bitsL_t1 : AV.szl (bitsL.take 1) = 1 := rfl
@[go_sem] theorem bitsL_t2 : AV.szl (bitsL.take 2) = 2 := rfl
@[go_sem] theorem bitsL_t3 : AV.szl (bitsL.take 3) = 3 := rfl

def predB (p : Pr) : Bool :=
  if p.kind = 1 then maskB p.mask 64 && decide (p = ⟨p.kind, p.mask, 0, 0, [], 0⟩)
  else if p.kind = 2 then maskB p.mask 32 && decide (p = ⟨p.kind, p.mask, 0, 0, [], 0⟩)
  else if p.kind = 3 then maskB p.mask 7 && decide (p = ⟨p.kind, p.mask, 0, 0, [], 0⟩)
  else if p.kind = 4 then decide (0 ≤ p.frm) && (decide (p.frm ≤ p.to) && (decide (p.to ≤ 67108864) && decide (p = ⟨p.kind, 0, p.frm, p.to, [], 0⟩)))
  else if p.kind = 5 then decide (0 ≤ p.frm) && (decide (p.frm < 1440) && (decide (0 ≤ p.to) && (decide (p.to < 1440) && decide (p = ⟨p.kind, 0, p.frm, p.to, [], 0⟩))))
  else if p.kind = 6 then nameB p.name && decide (p = ⟨p.kind, 0, 0, 0, p.name, 0⟩)
  else if p.kind = 7 then decide (0 ≤ p.num) && (decide (p.num ≤ 1000000) && decide (p = ⟨p.kind, 0, 0, 0, [], p.num⟩))
  else false
structure PrOk (p : Pr) : Prop where
  m0 : 0 ≤ p.mask
  m1 : p.mask < 18446744073709551616
  nl : p.name.length ≤ 9223372036854775807

theorem dand (p q : Prop) [Decidable p] (hp : ¬ p) (b : Bool) : (decide p && b) = false := by simp [hp]
set_option maxHeartbeats 4000000 in
theorem predValid_spec (p : Pr) (hp0 : PrOk p) (d k : Nat) :
    ACall Tryd.prog 53 [prAV p] k [(d, bitsG)] (.lit (.bool (predB p))) [] := by
  obtain ⟨kd, m, f, t, n, x⟩ := p
  obtain ⟨m0, m1, nl⟩ := hp0
  simp only at m0 m1 nl
  simp only [prAV, predB]
  by_cases h1 : kd = 1
  · subst h1
    simp only [Int.reduceEq, if_false, if_true]
    have c1 := mask_spec m m0 m1 64 (by decide)
    generalize maskB m 64 = b at *
    cases b <;> simp only [Bool.true_and, Bool.false_and]
    all_goals
      unfold bitsG
      refine ACall.of_body mixed Tryd.func53 rfl (by kernel_rfl) Tryd.ntmps53 (by kernel_rfl) rfl (by simp) (by simp) (by simp) fun σ N hp hpn hk hkn hfree => ?_
      have hd := hp _ (List.mem_singleton.2 rfl); have hdn := hpn _ (List.mem_singleton.2 rfl); simp only at hd hdn; clear hp hpn
      have G : GlobAt d 0 := ⟨⟩
      have hcs := And.intro c1 True.intro
      clear c1
      exact W0
  · skip
    by_cases h2 : kd = 2
    · subst h2
      simp only [Int.reduceEq, if_false, if_true]
      have c1 := mask_spec m m0 m1 32 (by decide)
      generalize maskB m 32 = b at *
      cases b <;> simp only [Bool.true_and, Bool.false_and]
      all_goals
        unfold bitsG
        refine ACall.of_body mixed Tryd.func53 rfl (by kernel_rfl) Tryd.ntmps53 (by kernel_rfl) rfl (by simp) (by simp) (by simp) fun σ N hp hpn hk hkn hfree => ?_
        have hd := hp _ (List.mem_singleton.2 rfl); have hdn := hpn _ (List.mem_singleton.2 rfl); simp only at hd hdn; clear hp hpn
        have G : GlobAt d 0 := ⟨⟩
        have hcs := And.intro c1 True.intro
        clear c1
        exact W0
    · skip
      by_cases h3 : kd = 3
      · subst h3
        simp only [Int.reduceEq, if_false, if_true]
        have c1 := mask_spec m m0 m1 7 (by decide)
        generalize maskB m 7 = b at *
        cases b <;> simp only [Bool.true_and, Bool.false_and]
        all_goals
          unfold bitsG
          refine ACall.of_body mixed Tryd.func53 rfl (by kernel_rfl) Tryd.ntmps53 (by kernel_rfl) rfl (by simp) (by simp) (by simp) fun σ N hp hpn hk hkn hfree => ?_
          have hd := hp _ (List.mem_singleton.2 rfl); have hdn := hpn _ (List.mem_singleton.2 rfl); simp only at hd hdn; clear hp hpn
          have G : GlobAt d 0 := ⟨⟩
          have hcs := And.intro c1 True.intro
          clear c1
          exact W0
      · skip
        by_cases h4 : kd = 4
        · subst h4
          simp only [Int.reduceEq, if_false, if_true]
          by_cases c1 : 0 ≤ f
          · by_cases c2 : f ≤ t
            · by_cases c3 : t ≤ 67108864
              · simp only [decide_eq_true c1, decide_eq_true c2, decide_eq_true c3, decide_true, Bool.true_and]
                unfold bitsG
                refine ACall.of_body mixed Tryd.func53 rfl (by kernel_rfl) Tryd.ntmps53 (by kernel_rfl) rfl (by simp) (by simp) (by simp) fun σ N hp hpn hk hkn hfree => ?_
                have hd := hp _ (List.mem_singleton.2 rfl); have hdn := hpn _ (List.mem_singleton.2 rfl); simp only at hd hdn; clear hp hpn
                have G : GlobAt d 0 := ⟨⟩
                exact W0
              · simp only [decide_eq_true c1, decide_eq_true c2, decide_eq_false c3, Bool.true_and, Bool.false_and]
                unfold bitsG
                refine ACall.of_body mixed Tryd.func53 rfl (by kernel_rfl) Tryd.ntmps53 (by kernel_rfl) rfl (by simp) (by simp) (by simp) fun σ N hp hpn hk hkn hfree => ?_
                have hd := hp _ (List.mem_singleton.2 rfl); have hdn := hpn _ (List.mem_singleton.2 rfl); simp only at hd hdn; clear hp hpn
                have G : GlobAt d 0 := ⟨⟩
                exact W0
            · simp only [decide_eq_true c1, decide_eq_false c2, Bool.true_and, Bool.false_and]
              unfold bitsG
              refine ACall.of_body mixed Tryd.func53 rfl (by kernel_rfl) Tryd.ntmps53 (by kernel_rfl) rfl (by simp) (by simp) (by simp) fun σ N hp hpn hk hkn hfree => ?_
              have hd := hp _ (List.mem_singleton.2 rfl); have hdn := hpn _ (List.mem_singleton.2 rfl); simp only at hd hdn; clear hp hpn
              have G : GlobAt d 0 := ⟨⟩
              exact W0
          · simp only [decide_eq_false c1, Bool.true_and, Bool.false_and]
            unfold bitsG
            refine ACall.of_body mixed Tryd.func53 rfl (by kernel_rfl) Tryd.ntmps53 (by kernel_rfl) rfl (by simp) (by simp) (by simp) fun σ N hp hpn hk hkn hfree => ?_
            have hd := hp _ (List.mem_singleton.2 rfl); have hdn := hpn _ (List.mem_singleton.2 rfl); simp only at hd hdn; clear hp hpn
            have G : GlobAt d 0 := ⟨⟩
            exact W0
        · skip
          by_cases h5 : kd = 5
          · subst h5
            simp only [Int.reduceEq, if_false, if_true]
            by_cases c1 : 0 ≤ f
            · by_cases c2 : f < 1440
              · by_cases c3 : 0 ≤ t
                · by_cases c4 : t < 1440
                  · simp only [decide_eq_true c1, decide_eq_true c2, decide_eq_true c3, decide_eq_true c4, decide_true, Bool.true_and]
                    unfold bitsG
                    refine ACall.of_body mixed Tryd.func53 rfl (by kernel_rfl) Tryd.ntmps53 (by kernel_rfl) rfl (by simp) (by simp) (by simp) fun σ N hp hpn hk hkn hfree => ?_
                    have hd := hp _ (List.mem_singleton.2 rfl); have hdn := hpn _ (List.mem_singleton.2 rfl); simp only at hd hdn; clear hp hpn
                    have G : GlobAt d 0 := ⟨⟩
                    exact W0
                  · simp only [decide_eq_true c1, decide_eq_true c2, decide_eq_true c3, decide_eq_false c4, Bool.true_and, Bool.false_and]
                    unfold bitsG
                    refine ACall.of_body mixed Tryd.func53 rfl (by kernel_rfl) Tryd.ntmps53 (by kernel_rfl) rfl (by simp) (by simp) (by simp) fun σ N hp hpn hk hkn hfree => ?_
                    have hd := hp _ (List.mem_singleton.2 rfl); have hdn := hpn _ (List.mem_singleton.2 rfl); simp only at hd hdn; clear hp hpn
                    have G : GlobAt d 0 := ⟨⟩
                    exact W0
                · simp only [decide_eq_true c1, decide_eq_true c2, decide_eq_false c3, Bool.true_and, Bool.false_and]
                  unfold bitsG
                  refine ACall.of_body mixed Tryd.func53 rfl (by kernel_rfl) Tryd.ntmps53 (by kernel_rfl) rfl (by simp) (by simp) (by simp) fun σ N hp hpn hk hkn hfree => ?_
                  have hd := hp _ (List.mem_singleton.2 rfl); have hdn := hpn _ (List.mem_singleton.2 rfl); simp only at hd hdn; clear hp hpn
                  have G : GlobAt d 0 := ⟨⟩
                  exact W0
              · simp only [decide_eq_true c1, decide_eq_false c2, Bool.true_and, Bool.false_and]
                unfold bitsG
                refine ACall.of_body mixed Tryd.func53 rfl (by kernel_rfl) Tryd.ntmps53 (by kernel_rfl) rfl (by simp) (by simp) (by simp) fun σ N hp hpn hk hkn hfree => ?_
                have hd := hp _ (List.mem_singleton.2 rfl); have hdn := hpn _ (List.mem_singleton.2 rfl); simp only at hd hdn; clear hp hpn
                have G : GlobAt d 0 := ⟨⟩
                exact W0
            · simp only [decide_eq_false c1, Bool.true_and, Bool.false_and]
              unfold bitsG
              refine ACall.of_body mixed Tryd.func53 rfl (by kernel_rfl) Tryd.ntmps53 (by kernel_rfl) rfl (by simp) (by simp) (by simp) fun σ N hp hpn hk hkn hfree => ?_
              have hd := hp _ (List.mem_singleton.2 rfl); have hdn := hpn _ (List.mem_singleton.2 rfl); simp only at hd hdn; clear hp hpn
              have G : GlobAt d 0 := ⟨⟩
              exact W0
          · skip
            by_cases h6 : kd = 6
            · subst h6
              simp only [Int.reduceEq, if_false, if_true]
              have c1 := name_spec n nl
              generalize nameB n = b at *
              cases b <;> simp only [Bool.true_and, Bool.false_and]
              all_goals
                unfold bitsG
                refine ACall.of_body mixed Tryd.func53 rfl (by kernel_rfl) Tryd.ntmps53 (by kernel_rfl) rfl (by simp) (by simp) (by simp) fun σ N hp hpn hk hkn hfree => ?_
                have hd := hp _ (List.mem_singleton.2 rfl); have hdn := hpn _ (List.mem_singleton.2 rfl); simp only at hd hdn; clear hp hpn
                have G : GlobAt d 0 := ⟨⟩
                have hcs := And.intro c1 True.intro
                clear c1
                exact W0
            · skip
              by_cases h7 : kd = 7
              · subst h7
                simp only [Int.reduceEq, if_false, if_true]
                by_cases c1 : 0 ≤ x
                · by_cases c2 : x ≤ 1000000
                  · simp only [decide_eq_true c1, decide_eq_true c2, decide_true, Bool.true_and]
                    unfold bitsG
                    refine ACall.of_body mixed Tryd.func53 rfl (by kernel_rfl) Tryd.ntmps53 (by kernel_rfl) rfl (by simp) (by simp) (by simp) fun σ N hp hpn hk hkn hfree => ?_
                    have hd := hp _ (List.mem_singleton.2 rfl); have hdn := hpn _ (List.mem_singleton.2 rfl); simp only at hd hdn; clear hp hpn
                    have G : GlobAt d 0 := ⟨⟩
                    exact W0
                  · simp only [decide_eq_true c1, decide_eq_false c2, Bool.true_and, Bool.false_and]
                    unfold bitsG
                    refine ACall.of_body mixed Tryd.func53 rfl (by kernel_rfl) Tryd.ntmps53 (by kernel_rfl) rfl (by simp) (by simp) (by simp) fun σ N hp hpn hk hkn hfree => ?_
                    have hd := hp _ (List.mem_singleton.2 rfl); have hdn := hpn _ (List.mem_singleton.2 rfl); simp only at hd hdn; clear hp hpn
                    have G : GlobAt d 0 := ⟨⟩
                    exact W0
                · simp only [decide_eq_false c1, Bool.true_and, Bool.false_and]
                  unfold bitsG
                  refine ACall.of_body mixed Tryd.func53 rfl (by kernel_rfl) Tryd.ntmps53 (by kernel_rfl) rfl (by simp) (by simp) (by simp) fun σ N hp hpn hk hkn hfree => ?_
                  have hd := hp _ (List.mem_singleton.2 rfl); have hdn := hpn _ (List.mem_singleton.2 rfl); simp only at hd hdn; clear hp hpn
                  have G : GlobAt d 0 := ⟨⟩
                  exact W0
              · skip
                simp only [if_neg h1, if_neg h2, if_neg h3, if_neg h4, if_neg h5, if_neg h6, if_neg h7]
                have g1 : (kd == 1) = false := by simp [h1]
                have g2 : (kd == 2) = false := by simp [h2]
                have g3 : (kd == 3) = false := by simp [h3]
                have g4 : (kd == 4) = false := by simp [h4]
                have g5 : (kd == 5) = false := by simp [h5]
                have g6 : (kd == 6) = false := by simp [h6]
                have g7 : (kd == 7) = false := by simp [h7]
                clear h1 h2 h3 h4 h5 h6 h7
                unfold bitsG
                refine ACall.of_body mixed Tryd.func53 rfl (by kernel_rfl) Tryd.ntmps53 (by kernel_rfl) rfl (by simp) (by simp) (by simp) fun σ N hp hpn hk hkn hfree => ?_
                have hd := hp _ (List.mem_singleton.2 rfl); have hdn := hpn _ (List.mem_singleton.2 rfl); simp only at hd hdn; clear hp hpn
                have G : GlobAt d 0 := ⟨⟩
                exact W0
set_option maxHeartbeats 4000000 in
theorem refPred_spec (p : Pr) (hp0 : PrOk p) (k : Nat) :
    ACall Tryd.prog 55 [prAV p] k [] (.lit (.bool (predB p))) [] := by
  obtain ⟨kd, m, f, t, n, x⟩ := p
  obtain ⟨m0, m1, nl⟩ := hp0
  simp only at m0 m1 nl
  simp only [prAV, predB]
  by_cases h1 : kd = 1
  · subst h1
    simp only [Int.reduceEq, if_false, if_true]
    unfold maskB
    by_cases hm : m = 0
    · subst hm
      simp only [ne_eq, not_true_eq_false, decide_false, Bool.false_and]
      refine ACall.of_body mixed Tryd.func55 rfl (by kernel_rfl) Tryd.ntmps55 (by kernel_rfl) rfl (by simp) (by simp) (by simp) fun σ N hp hpn hk hkn hfree => ?_
      exact W0
    · have hmb : (m == 0) = false := by simp [hm]
      have hmc : (m != 0) = true := by simp [hm]
      rw [show decide (m ≠ 0) = true by simp [hm], Bool.true_and]
      rw [show decide (m < 2 ^ 64) = true by simp; omega, Bool.true_and]
      refine ACall.of_body mixed Tryd.func55 rfl (by kernel_rfl) Tryd.ntmps55 (by kernel_rfl) rfl (by simp) (by simp) (by simp) fun σ N hp hpn hk hkn hfree => ?_
      exact W0
  · skip
    by_cases h2 : kd = 2
    · subst h2
      simp only [Int.reduceEq, if_false, if_true]
      unfold maskB
      by_cases hm : m = 0
      · subst hm
        simp only [ne_eq, not_true_eq_false, decide_false, Bool.false_and]
        refine ACall.of_body mixed Tryd.func55 rfl (by kernel_rfl) Tryd.ntmps55 (by kernel_rfl) rfl (by simp) (by simp) (by simp) fun σ N hp hpn hk hkn hfree => ?_
        exact W0
      · have hmb : (m == 0) = false := by simp [hm]
        have hmc : (m != 0) = true := by simp [hm]
        rw [show decide (m ≠ 0) = true by simp [hm], Bool.true_and]
        by_cases hl : m < 4294967296
        · rw [show decide (m < 2 ^ 32) = true by simp; omega, Bool.true_and]
          refine ACall.of_body mixed Tryd.func55 rfl (by kernel_rfl) Tryd.ntmps55 (by kernel_rfl) rfl (by simp) (by simp) (by simp) fun σ N hp hpn hk hkn hfree => ?_
          exact W0
        · rw [show decide (m < 2 ^ 32) = false by simp; omega, Bool.false_and]
          refine ACall.of_body mixed Tryd.func55 rfl (by kernel_rfl) Tryd.ntmps55 (by kernel_rfl) rfl (by simp) (by simp) (by simp) fun σ N hp hpn hk hkn hfree => ?_
          exact W0
    · skip
      by_cases h3 : kd = 3
      · subst h3
        simp only [Int.reduceEq, if_false, if_true]
        unfold maskB
        by_cases hm : m = 0
        · subst hm
          simp only [ne_eq, not_true_eq_false, decide_false, Bool.false_and]
          refine ACall.of_body mixed Tryd.func55 rfl (by kernel_rfl) Tryd.ntmps55 (by kernel_rfl) rfl (by simp) (by simp) (by simp) fun σ N hp hpn hk hkn hfree => ?_
          exact W0
        · have hmb : (m == 0) = false := by simp [hm]
          have hmc : (m != 0) = true := by simp [hm]
          rw [show decide (m ≠ 0) = true by simp [hm], Bool.true_and]
          by_cases hl : m < 128
          · rw [show decide (m < 2 ^ 7) = true by simp; omega, Bool.true_and]
            refine ACall.of_body mixed Tryd.func55 rfl (by kernel_rfl) Tryd.ntmps55 (by kernel_rfl) rfl (by simp) (by simp) (by simp) fun σ N hp hpn hk hkn hfree => ?_
            exact W0
          · rw [show decide (m < 2 ^ 7) = false by simp; omega, Bool.false_and]
            refine ACall.of_body mixed Tryd.func55 rfl (by kernel_rfl) Tryd.ntmps55 (by kernel_rfl) rfl (by simp) (by simp) (by simp) fun σ N hp hpn hk hkn hfree => ?_
            exact W0
      · skip
        by_cases h4 : kd = 4
        · subst h4
          simp only [Int.reduceEq, if_false, if_true]
          by_cases c1 : 0 ≤ f
          · by_cases c2 : f ≤ t
            · by_cases c3 : t ≤ 67108864
              · simp only [decide_eq_true c1, decide_eq_true c2, decide_eq_true c3, decide_true, Bool.true_and]
                refine ACall.of_body mixed Tryd.func55 rfl (by kernel_rfl) Tryd.ntmps55 (by kernel_rfl) rfl (by simp) (by simp) (by simp) fun σ N hp hpn hk hkn hfree => ?_
                exact W0
              · simp only [decide_eq_true c1, decide_eq_true c2, decide_eq_false c3, Bool.true_and, Bool.false_and]
                refine ACall.of_body mixed Tryd.func55 rfl (by kernel_rfl) Tryd.ntmps55 (by kernel_rfl) rfl (by simp) (by simp) (by simp) fun σ N hp hpn hk hkn hfree => ?_
                exact W0
            · simp only [decide_eq_true c1, decide_eq_false c2, Bool.true_and, Bool.false_and]
              refine ACall.of_body mixed Tryd.func55 rfl (by kernel_rfl) Tryd.ntmps55 (by kernel_rfl) rfl (by simp) (by simp) (by simp) fun σ N hp hpn hk hkn hfree => ?_
              exact W0
          · simp only [decide_eq_false c1, Bool.true_and, Bool.false_and]
            refine ACall.of_body mixed Tryd.func55 rfl (by kernel_rfl) Tryd.ntmps55 (by kernel_rfl) rfl (by simp) (by simp) (by simp) fun σ N hp hpn hk hkn hfree => ?_
            exact W0
        · skip
          by_cases h5 : kd = 5
          · subst h5
            simp only [Int.reduceEq, if_false, if_true]
            by_cases c1 : 0 ≤ f
            · by_cases c2 : f < 1440
              · by_cases c3 : 0 ≤ t
                · by_cases c4 : t < 1440
                  · simp only [decide_eq_true c1, decide_eq_true c2, decide_eq_true c3, decide_eq_true c4, decide_true, Bool.true_and]
                    refine ACall.of_body mixed Tryd.func55 rfl (by kernel_rfl) Tryd.ntmps55 (by kernel_rfl) rfl (by simp) (by simp) (by simp) fun σ N hp hpn hk hkn hfree => ?_
                    exact W0
                  · simp only [decide_eq_true c1, decide_eq_true c2, decide_eq_true c3, decide_eq_false c4, Bool.true_and, Bool.false_and]
                    refine ACall.of_body mixed Tryd.func55 rfl (by kernel_rfl) Tryd.ntmps55 (by kernel_rfl) rfl (by simp) (by simp) (by simp) fun σ N hp hpn hk hkn hfree => ?_
                    exact W0
                · simp only [decide_eq_true c1, decide_eq_true c2, decide_eq_false c3, Bool.true_and, Bool.false_and]
                  refine ACall.of_body mixed Tryd.func55 rfl (by kernel_rfl) Tryd.ntmps55 (by kernel_rfl) rfl (by simp) (by simp) (by simp) fun σ N hp hpn hk hkn hfree => ?_
                  exact W0
              · simp only [decide_eq_true c1, decide_eq_false c2, Bool.true_and, Bool.false_and]
                refine ACall.of_body mixed Tryd.func55 rfl (by kernel_rfl) Tryd.ntmps55 (by kernel_rfl) rfl (by simp) (by simp) (by simp) fun σ N hp hpn hk hkn hfree => ?_
                exact W0
            · simp only [decide_eq_false c1, Bool.true_and, Bool.false_and]
              refine ACall.of_body mixed Tryd.func55 rfl (by kernel_rfl) Tryd.ntmps55 (by kernel_rfl) rfl (by simp) (by simp) (by simp) fun σ N hp hpn hk hkn hfree => ?_
              exact W0
          · skip
            by_cases h6 : kd = 6
            · subst h6
              simp only [Int.reduceEq, if_false, if_true]
              have c1 := Name_spec n nl
              generalize nameB n = b at *
              cases b <;> simp only [Bool.true_and, Bool.false_and]
              all_goals
                refine ACall.of_body mixed Tryd.func55 rfl (by kernel_rfl) Tryd.ntmps55 (by kernel_rfl) rfl (by simp) (by simp) (by simp) fun σ N hp hpn hk hkn hfree => ?_
                have hcs := And.intro c1 True.intro
                clear c1
                exact W0
            · skip
              by_cases h7 : kd = 7
              · subst h7
                simp only [Int.reduceEq, if_false, if_true]
                by_cases c1 : 0 ≤ x
                · by_cases c2 : x ≤ 1000000
                  · simp only [decide_eq_true c1, decide_eq_true c2, decide_true, Bool.true_and]
                    refine ACall.of_body mixed Tryd.func55 rfl (by kernel_rfl) Tryd.ntmps55 (by kernel_rfl) rfl (by simp) (by simp) (by simp) fun σ N hp hpn hk hkn hfree => ?_
                    exact W0
                  · simp only [decide_eq_true c1, decide_eq_false c2, Bool.true_and, Bool.false_and]
                    refine ACall.of_body mixed Tryd.func55 rfl (by kernel_rfl) Tryd.ntmps55 (by kernel_rfl) rfl (by simp) (by simp) (by simp) fun σ N hp hpn hk hkn hfree => ?_
                    exact W0
                · simp only [decide_eq_false c1, Bool.true_and, Bool.false_and]
                  refine ACall.of_body mixed Tryd.func55 rfl (by kernel_rfl) Tryd.ntmps55 (by kernel_rfl) rfl (by simp) (by simp) (by simp) fun σ N hp hpn hk hkn hfree => ?_
                  exact W0
              · skip
                simp only [if_neg h1, if_neg h2, if_neg h3, if_neg h4, if_neg h5, if_neg h6, if_neg h7]
                have g1 : (kd == 1) = false := by simp [h1]
                have g2 : (kd == 2) = false := by simp [h2]
                have g3 : (kd == 3) = false := by simp [h3]
                have g4 : (kd == 4) = false := by simp [h4]
                have g5 : (kd == 5) = false := by simp [h5]
                have g6 : (kd == 6) = false := by simp [h6]
                have g7 : (kd == 7) = false := by simp [h7]
                clear h1 h2 h3 h4 h5 h6 h7
                refine ACall.of_body mixed Tryd.func55 rfl (by kernel_rfl) Tryd.ntmps55 (by kernel_rfl) rfl (by simp) (by simp) (by simp) fun σ N hp hpn hk hkn hfree => ?_
                exact W0
end Go.Proofs.YtaelnglalpiemaaDoor
