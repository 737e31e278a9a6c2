/- Caveats: the specified Same; Valid. -/
import Derived.Test.YtaelnglalpiemaaDoorK4
namespace Go.Proofs.YtaelnglalpiemaaDoor
open Go.Ab
attribute [local irreducible] Go.Ab.tyAV Go.Ab.aw Go.Ab.aops Go.Ab.kReg Go.Ab.aThen Go.Ab.aBlk Go.Ab.acond Go.Ab.aguard Go.Ab.astep Go.Ab.AStepX Go.Ab.aRet

set_option maxHeartbeats 4000000 in
theorem refSame_cav (a b : List Ca) (ha : ∀ c ∈ a, CaSm c) (hb : ∀ c ∈ b, CaSm c) (hal : a.length ≤ 100000) (hbl : b.length ≤ 100000) (k : Nat) :
    ACall Tryd.prog 21 [.slice none (a.map caAV), .slice none (b.map caAV)] k [] (.lit (.bool (decide (a = b)))) [] := by
  by_cases hl : a.length = b.length
  · refine ACall.of_body mixed Tryd.func21 rfl (by kernel_rfl) Tryd.ntmps21 (by kernel_rfl) rfl (by simp) (by simp) (by simp) fun σ N hp hpn hk hkn hfree => ?_
    refine Wk ?_
    refine go_loopF mixed (by kernel_rfl) [4, 5, 6, 7, 13, 14, 15, 16, 17, 18, 19, 20, 21, 22, 23, 24, 25, 26, 27, 28, 29, 30, 31, 32, 33, 34, 35, 36, 37, 38, 39, 40, 41, 42, 43, 44, 45, 46, 47, 48, 49, 50, 51, 52, 53, 54, 55, 56, 57, 58, 59, 60, 61] [] (fun m_ s_ σ_ n_ => ∃ (u : Nat), m_ = a.length - u ∧ s_ 5 = .lit (.int .i64 u) ∧ (u ≤ a.length) ∧ (a.take u = b.take u)) ⟨_, 0, rfl, WF, WC, WC⟩ ?_
    intro m_1 s_1 σ_1 n_1 hs_1 hf_1 hn_1 hI_1
    obtain ⟨u, hm_1, h1_5, hu, heq⟩ := hI_1
    have h1_0 := (hs_1.at 0 (by decide)).trans WE
    have h1_1 := (hs_1.at 1 (by decide)).trans WE
    have hlow : ∀ id, id < N → σ_1 id = σ id := fun id hid => (hf_1.at id (by omega) WQ).trans WH
    by_cases hul : u = a.length
    · have : a = b := by
        rw [hul, List.take_length, hl, List.take_length] at heq; exact heq
      rw [decide_eq_true this]
      subst hul
      clear heq this
      exact W0
    · have hui : u < a.length := by omega
      have hub : u < b.length := by omega
      obtain ⟨x, hx⟩ : ∃ x, a[u] = x := ⟨_, rfl⟩
      obtain ⟨y, hy⟩ : ∃ y, b[u] = y := ⟨_, rfl⟩
      obtain ⟨x1, x2⟩ := ha x (by rw [← hx]; exact List.getElem_mem hui)
      obtain ⟨y1, y2⟩ := hb y (by rw [← hy]; exact List.getElem_mem hub)
      have hne : ¬ x = y → a ≠ b := fun hxy e => hxy (by subst e; rw [← hx, ← hy])
      have heq2 : x = y → a.take (u + 1) = b.take (u + 1) := fun hxy => by
        rw [List.take_add_one, List.take_add_one, List.getElem?_eq_getElem hui, List.getElem?_eq_getElem hub, hx, hy, heq, hxy]
      have c1 := Same_spec x.ticket y.ticket (by omega)
      have c2 := Same_spec x.box y.box (by omega)
      clear heq ha hb
      by_cases h1 : x.third = y.third
      rotate_left
      · rw [decide_eq_false (hne (fun e => h1 (by rw [e])))]
        have f1 : (x.third == y.third) = false := by simp [h1]
        clear c1 c2 hne heq2
        exact W0
      by_cases h2 : x.first = y.first
      rotate_left
      · rw [decide_eq_false (hne (fun e => h2 (by rw [e])))]
        have f1 : (x.third == y.third) = true := by simp [h1]
        have f2 : decide (x.first = y.first) = false := decide_eq_false h2
        clear c1 c2 hne heq2
        exact W0
      by_cases h3 : x.party = y.party
      rotate_left
      · rw [decide_eq_false (hne (fun e => h3 (by rw [e])))]
        have f1 : (x.third == y.third) = true := by simp [h1]
        have f2 : decide (x.first = y.first) = true := decide_eq_true h2
        have f3 : (x.party != y.party) = true := by simp [h3]
        clear c1 c2 hne heq2
        exact W0
      have f1 : (x.third == y.third) = true := by simp [h1]
      have f2 : decide (x.first = y.first) = true := decide_eq_true h2
      have f3 : (x.party != y.party) = false := by simp [h3]
      by_cases h4 : x.ticket = y.ticket
      rotate_left
      · rw [decide_eq_false h4] at c1
        rw [decide_eq_false (hne (fun e => h4 (by rw [e])))]
        have hcs := And.intro c1 True.intro
        clear c1 c2 hne heq2
        exact W0
      rw [decide_eq_true h4] at c1
      by_cases h5 : x.box = y.box
      rotate_left
      · rw [decide_eq_false h5] at c2
        rw [decide_eq_false (hne (fun e => h5 (by rw [e])))]
        have hcs := And.intro c1 (And.intro c2 True.intro)
        clear c1 c2 hne heq2
        exact W0
      rw [decide_eq_true h5] at c2
      have hxy : x = y := by
        obtain ⟨p1, p2, p3, p4, p5⟩ := x
        obtain ⟨q1, q2, q3, q4, q5⟩ := y
        simp only at h1 h2 h3 h4 h5
        rw [h1, h2, h3, h4, h5]
      have heq3 := heq2 hxy
      have hcs := And.intro c1 (And.intro c2 True.intro)
      clear c1 c2 hne heq2 hxy
      refine Wk ?_
      exact ⟨WS, WG, WN, _, (show a.length - (u + 1) < m_1 by omega), u + 1, rfl, WF, WC, WC⟩
  · have hne : a ≠ b := fun e => hl (by rw [e])
    have hlb : ((a.length : Int) != (b.length : Int)) = true := by simp; omega
    rw [decide_eq_false hne]
    refine ACall.of_body mixed Tryd.func21 rfl (by kernel_rfl) Tryd.ntmps21 (by kernel_rfl) rfl (by simp) (by simp) (by simp) fun σ N hp hpn hk hkn hfree => ?_
    exact W0

def sizedB (b : List UInt8) : Bool := decide (1 ≤ b.length) && decide (b.length ≤ 1024)
theorem sized_spec (b : List UInt8) (k : Nat) : ACall Tryd.prog 54 [.slice none (b.map byteAV)] k [] (.lit (.bool (sizedB b))) [] := by
  unfold sizedB
  by_cases h : 1 ≤ b.length
  · have hi : (1 : Int) ≤ (b.length : Int) := by omega
    rw [decide_eq_true h, Bool.true_and]
    by_cases h2 : b.length ≤ 1024
    · have hi2 : (b.length : Int) ≤ 1024 := by omega
      rw [decide_eq_true h2]
      refine ACall.of_body mixed Tryd.func54 rfl (by kernel_rfl) Tryd.ntmps54 (by kernel_rfl) rfl (by simp) (by simp) (by simp) fun σ N hp hpn hk hkn hfree => ?_
      exact W0
    · have hi2 : ¬ (b.length : Int) ≤ 1024 := by omega
      rw [decide_eq_false h2]
      refine ACall.of_body mixed Tryd.func54 rfl (by kernel_rfl) Tryd.ntmps54 (by kernel_rfl) rfl (by simp) (by simp) (by simp) fun σ N hp hpn hk hkn hfree => ?_
      exact W0
  · have hi : ¬ (1 : Int) ≤ (b.length : Int) := by omega
    rw [decide_eq_false h, Bool.false_and]
    refine ACall.of_body mixed Tryd.func54 rfl (by kernel_rfl) Tryd.ntmps54 (by kernel_rfl) rfl (by simp) (by simp) (by simp) fun σ N hp hpn hk hkn hfree => ?_
    exact W0

def zeroPr : Pr := ⟨0, 0, 0, 0, [], 0⟩
def cavB (c : Ca) : Bool :=
  if c.third = false then predB c.first && (decide (c.party = 0) && (decide (c.ticket.length = 0) && decide (c.box.length = 0)))
  else decide (c.first = zeroPr) && (decide (0 ≤ c.party) && (decide (c.party ≤ 7) && (sizedB c.ticket && sizedB c.box)))
@[go_sem high] theorem ev_pr_eqz (a : Pr) :
    evBin Tryd.prog .eql 24 (prAV a) (.agg [.lit (.int .i64 0), .lit (.int .u64 0), .lit (.int .i64 0), .lit (.int .i64 0), .lit (.string ByteArray.empty), .lit (.int .i64 0)]) =
      some ⟨[], .lit (.bool (decide (a = zeroPr))), []⟩ := ev_pr_eq a zeroPr
set_option maxHeartbeats 4000000 in
theorem cavValid_spec (c : Ca) (hp0 : PrOk c.first) (d k : Nat) :
    ACall Tryd.prog 15 [caAV c] k [(d, bitsG)] (.lit (.bool (cavB c))) [] := by
  have c1 := predValid_spec c.first hp0 d
  have c2 := sized_spec c.ticket
  have c3 := sized_spec c.box
  unfold cavB
  cases ht : c.third with
  | false =>
    simp only [if_true]
    generalize predB c.first = b at *
    cases b <;> simp only [Bool.true_and, Bool.false_and]
    · refine ACall.of_body mixed Tryd.func15 rfl (by kernel_rfl) Tryd.ntmps15 (by kernel_rfl) rfl (by simp) (by simp) (by simp) fun σ N hp hpn hk hkn hfree => ?_
      have hd := hp _ (List.mem_singleton.2 rfl); have hdn := hpn _ (List.mem_singleton.2 rfl); simp only at hd hdn; clear hp hpn
      have hcs := And.intro c1 True.intro
      clear c1 c2 c3
      exact W0
    · by_cases g1 : c.party = 0
      · have kg1 : (c.party == 0) = true := by simp [g1]
        by_cases g2 : c.ticket.length = 0
        · have kg2 : ((c.ticket.length : Int) == 0) = true := by simp [g2]
          by_cases g3 : c.box.length = 0
          · have kg3 : ((c.box.length : Int) == 0) = true := by simp [g3]
            simp only [decide_eq_true g1, decide_eq_true g2, decide_eq_true g3, Bool.true_and]
            refine ACall.of_body mixed Tryd.func15 rfl (by kernel_rfl) Tryd.ntmps15 (by kernel_rfl) rfl (by simp) (by simp) (by simp) fun σ N hp hpn hk hkn hfree => ?_
            have hd := hp _ (List.mem_singleton.2 rfl); have hdn := hpn _ (List.mem_singleton.2 rfl); simp only at hd hdn; clear hp hpn
            have hcs := And.intro c1 True.intro
            clear c1 c2 c3
            exact W0
          · have kg3 : ((c.box.length : Int) == 0) = false := by rw [beq_eq_false_iff_ne]; omega
            simp only [decide_eq_true g1, decide_eq_true g2, decide_eq_false g3, Bool.true_and, Bool.false_and]
            refine ACall.of_body mixed Tryd.func15 rfl (by kernel_rfl) Tryd.ntmps15 (by kernel_rfl) rfl (by simp) (by simp) (by simp) fun σ N hp hpn hk hkn hfree => ?_
            have hd := hp _ (List.mem_singleton.2 rfl); have hdn := hpn _ (List.mem_singleton.2 rfl); simp only at hd hdn; clear hp hpn
            have hcs := And.intro c1 True.intro
            clear c1 c2 c3
            exact W0
        · have kg2 : ((c.ticket.length : Int) == 0) = false := by rw [beq_eq_false_iff_ne]; omega
          simp only [decide_eq_true g1, decide_eq_false g2, Bool.true_and, Bool.false_and]
          refine ACall.of_body mixed Tryd.func15 rfl (by kernel_rfl) Tryd.ntmps15 (by kernel_rfl) rfl (by simp) (by simp) (by simp) fun σ N hp hpn hk hkn hfree => ?_
          have hd := hp _ (List.mem_singleton.2 rfl); have hdn := hpn _ (List.mem_singleton.2 rfl); simp only at hd hdn; clear hp hpn
          have hcs := And.intro c1 True.intro
          clear c1 c2 c3
          exact W0
      · have kg1 : (c.party == 0) = false := by rw [beq_eq_false_iff_ne]; omega
        simp only [decide_eq_false g1, Bool.true_and, Bool.false_and]
        refine ACall.of_body mixed Tryd.func15 rfl (by kernel_rfl) Tryd.ntmps15 (by kernel_rfl) rfl (by simp) (by simp) (by simp) fun σ N hp hpn hk hkn hfree => ?_
        have hd := hp _ (List.mem_singleton.2 rfl); have hdn := hpn _ (List.mem_singleton.2 rfl); simp only at hd hdn; clear hp hpn
        have hcs := And.intro c1 True.intro
        clear c1 c2 c3
        exact W0
  | true =>
    simp only [Bool.true_eq_false, if_false]
    by_cases g1 : c.first = zeroPr
    · by_cases g2 : 0 ≤ c.party
      · by_cases g3 : c.party ≤ 7
        · simp only [decide_eq_true g1, decide_eq_true g2, decide_eq_true g3, Bool.true_and]
          generalize sizedB c.ticket = s1 at *
          generalize sizedB c.box = s2 at *
          cases s1 <;> simp only [Bool.true_and, Bool.false_and]
          · refine ACall.of_body mixed Tryd.func15 rfl (by kernel_rfl) Tryd.ntmps15 (by kernel_rfl) rfl (by simp) (by simp) (by simp) fun σ N hp hpn hk hkn hfree => ?_
            have hd := hp _ (List.mem_singleton.2 rfl); have hdn := hpn _ (List.mem_singleton.2 rfl); simp only at hd hdn; clear hp hpn
            have hcs := And.intro c2 True.intro
            clear c1 c2 c3
            exact W0
          · refine ACall.of_body mixed Tryd.func15 rfl (by kernel_rfl) Tryd.ntmps15 (by kernel_rfl) rfl (by simp) (by simp) (by simp) fun σ N hp hpn hk hkn hfree => ?_
            have hd := hp _ (List.mem_singleton.2 rfl); have hdn := hpn _ (List.mem_singleton.2 rfl); simp only at hd hdn; clear hp hpn
            have hcs := And.intro c2 (And.intro c3 True.intro)
            clear c1 c2 c3
            exact W0
        · simp only [decide_eq_true g1, decide_eq_true g2, decide_eq_false g3, Bool.true_and, Bool.false_and]
          refine ACall.of_body mixed Tryd.func15 rfl (by kernel_rfl) Tryd.ntmps15 (by kernel_rfl) rfl (by simp) (by simp) (by simp) fun σ N hp hpn hk hkn hfree => ?_
          have hd := hp _ (List.mem_singleton.2 rfl); have hdn := hpn _ (List.mem_singleton.2 rfl); simp only at hd hdn; clear hp hpn
          clear c1 c2 c3
          exact W0
      · simp only [decide_eq_true g1, decide_eq_false g2, Bool.true_and, Bool.false_and]
        refine ACall.of_body mixed Tryd.func15 rfl (by kernel_rfl) Tryd.ntmps15 (by kernel_rfl) rfl (by simp) (by simp) (by simp) fun σ N hp hpn hk hkn hfree => ?_
        have hd := hp _ (List.mem_singleton.2 rfl); have hdn := hpn _ (List.mem_singleton.2 rfl); simp only at hd hdn; clear hp hpn
        clear c1 c2 c3
        exact W0
    · simp only [decide_eq_false g1, Bool.true_and, Bool.false_and]
      refine ACall.of_body mixed Tryd.func15 rfl (by kernel_rfl) Tryd.ntmps15 (by kernel_rfl) rfl (by simp) (by simp) (by simp) fun σ N hp hpn hk hkn hfree => ?_
      have hd := hp _ (List.mem_singleton.2 rfl); have hdn := hpn _ (List.mem_singleton.2 rfl); simp only at hd hdn; clear hp hpn
      clear c1 c2 c3
      exact W0
set_option maxHeartbeats 4000000 in
theorem refCav_spec (c : Ca) (hp0 : PrOk c.first) (k : Nat) :
    ACall Tryd.prog 16 [caAV c] k [] (.lit (.bool (cavB c))) [] := by
  have c1 := refPred_spec c.first hp0
  unfold cavB
  cases ht : c.third with
  | false =>
    simp only [if_true]
    generalize predB c.first = b at *
    cases b <;> simp only [Bool.true_and, Bool.false_and]
    · refine ACall.of_body mixed Tryd.func16 rfl (by kernel_rfl) Tryd.ntmps16 (by kernel_rfl) rfl (by simp) (by simp) (by simp) fun σ N hp hpn hk hkn hfree => ?_
      have hcs := And.intro c1 True.intro
      clear c1
      exact W0
    · by_cases g1 : c.party = 0
      · have kg1 : (c.party == 0) = true := by simp [g1]
        by_cases g2 : c.ticket.length = 0
        · have kg2 : ((c.ticket.length : Int) == 0) = true := by simp [g2]
          by_cases g3 : c.box.length = 0
          · have kg3 : ((c.box.length : Int) == 0) = true := by simp [g3]
            simp only [decide_eq_true g1, decide_eq_true g2, decide_eq_true g3, Bool.true_and]
            refine ACall.of_body mixed Tryd.func16 rfl (by kernel_rfl) Tryd.ntmps16 (by kernel_rfl) rfl (by simp) (by simp) (by simp) fun σ N hp hpn hk hkn hfree => ?_
            have hcs := And.intro c1 True.intro
            clear c1
            exact W0
          · have kg3 : ((c.box.length : Int) == 0) = false := by rw [beq_eq_false_iff_ne]; omega
            simp only [decide_eq_true g1, decide_eq_true g2, decide_eq_false g3, Bool.true_and, Bool.false_and]
            refine ACall.of_body mixed Tryd.func16 rfl (by kernel_rfl) Tryd.ntmps16 (by kernel_rfl) rfl (by simp) (by simp) (by simp) fun σ N hp hpn hk hkn hfree => ?_
            have hcs := And.intro c1 True.intro
            clear c1
            exact W0
        · have kg2 : ((c.ticket.length : Int) == 0) = false := by rw [beq_eq_false_iff_ne]; omega
          simp only [decide_eq_true g1, decide_eq_false g2, Bool.true_and, Bool.false_and]
          refine ACall.of_body mixed Tryd.func16 rfl (by kernel_rfl) Tryd.ntmps16 (by kernel_rfl) rfl (by simp) (by simp) (by simp) fun σ N hp hpn hk hkn hfree => ?_
          have hcs := And.intro c1 True.intro
          clear c1
          exact W0
      · have kg1 : (c.party == 0) = false := by rw [beq_eq_false_iff_ne]; omega
        simp only [decide_eq_false g1, Bool.true_and, Bool.false_and]
        refine ACall.of_body mixed Tryd.func16 rfl (by kernel_rfl) Tryd.ntmps16 (by kernel_rfl) rfl (by simp) (by simp) (by simp) fun σ N hp hpn hk hkn hfree => ?_
        have hcs := And.intro c1 True.intro
        clear c1
        exact W0
  | true =>
    simp only [Bool.true_eq_false, if_false]
    unfold sizedB
    by_cases g1 : c.first = zeroPr
    · by_cases g2 : 0 ≤ c.party
      · by_cases g3 : c.party ≤ 7
        · by_cases g4 : 1 ≤ c.ticket.length
          · have kg4 : 1 ≤ (c.ticket.length : Int) := by omega
            by_cases g5 : c.ticket.length ≤ 1024
            · have kg5 : (c.ticket.length : Int) ≤ 1024 := by omega
              by_cases g6 : 1 ≤ c.box.length
              · have kg6 : 1 ≤ (c.box.length : Int) := by omega
                by_cases g7 : c.box.length ≤ 1024
                · have kg7 : (c.box.length : Int) ≤ 1024 := by omega
                  simp only [decide_eq_true g1, decide_eq_true g2, decide_eq_true g3, decide_eq_true g4, decide_eq_true g5, decide_eq_true g6, decide_eq_true g7, Bool.true_and]
                  refine ACall.of_body mixed Tryd.func16 rfl (by kernel_rfl) Tryd.ntmps16 (by kernel_rfl) rfl (by simp) (by simp) (by simp) fun σ N hp hpn hk hkn hfree => ?_
                  clear c1
                  exact W0
                · have kg7 : ¬ (c.box.length : Int) ≤ 1024 := by omega
                  simp only [decide_eq_true g1, decide_eq_true g2, decide_eq_true g3, decide_eq_true g4, decide_eq_true g5, decide_eq_true g6, decide_eq_false g7, Bool.true_and, Bool.false_and]
                  refine ACall.of_body mixed Tryd.func16 rfl (by kernel_rfl) Tryd.ntmps16 (by kernel_rfl) rfl (by simp) (by simp) (by simp) fun σ N hp hpn hk hkn hfree => ?_
                  clear c1
                  exact W0
              · have kg6 : ¬ 1 ≤ (c.box.length : Int) := by omega
                simp only [decide_eq_true g1, decide_eq_true g2, decide_eq_true g3, decide_eq_true g4, decide_eq_true g5, decide_eq_false g6, Bool.true_and, Bool.false_and]
                refine ACall.of_body mixed Tryd.func16 rfl (by kernel_rfl) Tryd.ntmps16 (by kernel_rfl) rfl (by simp) (by simp) (by simp) fun σ N hp hpn hk hkn hfree => ?_
                clear c1
                exact W0
            · have kg5 : ¬ (c.ticket.length : Int) ≤ 1024 := by omega
              simp only [decide_eq_true g1, decide_eq_true g2, decide_eq_true g3, decide_eq_true g4, decide_eq_false g5, Bool.true_and, Bool.false_and]
              refine ACall.of_body mixed Tryd.func16 rfl (by kernel_rfl) Tryd.ntmps16 (by kernel_rfl) rfl (by simp) (by simp) (by simp) fun σ N hp hpn hk hkn hfree => ?_
              clear c1
              exact W0
          · have kg4 : ¬ 1 ≤ (c.ticket.length : Int) := by omega
            simp only [decide_eq_true g1, decide_eq_true g2, decide_eq_true g3, decide_eq_false g4, Bool.true_and, Bool.false_and]
            refine ACall.of_body mixed Tryd.func16 rfl (by kernel_rfl) Tryd.ntmps16 (by kernel_rfl) rfl (by simp) (by simp) (by simp) fun σ N hp hpn hk hkn hfree => ?_
            clear c1
            exact W0
        · simp only [decide_eq_true g1, decide_eq_true g2, decide_eq_false g3, Bool.true_and, Bool.false_and]
          refine ACall.of_body mixed Tryd.func16 rfl (by kernel_rfl) Tryd.ntmps16 (by kernel_rfl) rfl (by simp) (by simp) (by simp) fun σ N hp hpn hk hkn hfree => ?_
          clear c1
          exact W0
      · simp only [decide_eq_true g1, decide_eq_false g2, Bool.true_and, Bool.false_and]
        refine ACall.of_body mixed Tryd.func16 rfl (by kernel_rfl) Tryd.ntmps16 (by kernel_rfl) rfl (by simp) (by simp) (by simp) fun σ N hp hpn hk hkn hfree => ?_
        clear c1
        exact W0
    · simp only [decide_eq_false g1, Bool.true_and, Bool.false_and]
      refine ACall.of_body mixed Tryd.func16 rfl (by kernel_rfl) Tryd.ntmps16 (by kernel_rfl) rfl (by simp) (by simp) (by simp) fun σ N hp hpn hk hkn hfree => ?_
      clear c1
      exact W0
end Go.Proofs.YtaelnglalpiemaaDoor
