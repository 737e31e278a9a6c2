/- Caveats: Same, Valid. -/
import Derived.Test.YtaelnglalpiemaaDoorK3
namespace Go.Proofs.YtaelnglalpiemaaDoor
open Go.Ab
attribute [local irreducible] Go.Ab.tyAV Go.Ab.aw Go.Ab.aops Go.Ab.kReg Go.Ab.aThen Go.Ab.aBlk Go.Ab.acond Go.Ab.aguard Go.Ab.astep Go.Ab.AStepX Go.Ab.aRet

/-- The bytes of a caveat are not too many. -/
def CaSm (c : Ca) : Prop := c.ticket.length ≤ 100000 ∧ c.box.length ≤ 100000

theorem sameC_spec (x y : Ca) (hx : CaSm x) (hy : CaSm y) (k : Nat) :
    ACall Tryd.prog 57 [caAV x, caAV y] k [] (.lit (.bool (decide (x = y)))) [] := by
  obtain ⟨x1, x2⟩ := hx
  obtain ⟨y1, y2⟩ := hy
  have c1 := Equal_spec x.ticket y.ticket (by omega) (by omega)
  have c2 := Equal_spec x.box y.box (by omega) (by omega)
  have key : decide (x = y) = (decide (x.third = y.third) && (decide (x.first = y.first) && (decide (x.party = y.party) && (decide (x.ticket = y.ticket) && decide (x.box = y.box))))) := by
    obtain ⟨a1, a2, a3, a4, a5⟩ := x
    obtain ⟨b1, b2, b3, b4, b5⟩ := y
    rw [Bool.eq_iff_iff]; simp
  rw [key]
  clear key
  by_cases h1 : x.third = y.third
  · by_cases h2 : x.first = y.first
    · by_cases h3 : x.party = y.party
      · have fh1 : (x.third == y.third) = true := by simp [h1]
        have fh2 : decide (x.first = y.first) = true := decide_eq_true h2
        have fh3 : (x.party == y.party) = true := by simp [h3]
        simp only [decide_eq_true h1, decide_eq_true h2, decide_eq_true h3, Bool.true_and]
        generalize decide (x.ticket = y.ticket) = b1 at *
        generalize decide (x.box = y.box) = b2 at *
        cases b1 <;> simp only [Bool.true_and, Bool.false_and]
        · refine ACall.of_body mixed Tryd.func57 rfl (by kernel_rfl) Tryd.ntmps57 (by kernel_rfl) rfl (by simp) (by simp) (by simp) fun σ N hp hpn hk hkn hfree => ?_
          have hcs := And.intro c1 True.intro
          clear c1 c2
          exact W0
        · refine ACall.of_body mixed Tryd.func57 rfl (by kernel_rfl) Tryd.ntmps57 (by kernel_rfl) rfl (by simp) (by simp) (by simp) fun σ N hp hpn hk hkn hfree => ?_
          have hcs := And.intro c1 (And.intro c2 True.intro)
          clear c1 c2
          exact W0
      · have fh3 : (x.party == y.party) = false := by simp [h3]
        have fh1 : (x.third == y.third) = true := by simp [h1]
        have fh2 : decide (x.first = y.first) = true := decide_eq_true h2
        simp only [decide_eq_true h1, decide_eq_true h2, decide_eq_false h3, Bool.true_and, Bool.false_and]
        refine ACall.of_body mixed Tryd.func57 rfl (by kernel_rfl) Tryd.ntmps57 (by kernel_rfl) rfl (by simp) (by simp) (by simp) fun σ N hp hpn hk hkn hfree => ?_
        clear c1 c2
        exact W0
    · have fh2 : decide (x.first = y.first) = false := decide_eq_false h2
      have fh1 : (x.third == y.third) = true := by simp [h1]
      simp only [decide_eq_true h1, decide_eq_false h2, Bool.true_and, Bool.false_and]
      refine ACall.of_body mixed Tryd.func57 rfl (by kernel_rfl) Tryd.ntmps57 (by kernel_rfl) rfl (by simp) (by simp) (by simp) fun σ N hp hpn hk hkn hfree => ?_
      clear c1 c2
      exact W0
  · have fh1 : (x.third == y.third) = false := by simp [h1]
    simp only [decide_eq_false h1, Bool.true_and, Bool.false_and]
    refine ACall.of_body mixed Tryd.func57 rfl (by kernel_rfl) Tryd.ntmps57 (by kernel_rfl) rfl (by simp) (by simp) (by simp) fun σ N hp hpn hk hkn hfree => ?_
    clear c1 c2
    exact W0

theorem EqualFunc_spec (a b : List Ca) (ha : ∀ c ∈ a, CaSm c) (hb : ∀ c ∈ b, CaSm c) (hal : a.length ≤ 100000) (hbl : b.length ≤ 100000) (k : Nat) :
    ACall Tryd.prog 56 [.slice none (a.map caAV), .slice none (b.map caAV), .fn 57 []] k [] (.lit (.bool (decide (a = b)))) [] := by
  by_cases hl : a.length = b.length
  · refine ACall.of_body mixed Tryd.func56 rfl (by kernel_rfl) Tryd.ntmps56 (by kernel_rfl) rfl (by simp) (by simp) (by simp) fun σ N hp hpn hk hkn hfree => ?_
    refine Wk ?_
    refine go_loopF mixed (by kernel_rfl) [6, 7, 8, 9, 17, 18, 19, 20, 21, 22, 23, 24, 25, 26, 27, 28, 29, 30, 31] [] (fun m_ s_ σ_ n_ => ∃ (u : Nat), m_ = a.length - u ∧ s_ 17 = .lit (.int .i64 u) ∧ (u ≤ a.length) ∧ (a.take u = b.take u)) ⟨_, 0, rfl, WF, WC, WC⟩ ?_
    intro m_1 s_1 σ_1 n_1 hs_1 hf_1 hn_1 hI_1
    obtain ⟨u, hm_1, h1_17, hu, heq⟩ := hI_1
    have h1_1 := (hs_1.at 1 (by decide)).trans WE
    have h1_2 := (hs_1.at 2 (by decide)).trans WE
    have h1_15 := (hs_1.at 15 (by decide)).trans WE
    have h1_16 := (hs_1.at 16 (by decide)).trans WE
    have hlow : ∀ id, id < N → σ_1 id = σ id := fun id hid => (hf_1.at id (by omega) WQ).trans WH
    by_cases hul : u = a.length
    · have : a = b := by
        rw [hul, List.take_length, hl, List.take_length] at heq; exact heq
      rw [decide_eq_true this]
      subst hul
      clear heq this
      exact W0
    · have hui : u < a.length := by omega
      have hub : u < b.length := by omega
      obtain ⟨x, hx⟩ : ∃ x, a[u] = x := ⟨_, rfl⟩
      obtain ⟨y, hy⟩ : ∃ y, b[u] = y := ⟨_, rfl⟩
      have c1 := sameC_spec x y (ha x (by rw [← hx]; exact List.getElem_mem hui)) (hb y (by rw [← hy]; exact List.getElem_mem hub))
      by_cases hxy : x = y
      · have heq2 : a.take (u + 1) = b.take (u + 1) := by
          rw [List.take_add_one, List.take_add_one, List.getElem?_eq_getElem hui, List.getElem?_eq_getElem hub, hx, hy, heq, hxy]
        rw [decide_eq_true hxy] at c1
        have hcs := And.intro c1 True.intro
        clear c1 heq
        refine Wk ?_
        exact ⟨WS, WG, WN, _, (show a.length - (u + 1) < m_1 by omega), u + 1, rfl, WF, WC, WC⟩
      · have hne : a ≠ b := fun e => hxy (by subst e; rw [← hx, ← hy])
        rw [decide_eq_false hne]
        rw [decide_eq_false hxy] at c1
        have hcs := And.intro c1 True.intro
        clear c1 heq
        exact W0
  · have hne : a ≠ b := fun e => hl (by rw [e])
    have hlb : ((a.length : Int) != (b.length : Int)) = true := by simp; omega
    rw [decide_eq_false hne]
    refine ACall.of_body mixed Tryd.func56 rfl (by kernel_rfl) Tryd.ntmps56 (by kernel_rfl) rfl (by simp) (by simp) (by simp) fun σ N hp hpn hk hkn hfree => ?_
    exact W0
theorem Same_cav (a b : List Ca) (ha : ∀ c ∈ a, CaSm c) (hb : ∀ c ∈ b, CaSm c) (hal : a.length ≤ 100000) (hbl : b.length ≤ 100000) (k : Nat) :
    ACall Tryd.prog 20 [.slice none (a.map caAV), .slice none (b.map caAV)] k [] (.lit (.bool (decide (a = b)))) [] := by
  have c1 := EqualFunc_spec a b ha hb hal hbl
  generalize decide (a = b) = r at *
  refine ACall.of_body mixed Tryd.func20 rfl (by kernel_rfl) Tryd.ntmps20 (by kernel_rfl) rfl (by simp) (by simp) (by simp) fun σ N hp hpn hk hkn hfree => ?_
  have hcs := And.intro c1 True.intro
  clear c1
  exact W0
end Go.Proofs.YtaelnglalpiemaaDoor
