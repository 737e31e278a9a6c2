/- Predicates: names, masks, Valid. -/
import Derived.Test.YtaelnglalpiemaaDoorR1
import Derived.Test.YtaelnglalpiemaaDoorS1
namespace Go.Proofs.YtaelnglalpiemaaDoor
open Go.Ab
attribute [local irreducible] Go.Ab.tyAV Go.Ab.aw Go.Ab.aops Go.Ab.kReg Go.Ab.aThen Go.Ab.aBlk Go.Ab.acond Go.Ab.aguard Go.Ab.astep Go.Ab.AStepX Go.Ab.aRet

structure Pr where
  kind : Int
  mask : Int
  frm : Int
  to : Int
  name : List UInt8
  num : Int
deriving DecidableEq
def prAV (p : Pr) : AV := .agg [.lit (.int .i64 p.kind), .lit (.int .u64 p.mask), .lit (.int .i64 p.frm), .lit (.int .i64 p.to), .lit (.string ⟨p.name.toArray⟩), .lit (.int .i64 p.num)]
@[go_sem] theorem prAV_sz (p : Pr) : (prAV p).sz = 6 := rfl
@[go_sem] theorem prAV_isAgg (p : Pr) : (prAV p).isAgg = true := rfl
@[go_sem] theorem prAV_cell (p : Pr) : (prAV p).cell = true := rfl
@[go_sem] theorem prAV_ren (f : Nat → Option Nat) (p : Pr) : (prAV p).ren f = prAV p := rfl
theorem pr_eqB (a b : Pr) : (a.kind == b.kind && (a.mask == b.mask && (a.frm == b.frm && (a.to == b.to && (a.name == b.name && a.num == b.num))))) = decide (a = b) := by
  obtain ⟨a1, a2, a3, a4, a5, a6⟩ := a
  obtain ⟨b1, b2, b3, b4, b5, b6⟩ := b
  rw [Bool.eq_iff_iff]; simp
theorem barr_eq (l m : List UInt8) : ((ByteArray.mk l.toArray) == (ByteArray.mk m.toArray)) = (l == m) := by
  show (l.toArray == m.toArray) = (l == m)
  simp
theorem ev_pr_eq (a b : Pr) : evBin Tryd.prog .eql 24 (prAV a) (prAV b) = some ⟨[], .lit (.bool (decide (a = b))), []⟩ := by
  rw [← pr_eqB]
  simp only [evBin, prAV, evEqA, eq24, eqA, eqAs]
  simp [barr_eq]
theorem ev_pr_ne (a b : Pr) : evBin Tryd.prog .neq 24 (prAV a) (prAV b) = some ⟨[], .lit (.bool (!decide (a = b))), []⟩ := by
  rw [← pr_eqB]
  simp only [evBin, prAV, evEqA, eq24, eqA, eqAs]
  simp [barr_eq]
attribute [go_sem high] ev_pr_eq ev_pr_ne
/-- The same, the fields written out; a field that is a string may be the empty one. -/
@[go_sem high] theorem ev_pr_eq0 (a1 a2 a3 a4 a6 b1 b2 b3 b4 b6 : Int) (a5 b5 : List UInt8) :
    evBin Tryd.prog .eql 24 (.agg [.lit (.int .i64 a1), .lit (.int .u64 a2), .lit (.int .i64 a3), .lit (.int .i64 a4), .lit (.string ⟨a5.toArray⟩), .lit (.int .i64 a6)]) (.agg [.lit (.int .i64 b1), .lit (.int .u64 b2), .lit (.int .i64 b3), .lit (.int .i64 b4), .lit (.string ⟨b5.toArray⟩), .lit (.int .i64 b6)]) =
      some ⟨[], .lit (.bool (decide ((⟨a1, a2, a3, a4, a5, a6⟩ : Pr) = ⟨b1, b2, b3, b4, b5, b6⟩))), []⟩ := ev_pr_eq ⟨a1, a2, a3, a4, a5, a6⟩ ⟨b1, b2, b3, b4, b5, b6⟩
@[go_sem high] theorem ev_pr_eq1 (a1 a2 a3 a4 a6 b1 b2 b3 b4 b6 : Int) (a5 : List UInt8) :
    evBin Tryd.prog .eql 24 (.agg [.lit (.int .i64 a1), .lit (.int .u64 a2), .lit (.int .i64 a3), .lit (.int .i64 a4), .lit (.string ⟨a5.toArray⟩), .lit (.int .i64 a6)]) (.agg [.lit (.int .i64 b1), .lit (.int .u64 b2), .lit (.int .i64 b3), .lit (.int .i64 b4), .lit (.string ByteArray.empty), .lit (.int .i64 b6)]) =
      some ⟨[], .lit (.bool (decide ((⟨a1, a2, a3, a4, a5, a6⟩ : Pr) = ⟨b1, b2, b3, b4, [], b6⟩))), []⟩ := ev_pr_eq ⟨a1, a2, a3, a4, a5, a6⟩ ⟨b1, b2, b3, b4, [], b6⟩

def nmc (c : UInt8) : Bool := decide (97 ≤ c.toNat) && decide (c.toNat ≤ 122)
def nameB (s : List UInt8) : Bool := decide (1 ≤ s.length) && decide (s.length ≤ 16) && s.all nmc
theorem nameB_bad {s : List UInt8} {u : Nat} (hu : u < s.length) (h : nmc s[u] = false) : nameB s = false := by
  have : s.all nmc = false := by
    rw [List.all_eq_false]
    exact ⟨s[u], List.getElem_mem hu, by simp [h]⟩
  simp [nameB, this]

theorem name_gen (s : List UInt8) (r : Bool) (hr : nameB s = r) (hl : s.length ≤ 9223372036854775807) (k : Nat) :
    ACall Tryd.prog 87 [.lit (.string ⟨s.toArray⟩)] k [] (.lit (.bool r)) [] := by
  by_cases h1 : s.length < 1
  · have : r = false := by rw [← hr]; simp [nameB, show ¬ 1 ≤ s.length by omega]
    subst this
    clear hr
    have hi : (s.length : Int) < 1 := by omega
    refine ACall.of_body mixed Tryd.func87 rfl (by kernel_rfl) Tryd.ntmps87 (by kernel_rfl) rfl (by simp) (by simp) (by simp) fun σ N hp hpn hk hkn hfree => ?_
    exact W0
  · have hi : ¬ (s.length : Int) < 1 := by omega
    by_cases h2 : 16 < s.length
    · have : r = false := by rw [← hr]; simp [nameB, show ¬ s.length ≤ 16 by omega]
      subst this
      clear hr
      have hi2 : (16 : Int) < (s.length : Int) := by omega
      refine ACall.of_body mixed Tryd.func87 rfl (by kernel_rfl) Tryd.ntmps87 (by kernel_rfl) rfl (by simp) (by simp) (by simp) fun σ N hp hpn hk hkn hfree => ?_
      exact W0
    · have hi2 : ¬ (16 : Int) < (s.length : Int) := by omega
      refine ACall.of_body mixed Tryd.func87 rfl (by kernel_rfl) Tryd.ntmps87 (by kernel_rfl) rfl (by simp) (by simp) (by simp) fun σ N hp hpn hk hkn hfree => ?_
      refine Wk ?_
      refine go_loopF mixed (by kernel_rfl) [2, 3, 14, 15, 16, 17, 18, 19, 20, 21, 22, 23, 24, 25, 26, 27] [] (fun m_ s_ σ_ n_ => ∃ (u : Nat), m_ = s.length - u ∧ s_ 14 = .lit (.int .i64 u) ∧ (u ≤ s.length) ∧ (∀ c ∈ s.take u, nmc c = true)) ⟨_, 0, rfl, WF, WC, WC⟩ ?_
      intro m_1 s_1 σ_1 n_1 hs_1 hf_1 hn_1 hI_1
      obtain ⟨u, hm_1, h1_14, hu, hall⟩ := hI_1
      have h1_0 := (hs_1.at 0 (by decide)).trans WE
      have h1_13 := (hs_1.at 13 (by decide)).trans WE
      have hlow : ∀ id, id < N → σ_1 id = σ id := fun id hid => (hf_1.at id (by omega) WQ).trans WH
      by_cases hul : u = s.length
      · have : r = true := by
          rw [← hr]
          rw [hul, List.take_length] at hall
          simp only [nameB, Bool.and_eq_true, decide_eq_true_eq, List.all_eq_true]
          exact ⟨⟨by omega, by omega⟩, hall⟩
        subst this
        subst hul
        clear hall hr
        exact W0
      · have hui : u < s.length := by omega
        obtain ⟨c, hc⟩ : ∃ c, s[u] = c := ⟨_, rfl⟩
        have hcl := c.toNat_lt
        by_cases hg : nmc c = true
        · have hall2 : ∀ c ∈ s.take (u + 1), nmc c = true := by
            intro x hx
            rw [List.take_add_one, List.getElem?_eq_getElem hui, hc] at hx
            simp only [Option.toList, List.mem_append, List.mem_singleton] at hx
            rcases hx with hx | rfl
            · exact hall x hx
            · exact hg
          simp only [nmc, Bool.and_eq_true, decide_eq_true_eq] at hg
          have g1 : ¬ (c.toNat : Int) < 97 := by omega
          have g2 : ¬ (122 : Int) < (c.toNat : Int) := by omega
          clear hall hg hr
          refine Wk ?_
          exact ⟨WS, WG, WN, _, (show s.length - (u + 1) < m_1 by omega), u + 1, rfl, WF, WC, WC⟩
        · have hb : nmc c = false := by simpa using hg
          have : r = false := by rw [← hr]; exact nameB_bad hui (by rw [hc]; exact hb)
          subst this
          clear hall hr
          by_cases g1 : (c.toNat : Int) < 97
          · clear hg hb
            exact W0
          · have g2 : (122 : Int) < (c.toNat : Int) := by
              simp only [nmc, Bool.and_eq_false_iff, decide_eq_false_iff_not] at hb
              omega
            clear hg hb
            exact W0
theorem refname_gen (s : List UInt8) (r : Bool) (hr : nameB s = r) (hl : s.length ≤ 9223372036854775807) (k : Nat) :
    ACall Tryd.prog 88 [.lit (.string ⟨s.toArray⟩)] k [] (.lit (.bool r)) [] := by
  by_cases h1 : s.length < 1
  · have : r = false := by rw [← hr]; simp [nameB, show ¬ 1 ≤ s.length by omega]
    subst this
    clear hr
    have hi : (s.length : Int) < 1 := by omega
    refine ACall.of_body mixed Tryd.func88 rfl (by kernel_rfl) Tryd.ntmps88 (by kernel_rfl) rfl (by simp) (by simp) (by simp) fun σ N hp hpn hk hkn hfree => ?_
    exact W0
  · have hi : ¬ (s.length : Int) < 1 := by omega
    by_cases h2 : 16 < s.length
    · have : r = false := by rw [← hr]; simp [nameB, show ¬ s.length ≤ 16 by omega]
      subst this
      clear hr
      have hi2 : (16 : Int) < (s.length : Int) := by omega
      refine ACall.of_body mixed Tryd.func88 rfl (by kernel_rfl) Tryd.ntmps88 (by kernel_rfl) rfl (by simp) (by simp) (by simp) fun σ N hp hpn hk hkn hfree => ?_
      exact W0
    · have hi2 : ¬ (16 : Int) < (s.length : Int) := by omega
      refine ACall.of_body mixed Tryd.func88 rfl (by kernel_rfl) Tryd.ntmps88 (by kernel_rfl) rfl (by simp) (by simp) (by simp) fun σ N hp hpn hk hkn hfree => ?_
      refine Wk ?_
      refine go_loopF mixed (by kernel_rfl) [2, 3, 12, 13, 14, 15, 16, 17, 18, 19, 20, 21, 22, 23, 24, 25, 26, 27] [] (fun m_ s_ σ_ n_ => ∃ (u : Nat), m_ = s.length - u ∧ s_ 3 = .lit (.int .i64 u) ∧ (u ≤ s.length) ∧ (∀ c ∈ s.take u, nmc c = true)) ⟨_, 0, rfl, WF, WC, WC⟩ ?_
      intro m_2 s_2 σ_2 n_2 hs_2 hf_2 hn_2 hI_2
      obtain ⟨u, hm_2, h2_3, hu, hall⟩ := hI_2
      have h2_0 := (hs_2.at 0 (by decide)).trans WE
      have hlow : ∀ id, id < N → σ_2 id = σ id := fun id hid => (hf_2.at id (by omega) WQ).trans WH
      by_cases hul : u = s.length
      · have : r = true := by
          rw [← hr]
          rw [hul, List.take_length] at hall
          simp only [nameB, Bool.and_eq_true, decide_eq_true_eq, List.all_eq_true]
          exact ⟨⟨by omega, by omega⟩, hall⟩
        subst this
        subst hul
        clear hall hr
        exact W0
      · have hui : u < s.length := by omega
        obtain ⟨c, hc⟩ : ∃ c, s[u] = c := ⟨_, rfl⟩
        have hcl := c.toNat_lt
        by_cases hg : nmc c = true
        · have hall2 : ∀ c ∈ s.take (u + 1), nmc c = true := by
            intro x hx
            rw [List.take_add_one, List.getElem?_eq_getElem hui, hc] at hx
            simp only [Option.toList, List.mem_append, List.mem_singleton] at hx
            rcases hx with hx | rfl
            · exact hall x hx
            · exact hg
          simp only [nmc, Bool.and_eq_true, decide_eq_true_eq] at hg
          have g1 : ¬ (c.toNat : Int) < 97 := by omega
          have g2 : ¬ (122 : Int) < (c.toNat : Int) := by omega
          clear hall hg hr
          refine Wk ?_
          exact ⟨WS, WG, WN, _, (show s.length - (u + 1) < m_2 by omega), u + 1, rfl, WF, WC, WC⟩
        · have hb : nmc c = false := by simpa using hg
          have : r = false := by rw [← hr]; exact nameB_bad hui (by rw [hc]; exact hb)
          subst this
          clear hall hr
          by_cases g1 : (c.toNat : Int) < 97
          · clear hg hb
            exact W0
          · have g2 : (122 : Int) < (c.toNat : Int) := by
              simp only [nmc, Bool.and_eq_false_iff, decide_eq_false_iff_not] at hb
              omega
            clear hg hb
            exact W0

theorem name_spec (s : List UInt8) (hl : s.length ≤ 9223372036854775807) (k : Nat) :
    ACall Tryd.prog 87 [.lit (.string ⟨s.toArray⟩)] k [] (.lit (.bool (nameB s))) [] := name_gen s _ rfl hl k
theorem Name_spec (s : List UInt8) (hl : s.length ≤ 9223372036854775807) (k : Nat) :
    ACall Tryd.prog 88 [.lit (.string ⟨s.toArray⟩)] k [] (.lit (.bool (nameB s))) [] := refname_gen s _ rfl hl k

def maskB (m : Int) (n : Nat) : Bool := decide (m ≠ 0) && decide (m < 2 ^ n)
theorem mask_spec (m : Int) (h0 : 0 ≤ m) (h1 : m < 18446744073709551616) (n : Nat) (hn : n = 64 ∨ n = 32 ∨ n = 7) (k : Nat) :
    ACall Tryd.prog 86 [.lit (.int .u64 m), .lit (.int .i64 n)] k [] (.lit (.bool (maskB m n))) [] := by
  by_cases hm : m = 0
  · subst hm
    simp only [maskB, ne_eq, not_true_eq_false, decide_false, Bool.false_and]
    refine ACall.of_body mixed Tryd.func86 rfl (by kernel_rfl) Tryd.ntmps86 (by kernel_rfl) rfl (by simp) (by simp) (by simp) fun σ N hp hpn hk hkn hfree => ?_
    exact W0
  · have hmb : (m == 0) = false := by simp [hm]
    have hmc : (m != 0) = true := by simp [hm]
    have e0 : decide (m ≠ 0) = true := by simp [hm]
    unfold maskB
    rw [e0, Bool.true_and]
    clear e0
    rcases hn with rfl | rfl | rfl
    · have e1 : decide (m < 2 ^ 64) = true := by simp; omega
      rw [e1]
      clear e1
      refine ACall.of_body mixed Tryd.func86 rfl (by kernel_rfl) Tryd.ntmps86 (by kernel_rfl) rfl (by simp) (by simp) (by simp) fun σ N hp hpn hk hkn hfree => ?_
      exact W0
    · have e1 : (m.fdiv 4294967296 == 0) = decide (m < 2 ^ 32) := by
        rw [Int.fdiv_eq_ediv_of_nonneg _ (by omega), Bool.eq_iff_iff, beq_iff_eq, decide_eq_true_eq]; omega
      generalize decide (m < 2 ^ 32) = r at *
      cases r with
      | true =>
        refine ACall.of_body mixed Tryd.func86 rfl (by kernel_rfl) Tryd.ntmps86 (by kernel_rfl) rfl (by simp) (by simp) (by simp) fun σ N hp hpn hk hkn hfree => ?_
        exact W0
      | false =>
        refine ACall.of_body mixed Tryd.func86 rfl (by kernel_rfl) Tryd.ntmps86 (by kernel_rfl) rfl (by simp) (by simp) (by simp) fun σ N hp hpn hk hkn hfree => ?_
        exact W0
    · have e1 : (m.fdiv 128 == 0) = decide (m < 2 ^ 7) := by
        rw [Int.fdiv_eq_ediv_of_nonneg _ (by omega), Bool.eq_iff_iff, beq_iff_eq, decide_eq_true_eq]; omega
      generalize decide (m < 2 ^ 7) = r at *
      cases r with
      | true =>
        refine ACall.of_body mixed Tryd.func86 rfl (by kernel_rfl) Tryd.ntmps86 (by kernel_rfl) rfl (by simp) (by simp) (by simp) fun σ N hp hpn hk hkn hfree => ?_
        exact W0
      | false =>
        refine ACall.of_body mixed Tryd.func86 rfl (by kernel_rfl) Tryd.ntmps86 (by kernel_rfl) rfl (by simp) (by simp) (by simp) fun σ N hp hpn hk hkn hfree => ?_
        exact W0
end Go.Proofs.YtaelnglalpiemaaDoor
