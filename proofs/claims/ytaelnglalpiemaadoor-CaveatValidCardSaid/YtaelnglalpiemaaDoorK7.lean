/- Predicates: Encode. -/
import Derived.Test.YtaelnglalpiemaaDoorK6
import Derived.Test.YtaelnglalpiemaaDoorC9
namespace Go.Proofs.YtaelnglalpiemaaDoor
open Go.Ab
attribute [local irreducible] Go.Ab.tyAV Go.Ab.aw Go.Ab.aops Go.Ab.kReg Go.Ab.aThen Go.Ab.aBlk Go.Ab.acond Go.Ab.aguard Go.Ab.astep Go.Ab.AStepX Go.Ab.aRet

def encP (p : Pr) : List UInt8 :=
  leb p.kind.toNat ++ (if p.kind = 4 ∨ p.kind = 5 then leb p.frm.toNat ++ leb p.to.toNat else if p.kind = 6 then fieldB p.name else if p.kind = 7 then leb p.num.toNat else eightB p.mask)
theorem maskB_pos {m : Int} {n : Nat} (h : maskB m n = true) : m ≠ 0 ∧ m < 2 ^ n := by
  unfold maskB at h
  simpa using h
/-- The valid predicates. -/
inductive PV : Pr → Prop where
  | mask (kn : Nat) (m : Int) (hk : kn = 1 ∧ m < 18446744073709551616 ∨ kn = 2 ∧ m < 4294967296 ∨ kn = 3 ∧ m < 128) (hm : m ≠ 0) : PV ⟨kn, m, 0, 0, [], 0⟩
  | span (kn f t : Nat) (hk : kn = 4 ∧ f ≤ t ∧ t ≤ 67108864 ∨ kn = 5 ∧ f < 1440 ∧ t < 1440) : PV ⟨kn, 0, f, t, [], 0⟩
  | holder (n : List UInt8) (hn : nameB n = true) : PV ⟨6, 0, 0, 0, n, 0⟩
  | rides (x : Nat) (hx : x ≤ 1000000) : PV ⟨7, 0, 0, 0, [], x⟩
theorem PV.of {p : Pr} (h : predB p = true) : PV p := by
  obtain ⟨kd, m, f, t, n, x⟩ := p
  unfold predB at h
  simp only at h
  split at h
  · rename_i e; subst e
    simp only [Bool.and_eq_true, decide_eq_true_eq, Pr.mk.injEq] at h
    obtain ⟨h1, h2, h3, h4, h5, h6, h7⟩ := h
    subst h4 h5 h6 h7
    exact .mask 1 m (.inl ⟨rfl, (maskB_pos h1).2⟩) (maskB_pos h1).1
  split at h
  · rename_i e; subst e
    simp only [Bool.and_eq_true, decide_eq_true_eq, Pr.mk.injEq] at h
    obtain ⟨h1, h2, h3, h4, h5, h6, h7⟩ := h
    subst h4 h5 h6 h7
    exact .mask 2 m (.inr (.inl ⟨rfl, (maskB_pos h1).2⟩)) (maskB_pos h1).1
  split at h
  · rename_i e; subst e
    simp only [Bool.and_eq_true, decide_eq_true_eq, Pr.mk.injEq] at h
    obtain ⟨h1, h2, h3, h4, h5, h6, h7⟩ := h
    subst h4 h5 h6 h7
    exact .mask 3 m (.inr (.inr ⟨rfl, (maskB_pos h1).2⟩)) (maskB_pos h1).1
  split at h
  · rename_i e; subst e
    simp only [Bool.and_eq_true, decide_eq_true_eq, Pr.mk.injEq] at h
    obtain ⟨h1, h2, h3, h4, h5, h6, h7, h8, h9⟩ := h
    subst h5 h8 h9
    obtain ⟨f', rfl⟩ := Int.eq_ofNat_of_zero_le h1
    obtain ⟨t', rfl⟩ := Int.eq_ofNat_of_zero_le (Int.le_trans h1 h2)
    exact .span 4 f' t' (.inl ⟨rfl, by omega, by omega⟩)
  split at h
  · rename_i e; subst e
    simp only [Bool.and_eq_true, decide_eq_true_eq, Pr.mk.injEq] at h
    obtain ⟨h1, h2, h3, h4, h5, h6, h7, h8, h9, h10⟩ := h
    subst h6 h9 h10
    obtain ⟨f', rfl⟩ := Int.eq_ofNat_of_zero_le h1
    obtain ⟨t', rfl⟩ := Int.eq_ofNat_of_zero_le h3
    exact .span 5 f' t' (.inr ⟨rfl, by omega, by omega⟩)
  split at h
  · rename_i e; subst e
    simp only [Bool.and_eq_true, decide_eq_true_eq, Pr.mk.injEq] at h
    obtain ⟨h1, h2, h3, h4, h5, h6, h7⟩ := h
    subst h3 h4 h5 h7
    exact .holder n h1
  split at h
  · rename_i e; subst e
    simp only [Bool.and_eq_true, decide_eq_true_eq, Pr.mk.injEq] at h
    obtain ⟨h1, h2, h3, h4, h5, h6, h7, h8⟩ := h
    subst h4 h5 h6 h7
    obtain ⟨x', rfl⟩ := Int.eq_ofNat_of_zero_le h1
    exact .rides x' (by omega)
  · cases h

theorem Enc_bad (p : Pr) (hp0 : PrOk p) (h : predB p = false) (d k : Nat) :
    ACall Tryd.prog 68 [prAV p] k [(d, bitsG)] (.tup [.nils, .lit (.int .i64 5)]) [] := by
  have c1 := predValid_spec p hp0 d
  rw [h] at c1
  refine ACall.of_body mixed Tryd.func68 rfl (by kernel_rfl) Tryd.ntmps68 (by kernel_rfl) rfl (by simp) (by simp) (by simp) fun σ N hp hpn hk hkn hfree => ?_
  have hd := hp _ (List.mem_singleton.2 rfl); have hdn := hpn _ (List.mem_singleton.2 rfl); simp only at hd hdn; clear hp hpn
  have hcs := And.intro c1 True.intro
  clear c1
  exact W0
theorem refEnc_bad (p : Pr) (hp0 : PrOk p) (h : predB p = false) (k : Nat) :
    ACall Tryd.prog 71 [prAV p] k [] (.tup [.nils, .lit (.int .i64 5)]) [] := by
  have c1 := refPred_spec p hp0
  rw [h] at c1
  refine ACall.of_body mixed Tryd.func71 rfl (by kernel_rfl) Tryd.ntmps71 (by kernel_rfl) rfl (by simp) (by simp) (by simp) fun σ N hp hpn hk hkn hfree => ?_
  have hcs := And.intro c1 True.intro
  clear c1
  exact W0
set_option maxHeartbeats 4000000 in
theorem Enc_mask (kn : Nat) (m : Int) (hk : kn = 1 ∨ kn = 2 ∨ kn = 3) (hp0 : PrOk ⟨kn, m, 0, 0, [], 0⟩) (h : predB ⟨kn, m, 0, 0, [], 0⟩ = true) (d k : Nat) :
    ACall Tryd.prog 68 [prAV ⟨kn, m, 0, 0, [], 0⟩] k [(d, bitsG)] (.tup [.slice none ((leb kn ++ eightB m).map byteAV), .lit (.int .i64 0)]) [] := by
  have c1 := predValid_spec _ hp0 d
  rw [h] at c1
  have m0 := hp0.m0
  have m1 := hp0.m1
  simp only at m0 m1
  have c2 := numbers_spec [kn] [] (by simp) (by simp) (by simp; omega) (leb kn) (by simp)
  simp only [List.map_nil, List.map_cons] at c2
  have hl := leb_len kn 7 (by omega)
  generalize leb kn = L at *
  have g4 : ((kn : Int) == 4) = false := by rw [beq_eq_false_iff_ne]; omega
  have g5 : ((kn : Int) == 5) = false := by rw [beq_eq_false_iff_ne]; omega
  have g6 : ((kn : Int) == 6) = false := by rw [beq_eq_false_iff_ne]; omega
  have g7 : ((kn : Int) == 7) = false := by rw [beq_eq_false_iff_ne]; omega
  have e7 := sh8_wrap m 56
  have e6 := sh8_wrap m 48
  have e5 := sh8_wrap m 40
  have e4 := sh8_wrap m 32
  have e3 := sh8_wrap m 24
  have e2 := sh8_wrap m 16
  have e1 := sh8_wrap m 8
  have e0 := sh8_wrap m 0
  simp only [Int.reducePow, Int.pow_zero, Int.fdiv_one] at e7 e6 e5 e4 e3 e2 e1 e0
  unfold eightB
  generalize sh8 m 56 = b7 at *
  generalize sh8 m 48 = b6 at *
  generalize sh8 m 40 = b5 at *
  generalize sh8 m 32 = b4 at *
  generalize sh8 m 24 = b3 at *
  generalize sh8 m 16 = b2 at *
  generalize sh8 m 8 = b1 at *
  generalize sh8 m 0 = b0 at *
  clear hk
  simp only [prAV] at *
  refine ACall.of_body mixed Tryd.func68 rfl (by kernel_rfl) Tryd.ntmps68 (by kernel_rfl) rfl (by simp) (by simp) (by simp) fun σ N hp hpn hk hkn hfree => ?_
  have hd := hp _ (List.mem_singleton.2 rfl); have hdn := hpn _ (List.mem_singleton.2 rfl); simp only at hd hdn; clear hp hpn
  have hcs := And.intro c1 (And.intro c2 True.intro)
  clear c1 c2
  refine Wk ?_
  refine go_loopB (N + 1) mixed (by kernel_rfl) [4, 5, 41, 42, 43, 44, 45, 46, 47, 48, 49, 50, 51, 52] [] (fun m_ s_ σ_ n_ => ∃ (u : Nat) (q : Nat) (acc : List UInt8), m_ = 8 - u ∧ s_ 5 = .lit (.int .i64 (56 - 8 * (u : Int))) ∧ s_ 4 = .slice (some q) ((L ++ acc).map byteAV) ∧ σ_ (q) = .row 5 1 (L.length + acc.length) ∧ (u ≤ 8) ∧ (N + 1 ≤ q) ∧ (q < n_) ∧ (acc = [b7, b6, b5, b4, b3, b2, b1, b0].take u)) ⟨_, 0, _, [], rfl, WF, WF, WF, WC, WC, WC, WC⟩ ?_
  intro m_1 s_1 σ_1 n_1 hs_1 hf_1 hn_1 hI_1
  obtain ⟨u, q, acc, hm_1, h1_5, h1_4, e1_0, hu, hq, hqn, hacc⟩ := hI_1
  have h1_1 := (hs_1.at 1 (by decide)).trans WE
  have h1_2 := (hs_1.at 2 (by decide)).trans WE
  have h1_3 := (hs_1.at 3 (by decide)).trans WE
  have k1_0 := (hf_1.at (N) (by omega) WQ).trans WE
  have hlow : ∀ id, id < N → σ_1 id = σ id := fun id hid => (hf_1.at id (by omega) WQ).trans WH
  have hb7 : byteAV b7 = .lit (.int .u8 b7.toNat) := rfl
  have hb6 : byteAV b6 = .lit (.int .u8 b6.toNat) := rfl
  have hb5 : byteAV b5 = .lit (.int .u8 b5.toNat) := rfl
  have hb4 : byteAV b4 = .lit (.int .u8 b4.toNat) := rfl
  have hb3 : byteAV b3 = .lit (.int .u8 b3.toNat) := rfl
  have hb2 : byteAV b2 = .lit (.int .u8 b2.toNat) := rfl
  have hb1 : byteAV b1 = .lit (.int .u8 b1.toNat) := rfl
  have hb0 : byteAV b0 = .lit (.int .u8 b0.toNat) := rfl
  have hcase : u = 0 ∨ u = 1 ∨ u = 2 ∨ u = 3 ∨ u = 4 ∨ u = 5 ∨ u = 6 ∨ u = 7 ∨ u = 8 := by omega
  rcases hcase with rfl | hcase
  · simp only [List.take_succ_cons, List.take_zero] at hacc
    subst hacc
    refine Wk ?_
    exact ⟨WS, WG, WN, _, (show 8 - (1) < m_1 by omega), 1, q, [b7], rfl, WF, WF, WF, WC, WC, WC, WC⟩
  rcases hcase with rfl | hcase
  · simp only [List.take_succ_cons, List.take_zero] at hacc
    subst hacc
    refine Wk ?_
    exact ⟨WS, WG, WN, _, (show 8 - (2) < m_1 by omega), 2, q, [b7, b6], rfl, WF, WF, WF, WC, WC, WC, WC⟩
  rcases hcase with rfl | hcase
  · simp only [List.take_succ_cons, List.take_zero] at hacc
    subst hacc
    refine Wk ?_
    exact ⟨WS, WG, WN, _, (show 8 - (3) < m_1 by omega), 3, q, [b7, b6, b5], rfl, WF, WF, WF, WC, WC, WC, WC⟩
  rcases hcase with rfl | hcase
  · simp only [List.take_succ_cons, List.take_zero] at hacc
    subst hacc
    refine Wk ?_
    exact ⟨WS, WG, WN, _, (show 8 - (4) < m_1 by omega), 4, q, [b7, b6, b5, b4], rfl, WF, WF, WF, WC, WC, WC, WC⟩
  rcases hcase with rfl | hcase
  · simp only [List.take_succ_cons, List.take_zero] at hacc
    subst hacc
    refine Wk ?_
    exact ⟨WS, WG, WN, _, (show 8 - (5) < m_1 by omega), 5, q, [b7, b6, b5, b4, b3], rfl, WF, WF, WF, WC, WC, WC, WC⟩
  rcases hcase with rfl | hcase
  · simp only [List.take_succ_cons, List.take_zero] at hacc
    subst hacc
    refine Wk ?_
    exact ⟨WS, WG, WN, _, (show 8 - (6) < m_1 by omega), 6, q, [b7, b6, b5, b4, b3, b2], rfl, WF, WF, WF, WC, WC, WC, WC⟩
  rcases hcase with rfl | hcase
  · simp only [List.take_succ_cons, List.take_zero] at hacc
    subst hacc
    refine Wk ?_
    exact ⟨WS, WG, WN, _, (show 8 - (7) < m_1 by omega), 7, q, [b7, b6, b5, b4, b3, b2, b1], rfl, WF, WF, WF, WC, WC, WC, WC⟩
  rcases hcase with rfl | hcase
  · simp only [List.take_succ_cons, List.take_zero] at hacc
    subst hacc
    refine Wk ?_
    exact ⟨WS, WG, WN, _, (show 8 - (8) < m_1 by omega), 8, q, [b7, b6, b5, b4, b3, b2, b1, b0], rfl, WF, WF, WF, WC, WC, WC, WC⟩
  subst hcase
  simp only [List.take_succ_cons, List.take_zero] at hacc
  subst hacc
  exact WL
end Go.Proofs.YtaelnglalpiemaaDoor
