/- Texts H7, H8, D1, R1, R2, J1, V1, J2, J3, V2, V3, joined. -/
import Derived.Test.YtaelnglalpiemaaDoorM4

/- SHA-256: New and Sum. -/
namespace Go.Proofs.YtaelnglalpiemaaDoor
open Go.Ab
attribute [local irreducible] Go.Ab.tyAV Go.Ab.aw Go.Ab.aops Go.Ab.kReg Go.Ab.aThen Go.Ab.aBlk Go.Ab.acond Go.Ab.aguard Go.Ab.astep Go.Ab.AStepX Go.Ab.aRet
attribute [local irreducible] v8AV shaG

theorem shaNew_spec (k : Nat) : ACall Tryd.prog 91 [] k [] (hashAV iv8 [] 0) [] := by
  unfold hashAV iv8
  rw [v8AV]
  simp only [V8.l, List.map_nil]
  refine ACall.of_body mixed Tryd.func91 rfl (by kernel_rfl) Tryd.ntmps91 (by kernel_rfl) rfl (by simp) (by simp) (by simp) fun σ N hp hpn hk hkn hfree => ?_
  refine Wk ?_
  refine go_resultI (by simp (disch := omega) [go_sem, *, -List.reduceReplicate]; rfl) (AV.sub_agg (by repeat' first | exact ALe.nil | exact AV.le_refl _ | apply ALe.cons | ((first | apply AV.le_slices | apply AV.le_nilsE | apply AV.le_clipE); first | rfl | (simp (disch := omega) [go_sem, *, -List.reduceReplicate]; done)))) (by simp (disch := omega) [go_sem, -List.reduceReplicate]; try rfl) (fun id hid => by simp (disch := omega) only [upd_ne, wr_cons, wr_nil]; try exact hlow id hid)

/-- The bytes of eight words. -/
def dig (v : V8) : List UInt8 := (List.range 32).map fun i => sh8 (v.l.getD (i / 4) 0) (24 - 8 * (i % 4))
theorem dig_len (v : V8) : (dig v).length = 32 := by simp [dig]
theorem dig_at (v : V8) (i c : Nat) (hi : i < 8) (hc : c < 4) (h : 4 * i + c < (dig v).length := by simp only [dig_len]; omega) : (dig v)[4 * i + c] = sh8 (v.l.getD i 0) (24 - 8 * c) := by
  simp only [dig, List.getElem_map, List.getElem_range]
  have h1 : (4 * i + c) / 4 = i := by omega
  have h2 : (4 * i + c) % 4 = c := by omega
  rw [h1, h2]
def digT (v : V8) : Tg := ⟨dig v, dig_len v⟩
/-- The first i bytes of a tag. -/
def pT (D : Tg) (i : Nat) : Tg := if h : i ≤ 32 then ⟨D.1.take i ++ List.replicate (32 - i) 0, by rw [List.length_append, List.length_take, List.length_replicate, D.2]; omega⟩ else D
theorem pT_0 (D : Tg) : pT D 0 = zeroTag := rfl
theorem pT_32 (D : Tg) : pT D 32 = D := by
  apply Subtype.ext
  simp only [pT, Nat.le_refl, dif_pos, Nat.sub_self, List.replicate_zero, List.append_nil]
  exact List.take_of_length_le (by rw [D.2]; omega)
theorem pT_step (D : Tg) (i : Nat) (h : i < 32) (b : UInt8) (hb : D.1[i]'(by rw [D.2]; exact h) = b) : setT (pT D i) i b = pT D (i + 1) := by
  apply Subtype.ext
  have hl : i < D.1.length := by rw [D.2]; exact h
  simp only [setT, pT, dif_pos (show i ≤ 32 by omega), dif_pos (show i + 1 ≤ 32 by omega)]
  rw [List.set_append_right _ _ (by rw [List.length_take]; omega), List.length_take, show i - min i D.1.length = 0 by omega, show 32 - i = (32 - (i + 1)) + 1 by omega, List.replicate_succ, List.set_cons_zero, List.take_add_one, List.getElem?_eq_getElem hl, hb]
  simp
theorem ufdiv (x : Int) (s : Nat) : IntKind.u8.wrap (x.fdiv ((2 : Int) ^ s)) = ((sh8 x s).toNat : Int) := sh8_wrap x s
def padB (rl n : Nat) : List UInt8 := 128 :: (List.replicate ((119 - rl % 64) % 64) 0 ++ eightB (8 * (n : Int)))
theorem padB_len (rl n : Nat) : (padB rl n).length = (119 - rl % 64) % 64 + 9 := by simp [padB, eightB]
theorem idx8 (H : V8) (i : Nat) (hi : i < 8) {u v : AV} (hu : u = v8AV H) (hv : v = .lit (.int .i64 i)) : evIndexA Tryd.prog 116 u v = some (.lit (.int .u32 (H.l.getD i 0))) := by
  subst hu hv
  have hT : tyInfo Tryd.prog 115 = some (false, 1) := by kernel_rfl
  have hA : arrInfo Tryd.prog 116 = some (8, 115, 1) := by kernel_rfl
  have hl : i < H.l.length := by rw [V8_len]; exact hi
  have hg : (H.l.map uAV)[i]? = some (.lit (.int .u32 (H.l.getD i 0))) := by
    rw [List.getElem?_map, List.getElem?_eq_getElem hl, List.getD_eq_getElem?_getD, List.getElem?_eq_getElem hl]; rfl
  have hs : AV.szl ((H.l.map uAV).take i) = i := by rw [szl_take_us, V8_len]; omega
  rw [v8AV, uuAV]
  simp only [evIndexA, Int.toNat_natCast, hA, hg]
  simp [hT, hs, hi, AV.isAgg, AV.sz, AV.one]
section
variable [W : W32]
set_option maxHeartbeats 2000000 in
theorem Sum_spec (h : V8) (r : List UInt8) (n : Nat) (hl : r.length ≤ 10000000) (hn : n ≤ 10000000) {H : V8} (hH : comp ((r ++ padB r.length n).length / 64) h (r ++ padB r.length n) = H) (g k : Nat) :
    ACall Tryd.prog 89 [hashAV h r n] k [(g, shaG)] (tagAV (digT H)) [] := by
  obtain ⟨R, hR⟩ : ∃ R, (r ++ padB r.length n).drop (64 * ((r ++ padB r.length n).length / 64)) = R := ⟨_, rfl⟩
  have hpl := padB_len r.length n
  have c1 := Write_spec h r (padB r.length n) n (by omega) (by omega) (by omega) (hH := hH) (hR := hR) (g := g)
  obtain ⟨pl, hpl'⟩ : ∃ x, (padB r.length n).length = x := ⟨_, rfl⟩
  rw [hpl'] at c1
  clear hpl'
  clear hH hR
  generalize hrl : r.length = rl at hl hpl c1
  obtain ⟨K, hK⟩ : ∃ K, (119 - rl % 64) % 64 = K := ⟨_, rfl⟩
  unfold padB at c1
  rw [hK] at c1
  unfold hashAV at *
  refine ACall.of_body mixed Tryd.func89 rfl (by kernel_rfl) Tryd.ntmps89 (by kernel_rfl) rfl (by simp) (by simp) (by simp) fun σ N hp hpn hk hkn hfree => ?_
  have hd := hp _ (List.mem_singleton.2 rfl); have hdn := hpn _ (List.mem_singleton.2 rfl); simp only at hd hdn; clear hp hpn
  refine Wk ?_
  refine go_loopB (N+2) mixed (by kernel_rfl) [3, 10, 11, 12, 13, 14, 15, 16, 17, 18, 19, 20] [] (fun m_ s_ σ_ n_ => ∃ (z : Nat) (q : Nat) (p : List UInt8), m_ = K - z ∧ s_ 3 = .slice (some q) (p.map byteAV) ∧ σ_ (q) = .row 5 1 p.length ∧ (z ≤ K) ∧ (p = 128 :: List.replicate z 0) ∧ (N + 2 ≤ q) ∧ (q < n_)) ⟨_, 0, _, [128], rfl, WF, WF, WC, WC, WC, WC⟩ ?_
  intro m_1 s_1 σ_1 n_1 hs_1 hf_1 hn_1 hI_1
  obtain ⟨z, q, p, hm_1, h1_3, e1_0, hz, hp, hq, hqn⟩ := hI_1
  have h1_1 := (hs_1.at 1 (by decide)).trans WE
  have h1_2 := (hs_1.at 2 (by decide)).trans WE
  have k1_0 := (hf_1.at (N) (by omega) WQ).trans WE
  have k1_1 := (hf_1.at (N+1) (by omega) WQ).trans WE
  have k1_2 := (hf_1.at (g) (by omega) WQ).trans WE
  have hlow : ∀ id, id < N → σ_1 id = σ id := fun id hid => (hf_1.at id (by omega) WQ).trans WH
  have hpz : p.length = z + 1 := by rw [hp]; simp
  have hKb : K < 64 := by omega
  have htm : ((rl : Int) + (p.length : Int)).tmod 64 = (((rl + p.length) % 64 : Nat) : Int) := by rw [Int.tmod_eq_emod_of_nonneg (by omega)]; omega
  by_cases hzK : z = K
  · subst hzK
    have hM : (rl + p.length) % 64 = 56 := by omega
    rw [hM] at htm
    obtain ⟨P, hP⟩ : ∃ P, p = P := ⟨_, rfl⟩
    have hPl : p.length ≤ 64 := by omega
    have hPe : (128 :: (List.replicate z 0 ++ eightB (8 * (n : Int)))) = p ++ eightB (8 * (n : Int)) := by rw [hp]; rfl
    rw [hPe] at c1
    clear hPe hp hM hpz hP
    have hw8 : IntKind.u64.wrap ((n : Int) * 8) = 8 * (n : Int) := by rw [wrap_u64r (by omega) (by omega)]; omega
    have hwn : IntKind.u64.wrap (n : Int) = (n : Int) := wrap_u64r (by omega) (by omega)
    have e7 := sh8_wrap (8 * (n : Int)) 56
    have e6 := sh8_wrap (8 * (n : Int)) 48
    have e5 := sh8_wrap (8 * (n : Int)) 40
    have e4 := sh8_wrap (8 * (n : Int)) 32
    have e3 := sh8_wrap (8 * (n : Int)) 24
    have e2 := sh8_wrap (8 * (n : Int)) 16
    have e1 := sh8_wrap (8 * (n : Int)) 8
    have e0 := sh8_wrap (8 * (n : Int)) 0
    simp only [Int.reducePow, Int.pow_zero, Int.fdiv_one] at e7 e6 e5 e4 e3 e2 e1 e0
    unfold eightB at c1
    generalize sh8 (8 * (n : Int)) 56 = b7 at *
    generalize sh8 (8 * (n : Int)) 48 = b6 at *
    generalize sh8 (8 * (n : Int)) 40 = b5 at *
    generalize sh8 (8 * (n : Int)) 32 = b4 at *
    generalize sh8 (8 * (n : Int)) 24 = b3 at *
    generalize sh8 (8 * (n : Int)) 16 = b2 at *
    generalize sh8 (8 * (n : Int)) 8 = b1 at *
    generalize sh8 (8 * (n : Int)) 0 = b0 at *
    generalize 8 * (n : Int) = m at *
    refine Wk ?_
    refine go_loopB (N+2) mixed (by kernel_rfl) [3, 5, 25, 26, 27, 28, 29, 30, 31, 32, 33, 34, 35] [] (fun m_ s_ σ_ n_ => ∃ (u : Nat) (q' : Nat) (acc : List UInt8), m_ = 8 - u ∧ s_ 5 = .lit (.int .i64 (56 - 8 * (u : Int))) ∧ s_ 3 = .slice (some q') ((p ++ acc).map byteAV) ∧ σ_ (q') = .row 5 1 (p.length + acc.length) ∧ (u ≤ 8) ∧ (N + 2 ≤ q') ∧ (q' < n_) ∧ (acc = [b7, b6, b5, b4, b3, b2, b1, b0].take u)) ⟨_, 0, q, [], rfl, WF, WF, WF, WC, WC, WC, WC⟩ ?_
    intro m_2 s_2 σ_2 n_2 hs_2 hf_2 hn_2 hI_2
    obtain ⟨u, q', acc, hm_2, h2_5, h2_3, e2_0, hu, hq', hqn', hacc⟩ := hI_2
    have h2_1 := (hs_2.at 1 (by decide)).trans WE
    have h2_2 := (hs_2.at 2 (by decide)).trans WE
    have h2_4 := (hs_2.at 4 (by decide)).trans WE
    have k2_0 := (hf_2.at (N) (by omega) WQ).trans WE
    have k2_1 := (hf_2.at (N+1) (by omega) WQ).trans WE
    have k2_2 := (hf_2.at (g) (by omega) WQ).trans WE
    have hlow : ∀ id, id < N → σ_2 id = σ id := fun id hid => (hf_2.at id (by omega) WQ).trans (by first | exact hlow id hid | exact WH)
    have hb7 : byteAV b7 = .lit (.int .u8 b7.toNat) := rfl
    have hb6 : byteAV b6 = .lit (.int .u8 b6.toNat) := rfl
    have hb5 : byteAV b5 = .lit (.int .u8 b5.toNat) := rfl
    have hb4 : byteAV b4 = .lit (.int .u8 b4.toNat) := rfl
    have hb3 : byteAV b3 = .lit (.int .u8 b3.toNat) := rfl
    have hb2 : byteAV b2 = .lit (.int .u8 b2.toNat) := rfl
    have hb1 : byteAV b1 = .lit (.int .u8 b1.toNat) := rfl
    have hb0 : byteAV b0 = .lit (.int .u8 b0.toNat) := rfl
    have hcase : u = 0 ∨ u = 1 ∨ u = 2 ∨ u = 3 ∨ u = 4 ∨ u = 5 ∨ u = 6 ∨ u = 7 ∨ u = 8 := by omega
    rcases hcase with rfl | hcase
    · simp only [List.take_succ_cons, List.take_zero] at hacc
      subst hacc
      refine Wk ?_
      exact ⟨WS, WG, WN, _, (show 8 - (1) < m_2 by omega), 1, _, [b7], rfl, WF, WF, WF, WC, WC, WC, WC⟩
    rcases hcase with rfl | hcase
    · simp only [List.take_succ_cons, List.take_zero] at hacc
      subst hacc
      refine Wk ?_
      exact ⟨WS, WG, WN, _, (show 8 - (2) < m_2 by omega), 2, _, [b7, b6], rfl, WF, WF, WF, WC, WC, WC, WC⟩
    rcases hcase with rfl | hcase
    · simp only [List.take_succ_cons, List.take_zero] at hacc
      subst hacc
      refine Wk ?_
      exact ⟨WS, WG, WN, _, (show 8 - (3) < m_2 by omega), 3, _, [b7, b6, b5], rfl, WF, WF, WF, WC, WC, WC, WC⟩
    rcases hcase with rfl | hcase
    · simp only [List.take_succ_cons, List.take_zero] at hacc
      subst hacc
      refine Wk ?_
      exact ⟨WS, WG, WN, _, (show 8 - (4) < m_2 by omega), 4, _, [b7, b6, b5, b4], rfl, WF, WF, WF, WC, WC, WC, WC⟩
    rcases hcase with rfl | hcase
    · simp only [List.take_succ_cons, List.take_zero] at hacc
      subst hacc
      refine Wk ?_
      exact ⟨WS, WG, WN, _, (show 8 - (5) < m_2 by omega), 5, _, [b7, b6, b5, b4, b3], rfl, WF, WF, WF, WC, WC, WC, WC⟩
    rcases hcase with rfl | hcase
    · simp only [List.take_succ_cons, List.take_zero] at hacc
      subst hacc
      refine Wk ?_
      exact ⟨WS, WG, WN, _, (show 8 - (6) < m_2 by omega), 6, _, [b7, b6, b5, b4, b3, b2], rfl, WF, WF, WF, WC, WC, WC, WC⟩
    rcases hcase with rfl | hcase
    · simp only [List.take_succ_cons, List.take_zero] at hacc
      subst hacc
      refine Wk ?_
      exact ⟨WS, WG, WN, _, (show 8 - (7) < m_2 by omega), 7, _, [b7, b6, b5, b4, b3, b2, b1], rfl, WF, WF, WF, WC, WC, WC, WC⟩
    rcases hcase with rfl | hcase
    · simp only [List.take_succ_cons, List.take_zero] at hacc
      subst hacc
      refine Wk ?_
      exact ⟨WS, WG, WN, _, (show 8 - (8) < m_2 by omega), 8, _, [b7, b6, b5, b4, b3, b2, b1, b0], rfl, WF, WF, WF, WC, WC, WC, WC⟩
    subst hcase
    simp only [List.take_succ_cons, List.take_zero] at hacc
    subst hacc
    have hcs := And.intro c1 True.intro
    clear c1
    clear e0 e1 e2 e3 e4 e5 e6 e7 hb0 hb1 hb2 hb3 hb4 hb5 hb6 hb7
    refine Wk ?_
    refine go_fieldA (e := 116) (q := 0) (xs := [v8AV H, .slice none (R.map byteAV), .lit (.int .i64 ((n + pl : Nat) : Int))]) (y := v8AV H) (by kernel_rfl) (by simp (disch := omega) [go_sem, *, -List.reduceReplicate]) rfl rfl (by rw [v8_isAgg, v8_sz]; kernel_rfl) (.inl (v8_isAgg H)) ?_
    have hD0 : pT (digT H) (4 * 0) = zeroTag := pT_0 _
    refine Wk ?_
    refine go_loopF mixed (by kernel_rfl) [7, 8, 40, 41, 42, 43, 44, 45, 46, 47, 48, 49, 50, 51, 52, 53, 54, 55, 56, 57, 58, 59, 60, 61, 62, 63, 64, 65, 66, 67, 68, 69, 70] [n_2+2] (fun m_ s_ σ_ n_ => ∃ (i : Nat) (P : Tg), m_ = 8 - i ∧ s_ 40 = .lit (.int .i64 i) ∧ σ_ (n_2+2) = .box 87 (tagAV P) ∧ (i ≤ 8) ∧ (pT (digT H) (4 * i) = P)) ⟨_, 0, zeroTag, rfl, WF, WF, WC, WC⟩ ?_
    intro m_3 s_3 σ_3 n_3 hs_3 hf_3 hn_3 hI_3
    obtain ⟨i, P, hm_3, h3_40, e3_0, hi, hP⟩ := hI_3
    have h3_2 := (hs_3.at 2 (by decide)).trans WE
    have h3_6 := (hs_3.at 6 (by decide)).trans WE
    have h3_39 := (hs_3.at 39 (by decide)).trans WE
    have k3_0 := (hf_3.at (N+1) (by omega) WQ).trans WE
    have k3_1 := (hf_3.at (g) (by omega) WQ).trans WE
    have hlow : ∀ id, id < N → σ_3 id = σ id := fun id hid => (hf_3.at id (by omega) WQ).trans (by first | exact hlow id hid | exact WH)
    by_cases hi8 : i = 8
    · subst hi8
      have : P = digT H := by rw [← hP]; exact pT_32 _
      subst this
      exact W0
    · have hil : (i : Int) < 8 := by omega
      have hil' : i < 8 := by omega
      obtain ⟨x, hx⟩ : ∃ x, H.l.getD i 0 = x := ⟨_, rfl⟩
      have d0 := dig_at H i 0 hil' (by omega)
      have d1 := dig_at H i 1 hil' (by omega)
      have d2 := dig_at H i 2 hil' (by omega)
      have d3 := dig_at H i 3 hil' (by omega)
      rw [hx] at d0 d1 d2 d3
      have s0 := pT_step (digT H) (4 * i) (by omega) _ d0
      have s1 := pT_step (digT H) (4 * i + 1) (by omega) _ d1
      have s2 := pT_step (digT H) (4 * i + 2) (by omega) _ d2
      have s3 := pT_step (digT H) (4 * i + 3) (by omega) _ d3
      have e0 := sh8_wrap x 24
      have e1 := sh8_wrap x 16
      have e2 := sh8_wrap x 8
      have e3 := sh8_wrap x 0
      simp only [Nat.mul_zero, Nat.mul_one, Nat.reduceMul, Nat.sub_zero, Nat.reduceSub] at s0 s1 s2 s3
      simp only [Int.reducePow, Int.pow_zero, Int.fdiv_one] at e0 e1 e2 e3
      clear d0 d1 d2 d3
      have h4 : 4 * (i + 1) = 4 * i + 3 + 1 := by omega
      rw [hP] at s0
      generalize sh8 x 24 = b0 at *
      generalize sh8 x 16 = b1 at *
      generalize sh8 x 8 = b2 at *
      generalize sh8 x 0 = b3 at *
      obtain ⟨P1, hP1⟩ : ∃ z, pT (digT H) (4 * i + 1) = z := ⟨_, rfl⟩
      obtain ⟨P2, hP2⟩ : ∃ z, pT (digT H) (4 * i + 2) = z := ⟨_, rfl⟩
      obtain ⟨P3, hP3⟩ : ∃ z, pT (digT H) (4 * i + 3) = z := ⟨_, rfl⟩
      obtain ⟨P4, hP4⟩ : ∃ z, pT (digT H) (4 * (i + 1)) = z := ⟨_, rfl⟩
      rw [show 4 * i + 3 + 1 = 4 * (i + 1) by omega, hP3, hP4] at s3
      rw [show 4 * i + 1 + 1 = 4 * i + 2 by omega, hP1, hP2] at s1
      rw [show 4 * i + 2 + 1 = 4 * i + 3 by omega, hP2, hP3] at s2
      rw [hP1] at s0
      clear hP1 hP2 hP3 hP h4
      have i0 : (4 * (i : Int)).toNat = 4 * i := by omega
      have i1 : (4 * (i : Int) + 1).toNat = 4 * i + 1 := by omega
      have i2 : (4 * (i : Int) + 2).toNat = 4 * i + 2 := by omega
      have i3 : (4 * (i : Int) + 3).toNat = 4 * i + 3 := by omega
      have l0 : 4 * i < 32 := by omega
      have l1 : 4 * i + 1 < 32 := by omega
      have l2 : 4 * i + 2 < 32 := by omega
      have l3 : 4 * i + 3 < 32 := by omega
      have t0 : (tagAV P).put [4 * i] (.lit (.int .u8 (b0.toNat : Int))) = tagAV P1 := by rw [← s0]; exact tag_put P (4 * i) b0 l0
      have t1 : (tagAV P1).put [4 * i + 1] (.lit (.int .u8 (b1.toNat : Int))) = tagAV P2 := by rw [← s1]; exact tag_put P1 (4 * i + 1) b1 l1
      have t2 : (tagAV P2).put [4 * i + 2] (.lit (.int .u8 (b2.toNat : Int))) = tagAV P3 := by rw [← s2]; exact tag_put P2 (4 * i + 2) b2 l2
      have t3 : (tagAV P3).put [4 * i + 3] (.lit (.int .u8 (b3.toNat : Int))) = tagAV P4 := by rw [← s3]; exact tag_put P3 (4 * i + 3) b3 l3
      clear s0 s1 s2 s3
      refine Wk ?_
      refine go_indexA (v := .lit (.int .u32 x)) (by rw [← hx]; exact idx8 H i hil' (by simp (disch := omega) [go_sem, *, -List.reduceReplicate]) (by simp (disch := omega) [go_sem, *, -List.reduceReplicate])) ?_
      clear hx
      refine Wk ?_
      exact ⟨WS, WG, WN, _, (show 8 - (i + 1) < m_3 by omega), i + 1, P4, rfl, WF, WF, WC, WC⟩
  · have hM : (rl + p.length) % 64 ≠ 56 := by omega
    have htm2 : ((rl : Int) + ((z : Int) + 1)).tmod 64 = (((rl + p.length) % 64 : Nat) : Int) := by rw [← htm]; congr 1; omega
    clear htm
    generalize (rl + p.length) % 64 = M at *
    have hM1 : ((M : Int) != 56) = true := by simp; omega
    have hp2 : 128 :: List.replicate (z + 1) 0 = p ++ [0] := by rw [hp, List.replicate_succ']; rfl
    have hb0 : byteAV 0 = .lit (.int .u8 0) := rfl
    clear hp
    have hpl3 : (p ++ [0]).length = z + 1 + 1 := by simp; omega
    obtain ⟨p', hp'⟩ : ∃ x, p ++ [0] = x := ⟨_, rfl⟩
    have hp4 : p.map byteAV ++ [.lit (.int .u8 0)] = p'.map byteAV := by rw [← hp', List.map_append]; rfl
    rw [hp'] at hp2 hpl3
    have hp5 := hp2.symm
    clear hp2 hp'
    refine Wk ?_
    exact ⟨WS, WG, WN, _, (show K - (z + 1) < m_1 by omega), z + 1, _, p', rfl, WF, WF, WC, WC, WC, WC⟩
end
end Go.Proofs.YtaelnglalpiemaaDoor

/- SHA-256: Of, and the reference's Sha. -/
namespace Go.Proofs.YtaelnglalpiemaaDoor
open Go.Ab
attribute [local irreducible] Go.Ab.tyAV Go.Ab.aw Go.Ab.aops Go.Ab.kReg Go.Ab.aThen Go.Ab.aBlk Go.Ab.acond Go.Ab.aguard Go.Ab.astep Go.Ab.AStepX Go.Ab.aRet
attribute [local irreducible] v8AV shaG
theorem padB_mod {a b : Nat} (h : a % 64 = b % 64) (n : Nat) : padB a n = padB b n := by rw [padB, padB, h]
theorem Initial_spec (k : Nat) : ACall Tryd.prog 93 [] k [] (v8AV iv8) [] := by
  rw [v8AV]
  unfold iv8
  simp only [V8.l]
  refine ACall.of_body mixed Tryd.func93 rfl (by kernel_rfl) Tryd.ntmps93 (by kernel_rfl) rfl (by simp) (by simp) (by simp) fun σ N hp hpn hk hkn hfree => ?_
  exact W0
section
variable [W : W32]
theorem comp_add (h : V8) (L : List UInt8) : ∀ (q1 q2 : Nat), comp (q1 + q2) h L = comp q2 (comp q1 h L) (L.drop (64 * q1)) := by
  intro q1
  induction q1 generalizing h L with
  | zero => intro q2; simp [comp]
  | succ q1 ih =>
    intro q2
    rw [show q1 + 1 + q2 = (q1 + q2) + 1 by omega, comp, comp, ih, List.drop_drop, show 64 + 64 * q1 = 64 * (q1 + 1) by omega]
theorem comp_app (h : V8) (b p : List UInt8) : ∀ (q : Nat), 64 * q ≤ b.length → comp q h (b ++ p) = comp q h b := by
  intro q
  induction q generalizing h b with
  | zero => intro _; rfl
  | succ q ih =>
    intro hq
    rw [comp, comp, List.take_append_of_le_length (by omega), List.drop_append_of_le_length (by omega), ih _ _ (by rw [List.length_drop]; omega)]
/-- The state after all bytes with their pad. -/
def shaV (b : List UInt8) : V8 := comp ((b ++ padB b.length b.length).length / 64) iv8 (b ++ padB b.length b.length)
def shaT (b : List UInt8) : Tg := digT (shaV b)
theorem shaV_split (b : List UInt8) (H : V8) (R : List UInt8) (hH : comp (b.length / 64) iv8 b = H) (hR : b.drop (64 * (b.length / 64)) = R) :
    comp ((R ++ padB R.length b.length).length / 64) H (R ++ padB R.length b.length) = shaV b := by
  have hRl : R.length = b.length % 64 := by rw [← hR, List.length_drop]; omega
  have hp : padB R.length b.length = padB b.length b.length := padB_mod (by rw [hRl]; omega) _
  have hpl := padB_len b.length b.length
  rw [shaV, hp]
  generalize padB b.length b.length = p at *
  have e1 : (b ++ p).length / 64 = b.length / 64 + (R ++ p).length / 64 := by rw [List.length_append, List.length_append, hRl]; omega
  rw [e1, comp_add, comp_app iv8 b p (b.length / 64) (by omega), hH, List.drop_append_of_le_length (by omega), hR]
theorem Of_spec (b : List UInt8) (h0 : 0 < b.length) (hl : b.length ≤ 1000000) (g k : Nat) :
    ACall Tryd.prog 59 [.slice none (b.map byteAV)] k [(g, shaG)] (tagAV (shaT b)) [] := by
  have c1 := shaNew_spec
  obtain ⟨H, hH⟩ : ∃ H, comp (b.length / 64) iv8 b = H := ⟨_, rfl⟩
  obtain ⟨R, hR⟩ : ∃ R, b.drop (64 * (b.length / 64)) = R := ⟨_, rfl⟩
  have hRl : R.length ≤ 64 := by rw [← hR, List.length_drop]; omega
  have c2 := fun k => Write_spec iv8 [] b 0 (by simpa using h0) (by simp; omega) (by omega) k (H := H) (R := R) hH hR g
  have c3 := Sum_spec H R b.length (by omega) (by omega) (H := shaV b) (shaV_split b H R hH hR) g
  rw [← shaT] at c3
  rw [Nat.zero_add] at c2
  clear hH hR
  generalize shaT b = T at *
  generalize hashAV iv8 [] 0 = a0 at *
  generalize hashAV H R b.length = a1 at *
  refine ACall.of_body mixed Tryd.func59 rfl (by kernel_rfl) Tryd.ntmps59 (by kernel_rfl) rfl (by simp) (by simp) (by simp) fun σ N hp hpn hk hkn hfree => ?_
  have hd := hp _ (List.mem_singleton.2 rfl); have hdn := hpn _ (List.mem_singleton.2 rfl); simp only at hd hdn; clear hp hpn
  have hcs := And.intro c1 (And.intro c2 (And.intro c3 True.intro))
  clear c1 c2 c3
  exact W0
set_option maxHeartbeats 2000000 in
theorem Sha_spec (b : List UInt8) (hl : b.length ≤ 1000000) (k : Nat) :
    ACall Tryd.prog 60 [.slice none (b.map byteAV)] k [] (tagAV (shaT b)) [] := by
  have c1 := Eight_spec (8 * (b.length : Int)) (by omega) (by omega)
  have c2 := Initial_spec
  have hpl := padB_len b.length b.length
  have hM : b ++ padB b.length b.length = b ++ 128 :: (List.replicate ((119 - b.length % 64) % 64) 0 ++ eightB (8 * (b.length : Int))) := rfl
  have hT : shaT b = digT (comp ((b ++ padB b.length b.length).length / 64) iv8 (b ++ padB b.length b.length)) := rfl
  rw [hT]
  have hel := eightB_len (8 * (b.length : Int))
  generalize eightB (8 * (b.length : Int)) = E at *
  generalize b ++ padB b.length b.length = M at *
  obtain ⟨K, hK⟩ : ∃ K, (119 - b.length % 64) % 64 = K := ⟨_, rfl⟩
  rw [hK] at hM
  refine ACall.of_body mixed Tryd.func60 rfl (by kernel_rfl) Tryd.ntmps60 (by kernel_rfl) rfl (by simp) (by simp) (by simp) fun σ N hp hpn hk hkn hfree => ?_
  refine Wk ?_
  refine go_loopB (N+1) mixed (by kernel_rfl) [3, 13, 14, 15, 16, 17, 18, 19] [] (fun m_ s_ σ_ n_ => ∃ (z : Nat) (q : Nat) (p : List UInt8), m_ = K - z ∧ s_ 3 = .slice (some q) (p.map byteAV) ∧ σ_ (q) = .row 5 1 p.length ∧ (z ≤ K) ∧ (p = b ++ 128 :: List.replicate z 0) ∧ (p.length = b.length + (z + 1)) ∧ (N + 1 ≤ q) ∧ (q < n_)) ⟨_, 0, _, b ++ [128], rfl, WF, WF, WC, WC, WC, WC, WC⟩ ?_
  intro m_1 s_1 σ_1 n_1 hs_1 hf_1 hn_1 hI_1
  obtain ⟨z, q, p, hm_1, h1_3, e1_0, hz, hp, hpz, hq, hqn⟩ := hI_1
  have h1_0 := (hs_1.at 0 (by decide)).trans WE
  have h1_2 := (hs_1.at 2 (by decide)).trans WE
  have k1_0 := (hf_1.at (N) (by omega) WQ).trans WE
  have hlow : ∀ id, id < N → σ_1 id = σ id := fun id hid => (hf_1.at id (by omega) WQ).trans WH
  have hKb : K < 64 := by omega
  by_cases hzK : z = K
  · subst hzK
    have htm : (p.length : Int).tmod 64 = 56 := by rw [Int.tmod_eq_emod_of_nonneg (by omega)]; omega
    have hPe : M = p ++ E := by rw [hM, hp]; simp
    have hpl2 : p.length ≤ 2000000 := by omega
    have hml : p.length + E.length = M.length := by rw [hPe, List.length_append]
    have hmm : p.map byteAV ++ E.map byteAV = M.map byteAV := by rw [hPe, List.map_append]
    have hM64 : M.length % 64 = 0 := by omega
    have hMl : M.length ≤ 3000000 := by omega
    have hw8 : IntKind.u64.wrap ((b.length : Int) * 8) = 8 * (b.length : Int) := by rw [wrap_u64r (by omega) (by omega)]; omega
    have hwn : IntKind.u64.wrap (b.length : Int) = (b.length : Int) := wrap_u64r (by omega) (by omega)
    have hcs := And.intro c1 (And.intro c2 True.intro)
    obtain ⟨H, hH⟩ : ∃ H, comp (M.length / 64) iv8 M = H := ⟨_, rfl⟩
    have hH0 : comp ((M.drop 0).length / 64) iv8 (M.drop 0) = H := hH
    rw [hH]
    clear hPe hp hpz c1 c2 hM hH
    refine Wk ?_
    refine go_loopF mixed (by kernel_rfl) [5, 28, 29, 30, 31, 32, 33, 34, 35, 36, 37, 38, 39, 40] [n_1+13] (fun m_ s_ σ_ n_ => ∃ (i : Nat) (v : V8), m_ = M.length - i ∧ s_ 5 = .lit (.int .i64 i) ∧ σ_ (n_1+13) = .box 116 (v8AV v) ∧ (i ≤ M.length) ∧ ((M.length - i) % 64 = 0) ∧ (comp ((M.drop i).length / 64) v (M.drop i) = H)) ⟨_, 0, iv8, rfl, WF, WF, WC, WC, WC⟩ ?_
    intro m_2 s_2 σ_2 n_2 hs_2 hf_2 hn_2 hI_2
    obtain ⟨i, v, hm_2, h2_5, e2_0, hi, hi64, hv⟩ := hI_2
    have h2_2 := (hs_2.at 2 (by decide)).trans WE
    have h2_3 := (hs_2.at 3 (by decide)).trans WE
    have h2_4 := (hs_2.at 4 (by decide)).trans WE
    have k2_0 := (hf_2.at (N) (by omega) WQ).trans WE
    have hlow : ∀ id, id < N → σ_2 id = σ id := fun id hid => (hf_2.at id (by omega) WQ).trans (by first | exact hlow id hid | exact WH)
    by_cases hie : i = M.length
    · subst hie
      have hvH : v = H := by rw [← hv]; simp [comp]
      subst hvH
      clear hv
      have hD0 : pT (digT v) 0 = zeroTag := pT_0 _
      refine Wk ?_
      refine go_loopF mixed (by kernel_rfl) [7, 41, 42, 43, 44, 45, 46, 47, 48, 49, 50, 51, 52, 53, 54, 55, 56, 57] [n_2+4] (fun m_ s_ σ_ n_ => ∃ (i : Nat) (P : Tg), m_ = 32 - i ∧ s_ 7 = .lit (.int .i64 i) ∧ σ_ (n_2+4) = .box 87 (tagAV P) ∧ (i ≤ 32) ∧ (pT (digT v) i = P)) ⟨_, 0, zeroTag, rfl, WF, WF, WC, WC⟩ ?_
      intro m_3 s_3 σ_3 n_3 hs_3 hf_3 hn_3 hI_3
      obtain ⟨i, P, hm_3, h3_7, e3_0, hi, hP⟩ := hI_3
      have h3_2 := (hs_3.at 2 (by decide)).trans WE
      have h3_4 := (hs_3.at 4 (by decide)).trans WE
      have h3_6 := (hs_3.at 6 (by decide)).trans WE
      have k3_0 := (hf_3.at (N) (by omega) WQ).trans WE
      have k3_1 := (hf_3.at (n_1+13) (by omega) WQ).trans WE
      have hlow : ∀ id, id < N → σ_3 id = σ id := fun id hid => (hf_3.at id (by omega) WQ).trans (by first | exact hlow id hid | exact WH)
      by_cases hi32 : i = 32
      · subst hi32
        have : P = digT v := by rw [← hP]; exact pT_32 _
        subst this
        exact W0
      · have hil : (i : Int) < 32 := by omega
        have hil' : i < 32 := by omega
        obtain ⟨w, c, hic, hc, hw⟩ : ∃ w c, i = 4 * w + c ∧ c < 4 ∧ w < 8 := ⟨i / 4, i % 4, by omega, by omega, by omega⟩
        have hdv : (i : Int).tdiv 4 = w := by rw [Int.tdiv_eq_ediv_of_nonneg (by omega)]; omega
        have hdm : (i : Int).tmod 4 = c := by rw [Int.tmod_eq_emod_of_nonneg (by omega)]; omega
        obtain ⟨x, hx⟩ : ∃ x, v.l.getD w 0 = x := ⟨_, rfl⟩
        have d0 := dig_at v w c hw hc
        rw [hx] at d0
        have hg : (v8AV v).get [w] = some (.lit (.int .u32 x)) := by rw [v8AV, uu_getD v.l w (by rw [V8_len]; exact hw), hx]
        have ho : (v8AV v).offs [w] = w := by rw [v8AV, uu_offs v.l w (by rw [V8_len]; exact hw)]
        have s0 := pT_step (digT v) (4 * w + c) (by omega) _ d0
        have e0 := sh8_wrap x (24 - 8 * c)
        rw [← hic, hP] at s0
        generalize sh8 x (24 - 8 * c) = b0 at *
        obtain ⟨P1, hP1⟩ : ∃ z, pT (digT v) (i + 1) = z := ⟨_, rfl⟩
        rw [hP1] at s0
        have t0 : (tagAV P).put [i] (.lit (.int .u8 (b0.toNat : Int))) = tagAV P1 := by rw [← s0]; exact tag_put P i b0 hil'
        have hw8 : (w : Int) < 8 := by omega
        clear hx d0 s0 hP hic
        have hcc : c = 0 ∨ c = 1 ∨ c = 2 ∨ c = 3 := by omega
        rcases hcc with rfl | rfl | rfl | rfl
        all_goals (
          simp only [Nat.mul_zero, Nat.mul_one, Nat.reduceMul, Nat.sub_zero, Nat.reduceSub, Int.reducePow, Int.pow_zero, Int.fdiv_one] at e0
          refine Wk ?_
          exact ⟨WS, WG, WN, _, (show 32 - (i + 1) < m_3 by omega), i + 1, P1, rfl, WF, WF, WC, WC⟩)
    · have hi64' : i + 64 ≤ M.length := by omega
      have hil : (i : Int) < (M.length : Int) := by omega
      have hdl : (M.drop i).length = M.length - i := List.length_drop
      rw [comp_step v (M.drop i) (by omega), List.drop_drop] at hv
      have c4 := refblock_spec v ((M.drop i).take 64) (by rw [List.length_take]; omega)
      have hTm : ((M.map byteAV).take (i + 64)).drop i = ((M.drop i).take 64).map byteAV := by rw [← List.map_take, ← List.map_drop, List.drop_take, Nat.add_sub_cancel_left]
      have hTi : ((i : Int) + 64).toNat = i + 64 := by omega
      generalize chg v ((M.drop i).take 64) = v' at *
      generalize (M.drop i).take 64 = T at *
      have hcs := And.intro c4 True.intro
      clear c4 hdl
      refine Wk ?_
      exact ⟨WS, WG, WN, _, (show M.length - (i + 64) < m_2 by omega), i + 64, v', rfl, WF, WF, WC, WC, WC⟩
  · have htm : (p.length : Int).tmod 64 = ((p.length % 64 : Nat) : Int) := by rw [Int.tmod_eq_emod_of_nonneg (by omega)]; omega
    have hM' : p.length % 64 ≠ 56 := by omega
    have hpl2 : p.length ≤ 2000000 := by omega
    have hpl3 : p.length + 1 = b.length + (z + 1 + 1) := by omega
    generalize p.length % 64 = Q at *
    have hM1 : ((Q : Int) != 56) = true := by simp; omega
    obtain ⟨p', hp'⟩ : ∃ x, p ++ [0] = x := ⟨_, rfl⟩
    have hp2 : p' = b ++ 128 :: List.replicate (z + 1) 0 := by rw [← hp', hp, List.append_assoc, List.cons_append, ← List.replicate_succ']
    have hp4 : p.map byteAV ++ [.lit (.int .u8 0)] = p'.map byteAV := by rw [← hp', List.map_append]; rfl
    have hp5 : p'.length = p.length + 1 := by rw [← hp', List.length_append]; rfl
    clear hp hp' hpz hM c1 c2
    refine Wk ?_
    exact ⟨WS, WG, WN, _, (show K - (z + 1) < m_1 by omega), z + 1, _, p', rfl, WF, WF, WC, WC, WC, WC, WC⟩
end
end Go.Proofs.YtaelnglalpiemaaDoor

/- The deck of numbers that the laws draw from. -/
namespace Go.Proofs.YtaelnglalpiemaaDoor
open Go.Ab
attribute [local irreducible] Go.Ab.tyAV Go.Ab.aw Go.Ab.aops Go.Ab.kReg Go.Ab.aThen Go.Ab.aBlk Go.Ab.acond Go.Ab.aguard Go.Ab.astep Go.Ab.AStepX Go.Ab.aRet

theorem within_eq (x n : Int) (h : 0 < n) : (x.tmod n + n).tmod n = x % n := by
  have h2 : -n < x.tmod n := by have := Int.lt_tmod_of_pos x h; omega
  rw [Int.tmod_eq_emod_of_nonneg (by omega), Int.add_emod_right, Int.tmod_eq_emod]
  split
  · rename_i hh; simp
  · rw [Int.sub_emod]; have : n ∣ n.natAbs := by rw [Int.dvd_natAbs]; exact Int.dvd_refl n
    simp [Int.emod_emod_of_dvd, Int.emod_eq_zero_of_dvd this]

theorem Within_spec (x n : Int) (h : 0 < n) (hn : n ≤ 1000000000000000000) (k : Nat) :
    ACall Tryd.prog 28 [.lit (.int .i64 x), .lit (.int .i64 n)] k [] (.lit (.int .i64 (x % n))) [] := by
  have h0 : n ≠ 0 := by omega
  have h1 : x.tmod n < n := Int.tmod_lt_of_pos x h
  have h2 : -n < x.tmod n := by have := Int.lt_tmod_of_pos x h; omega
  refine ACall.of_body mixed Tryd.func28 rfl (by kernel_rfl) Tryd.ntmps28 (by kernel_rfl) rfl (by simp) (by simp) (by simp) fun σ N hp hpn hk hkn hfree => ?_
  refine Wk ?_
  exact go_result (by simp (disch := omega) [go_sem, *, -List.reduceReplicate]; rfl) (by simp only [AV.ren, within_eq x n h]) (fun id _ => rfl)

def deckBox (l : List Int) (i : Nat) : Ent := .box 78 (.agg [.slice none (l.map intAV), .lit (.int .i64 i)])
@[simp, go_sem] theorem deckBox_ne (l : List Int) (i : Nat) : (deckBox l i = .none) = False := by simp [deckBox]
@[go_sem] theorem deckBox_ren (l : List Int) (i : Nat) (f : Nat → Option Nat) : (deckBox l i).ren f = deckBox l i := by
  simp only [deckBox, ent_ren_box, AV.ren, AV.renl, renl_ints, Option.bind_none]
/-- A deck as it may be. -/
def Dk (l : List Int) (i : Nat) : Prop := l.length ≤ 9223372036854775807 ∧ i ≤ l.length

theorem New_spec (l : List Int) (k : Nat) : ACall Tryd.prog 12 [.slice none (l.map intAV)] k [] (.ptr k [] 0) [(k, deckBox l 0)] := by
  unfold deckBox
  refine ACall.of_body mixed Tryd.func12 rfl (by kernel_rfl) Tryd.ntmps12 (by kernel_rfl) rfl (by simp) (by simp) (by simp) fun σ N hp hpn hk hkn hfree => ?_
  refine Wk ?_
  refine go_result1 (r0 := N+3) (by simp (disch := omega) [go_sem, *, -List.reduceReplicate]; rfl) (by omega) (by simp (disch := omega) [go_sem]; try rfl) (fun id hid => by simp (disch := omega) only [upd_ne, wr_cons, wr_nil]; try exact hlow id hid) (by simp (disch := omega) only [upd_same, upd_ne]; rfl) (by simp (disch := omega) [go_sem])

theorem Next_none (l : List Int) (i : Nat) (n : Int) (hi : l.length ≤ i) (hb : i ≤ 9223372036854775807) (d k : Nat) :
    ACall Tryd.prog 50 [.ptr d [] 0, .lit (.int .i64 n)] k [(d, deckBox l i)] (.lit (.int .i64 0)) [(d, deckBox l i)] := by
  unfold deckBox
  refine ACall.of_body mixed Tryd.func50 rfl (by kernel_rfl) Tryd.ntmps50 (by kernel_rfl) rfl (by simp) (by simp) (by simp) fun σ N hp hpn hk hkn hfree => ?_
  have hd := hp _ (List.mem_singleton.2 rfl)
  have hdn := hpn _ (List.mem_singleton.2 rfl)
  simp only at hd hdn
  clear hp hpn
  refine Wk ?_
  refine go_resultW [(d, .box 78 (.agg [.slice none (l.map intAV), .lit (.int .i64 i)]))] (by simp (disch := omega) [go_sem, *, -List.reduceReplicate]; rfl) (by first | rfl | (simp (disch := omega) [go_sem]; done) | (simp (disch := omega) [go_sem, *]; done) | simp (disch := omega) [go_sem]) (fun id hid => by simp only [wr_cons, wr_nil]; try (by_cases hdd : id = d; (· (subst hdd; simp (disch := omega) [go_sem, *])); (· (simp (disch := omega) only [upd_ne]; try (first | exact hlow id hid hdd | exact hlow id hid))))) (by simp) (by simp (disch := omega) [go_sem, *])

theorem Next_some (l : List Int) (i : Nat) (n : Int) (hi : i < l.length) (hb : l.length ≤ 9223372036854775807) (h0 : 0 < n) (hn : n ≤ 1000000000000000000) (d k : Nat) :
    ACall Tryd.prog 50 [.ptr d [] 0, .lit (.int .i64 n)] k [(d, deckBox l i)] (.lit (.int .i64 (l[i] % n))) [(d, deckBox l (i + 1))] := by
  obtain ⟨x, hx⟩ : ∃ x, l[i] = x := ⟨_, rfl⟩
  have c1 := Within_spec x n h0 hn
  have hxx : intAV x = .lit (.int .i64 x) := rfl
  rw [hx]
  unfold deckBox
  refine ACall.of_body mixed Tryd.func50 rfl (by kernel_rfl) Tryd.ntmps50 (by kernel_rfl) rfl (by simp) (by simp) (by simp) fun σ N hp hpn hk hkn hfree => ?_
  have hd := hp _ (List.mem_singleton.2 rfl)
  have hdn := hpn _ (List.mem_singleton.2 rfl)
  simp only at hd hdn
  clear hp hpn
  have hcs := And.intro c1 True.intro
  refine Wk ?_
  refine go_resultW [(d, .box 78 (.agg [.slice none (l.map intAV), .lit (.int .i64 ((i : Int) + 1))]))] (by simp (disch := omega) [go_sem, *, -List.reduceReplicate]; rfl) (by first | rfl | (simp (disch := omega) [go_sem]; done) | (simp (disch := omega) [go_sem, *]; done) | simp (disch := omega) [go_sem]) (fun id hid => by simp only [wr_cons, wr_nil]; try (by_cases hdd : id = d; (· (subst hdd; simp (disch := omega) [go_sem, *])); (· (simp (disch := omega) only [upd_ne]; try (first | exact hlow id hid hdd | exact hlow id hid))))) (by simp) (by simp (disch := omega) [go_sem, *])

def nextD (l : List Int) (i : Nat) (n : Nat) : Nat × Nat := if h : i < l.length then ((l[i] % (n : Int)).toNat, i + 1) else (0, i)
theorem nextD_lt (l : List Int) (i : Nat) (n : Nat) (h : 0 < n) : (nextD l i n).1 < n := by
  unfold nextD
  split
  · have := Int.emod_nonneg l[i] (show (n : Int) ≠ 0 by omega)
    have := Int.emod_lt_of_pos l[i] (show (0 : Int) < (n : Int) by omega)
    simp only; omega
  · exact h
theorem nextD_dk {l : List Int} {i : Nat} (n : Nat) (h : Dk l i) : Dk l (nextD l i n).2 := by
  unfold nextD Dk at *
  split
  · exact ⟨h.1, by simp only; omega⟩
  · exact h
theorem Next_spec (l : List Int) (i : Nat) (n : Nat) (h : Dk l i) (h0 : 0 < n) (hn : n ≤ 1000000000000000000) (d k : Nat) :
    ACall Tryd.prog 50 [.ptr d [] 0, .lit (.int .i64 n)] k [(d, deckBox l i)] (.lit (.int .i64 (nextD l i n).1)) [(d, deckBox l (nextD l i n).2)] := by
  unfold nextD
  split
  · rename_i hi
    have := Next_some l i n hi h.1 (by omega) (by omega) d k
    have e : ((l[i] % (n : Int)).toNat : Int) = l[i] % (n : Int) := Int.toNat_of_nonneg (Int.emod_nonneg _ (by omega))
    simp only [e]; exact this
  · rename_i hi; exact Next_none l i n (by omega) (by have := h.1; have := h.2; omega) d k
/-- The next number, when no more than its bound is asked. -/
theorem Next_ex (l : List Int) (i : Nat) (n : Nat) (h : Dk l i) (h0 : 0 < n) (hn : n ≤ 1000000000000000000) :
    ∃ x j : Nat, x < n ∧ Dk l j ∧ ∀ d k, ACall Tryd.prog 50 [.ptr d [] 0, .lit (.int .i64 n)] k [(d, deckBox l i)] (.lit (.int .i64 x)) [(d, deckBox l j)] :=
  ⟨_, _, nextD_lt l i n h0, nextD_dk n h, Next_spec l i n h h0 hn⟩
end Go.Proofs.YtaelnglalpiemaaDoor

/- The deck's Range. -/
namespace Go.Proofs.YtaelnglalpiemaaDoor
open Go.Ab
attribute [local irreducible] Go.Ab.tyAV Go.Ab.aw Go.Ab.aops Go.Ab.kReg Go.Ab.aThen Go.Ab.aBlk Go.Ab.acond Go.Ab.aguard Go.Ab.astep Go.Ab.AStepX Go.Ab.aRet

def rangeD (l : List Int) (i lo n : Nat) : Nat × Nat := (lo + (nextD l i n).1, (nextD l i n).2)
theorem Range_spec (l : List Int) (i : Nat) (lo hi n : Nat) (h : Dk l i) (hlo : lo ≤ 1000000000) (hhi : hi ≤ 1000000000) (hn : hi + 1 = lo + n) (h0 : 0 < n) (d k : Nat) :
    ACall Tryd.prog 81 [.ptr d [] 0, .lit (.int .i64 lo), .lit (.int .i64 hi)] k [(d, deckBox l i)] (.lit (.int .i64 (rangeD l i lo n).1)) [(d, deckBox l (rangeD l i lo n).2)] := by
  have c1 := Next_spec l i n h h0 (by omega)
  have b1 := nextD_lt l i n h0
  unfold rangeD
  generalize nextD l i n = X at *
  obtain ⟨x, j⟩ := X
  simp only at c1 b1 ⊢
  have hx : (hi : Int) - lo + 1 = n := by omega
  have hc : ((lo + x : Nat) : Int) = (lo : Int) + x := by omega
  rw [hc]
  clear hc
  refine ACall.of_body mixed Tryd.func81 rfl (by kernel_rfl) Tryd.ntmps81 (by kernel_rfl) rfl (by simp) (by simp) (by simp) fun σ N hp hpn hk hkn hfree => ?_
  have hd := hp _ (List.mem_singleton.2 rfl); have hdn := hpn _ (List.mem_singleton.2 rfl); simp only at hd hdn; clear hp hpn
  have hcs := And.intro (c1 d) True.intro
  clear c1
  refine Wk ?_
  refine go_resultW [(d, deckBox l j)] (by simp (disch := omega) [go_sem, *, -List.reduceReplicate]; rfl) (by first | rfl | (simp (disch := omega) [go_sem]; done) | (simp (disch := omega) [go_sem, *]; done) | simp (disch := omega) [go_sem]) (fun id hid => by simp only [wr_cons, wr_nil]; try (by_cases hdd : id = d; (· (subst hdd; simp (disch := omega) [go_sem, *])); (· (simp (disch := omega) only [upd_ne]; try (first | exact hlow id hid hdd | exact hlow id hid))))) (by simp) (by simp (disch := omega) [go_sem, *])
theorem rangeD_dk {l : List Int} {i lo n : Nat} (h : Dk l i) : Dk l (rangeD l i lo n).2 := nextD_dk n h
end Go.Proofs.YtaelnglalpiemaaDoor

/- The deck's Minute, Name, Bytes. -/
namespace Go.Proofs.YtaelnglalpiemaaDoor
open Go.Ab
attribute [local irreducible] Go.Ab.tyAV Go.Ab.aw Go.Ab.aops Go.Ab.kReg Go.Ab.aThen Go.Ab.aBlk Go.Ab.acond Go.Ab.aguard Go.Ab.astep Go.Ab.AStepX Go.Ab.aRet

def minuteD (l : List Int) (i : Nat) : Nat × Nat :=
  let k := nextD l i 4
  if k.1 = 0 then nextD l k.2 4320
  else if k.1 = 1 then (min ((nextD l k.2 60).1 * 1440 + (nextD l (nextD l k.2 60).2 3).1) 67108864, (nextD l (nextD l k.2 60).2 3).2)
  else if k.1 = 2 then (67108864 - (nextD l k.2 4320).1, (nextD l k.2 4320).2)
  else nextD l k.2 67108865
theorem minuteD_le (l : List Int) (i : Nat) : (minuteD l i).1 ≤ 67108864 := by
  unfold minuteD
  simp only
  split
  · have := nextD_lt l (nextD l i 4).2 4320 (by omega); omega
  · split
    · simp only; omega
    · split
      · simp only; omega
      · have := nextD_lt l (nextD l i 4).2 67108865 (by omega); omega
theorem minuteD_dk {l : List Int} {i : Nat} (h : Dk l i) : Dk l (minuteD l i).2 := by
  unfold minuteD
  simp only
  split
  · exact nextD_dk _ (nextD_dk _ h)
  · split
    · exact nextD_dk _ (nextD_dk _ (nextD_dk _ h))
    · split
      · exact nextD_dk _ (nextD_dk _ h)
      · exact nextD_dk _ (nextD_dk _ h)

theorem Minute_spec (l : List Int) (i : Nat) (h : Dk l i) (d k : Nat) :
    ACall Tryd.prog 83 [.ptr d [] 0] k [(d, deckBox l i)] (.lit (.int .i64 (minuteD l i).1)) [(d, deckBox l (minuteD l i).2)] := by
  have c1 := Next_spec l i 4 h (by omega) (by omega)
  have d1 := nextD_dk 4 h
  unfold minuteD
  generalize nextD l i 4 = X at c1 d1 ⊢
  obtain ⟨x, j⟩ := X
  simp only at c1 d1 ⊢
  clear h
  by_cases e0 : x = 0
  · subst e0
    simp only [if_true]
    have c2 := Next_spec l j 4320 d1 (by omega) (by omega)
    generalize nextD l j 4320 = X at c2 ⊢
    obtain ⟨y, j2⟩ := X
    simp only at c2 ⊢
    clear d1
    refine ACall.of_body mixed Tryd.func83 rfl (by kernel_rfl) Tryd.ntmps83 (by kernel_rfl) rfl (by simp) (by simp) (by simp) fun σ N hp hpn hk hkn hfree => ?_
    have hd := hp _ (List.mem_singleton.2 rfl)
    have hdn := hpn _ (List.mem_singleton.2 rfl)
    simp only at hd hdn
    clear hp hpn
    have hcs := And.intro (c1 d) (And.intro (c2 d) True.intro)
    refine Wk ?_
    refine go_resultW [(d, deckBox l j2)] (by simp (disch := omega) [go_sem, *, -List.reduceReplicate]; rfl) (by first | rfl | (simp (disch := omega) [go_sem]; done) | (simp (disch := omega) [go_sem, *]; done) | simp (disch := omega) [go_sem]) (fun id hid => by simp only [wr_cons, wr_nil]; try (by_cases hdd : id = d; (· (subst hdd; simp (disch := omega) [go_sem, *])); (· (simp (disch := omega) only [upd_ne]; try (first | exact hlow id hid hdd | exact hlow id hid))))) (by simp) (by simp (disch := omega) [go_sem, *])
  · simp only [e0, if_false]
    by_cases e1 : x = 1
    · subst e1
      simp only [if_true]
      have c2 := Next_spec l j 60 d1 (by omega) (by omega)
      have d2 := nextD_dk 60 d1
      have b2 := nextD_lt l j 60 (by omega)
      generalize nextD l j 60 = X at c2 d2 b2 ⊢
      obtain ⟨y, j2⟩ := X
      simp only at c2 d2 b2 ⊢
      have c3 := Next_spec l j2 3 d2 (by omega) (by omega)
      have b3 := nextD_lt l j2 3 (by omega)
      generalize nextD l j2 3 = X at c3 b3 ⊢
      obtain ⟨z, j3⟩ := X
      simp only at c3 b3 ⊢
      obtain ⟨w, hw⟩ : ∃ w : Nat, min (y * 1440 + z) 67108864 = w := ⟨_, rfl⟩
      have hw1 : (if (67108864 : Int) < (y : Int) * 1440 + z then (67108864 : Int) else (y : Int) * 1440 + z) = w := by split <;> omega
      rw [hw]
      clear d1 d2 hw
      refine ACall.of_body mixed Tryd.func83 rfl (by kernel_rfl) Tryd.ntmps83 (by kernel_rfl) rfl (by simp) (by simp) (by simp) fun σ N hp hpn hk hkn hfree => ?_
      have hd := hp _ (List.mem_singleton.2 rfl)
      have hdn := hpn _ (List.mem_singleton.2 rfl)
      simp only at hd hdn
      clear hp hpn
      have hcs := And.intro (c1 d) (And.intro (c2 d) (And.intro (c3 d) True.intro))
      refine Wk ?_
      refine go_resultW [(d, deckBox l j3)] (by simp (disch := omega) [go_sem, *, -List.reduceReplicate]; rfl) (by first | rfl | (simp (disch := omega) [go_sem]; done) | (simp (disch := omega) [go_sem, *]; done) | simp (disch := omega) [go_sem]) (fun id hid => by simp only [wr_cons, wr_nil]; try (by_cases hdd : id = d; (· (subst hdd; simp (disch := omega) [go_sem, *])); (· (simp (disch := omega) only [upd_ne]; try (first | exact hlow id hid hdd | exact hlow id hid))))) (by simp) (by simp (disch := omega) [go_sem, *])
    · simp only [e1, if_false]
      by_cases e2 : x = 2
      · subst e2
        simp only [if_true]
        have c2 := Next_spec l j 4320 d1 (by omega) (by omega)
        have b2 := nextD_lt l j 4320 (by omega)
        generalize nextD l j 4320 = X at c2 b2 ⊢
        obtain ⟨y, j2⟩ := X
        simp only at c2 b2 ⊢
        have hw : (67108864 : Int) - (y : Int) = ((67108864 - y : Nat) : Int) := by omega
        rw [← hw]
        clear d1 hw
        refine ACall.of_body mixed Tryd.func83 rfl (by kernel_rfl) Tryd.ntmps83 (by kernel_rfl) rfl (by simp) (by simp) (by simp) fun σ N hp hpn hk hkn hfree => ?_
        have hd := hp _ (List.mem_singleton.2 rfl)
        have hdn := hpn _ (List.mem_singleton.2 rfl)
        simp only at hd hdn
        clear hp hpn
        have hcs := And.intro (c1 d) (And.intro (c2 d) True.intro)
        refine Wk ?_
        refine go_resultW [(d, deckBox l j2)] (by simp (disch := omega) [go_sem, *, -List.reduceReplicate]; rfl) (by first | rfl | (simp (disch := omega) [go_sem]; done) | (simp (disch := omega) [go_sem, *]; done) | simp (disch := omega) [go_sem]) (fun id hid => by simp only [wr_cons, wr_nil]; try (by_cases hdd : id = d; (· (subst hdd; simp (disch := omega) [go_sem, *])); (· (simp (disch := omega) only [upd_ne]; try (first | exact hlow id hid hdd | exact hlow id hid))))) (by simp) (by simp (disch := omega) [go_sem, *])
      · simp only [e2, if_false]
        have c2 := Next_spec l j 67108865 d1 (by omega) (by omega)
        generalize nextD l j 67108865 = X at c2 ⊢
        obtain ⟨y, j2⟩ := X
        simp only at c2 ⊢
        clear d1
        refine ACall.of_body mixed Tryd.func83 rfl (by kernel_rfl) Tryd.ntmps83 (by kernel_rfl) rfl (by simp) (by simp) (by simp) fun σ N hp hpn hk hkn hfree => ?_
        have hd := hp _ (List.mem_singleton.2 rfl)
        have hdn := hpn _ (List.mem_singleton.2 rfl)
        simp only at hd hdn
        clear hp hpn
        have hcs := And.intro (c1 d) (And.intro (c2 d) True.intro)
        refine Wk ?_
        refine go_resultW [(d, deckBox l j2)] (by simp (disch := omega) [go_sem, *, -List.reduceReplicate]; rfl) (by first | rfl | (simp (disch := omega) [go_sem]; done) | (simp (disch := omega) [go_sem, *]; done) | simp (disch := omega) [go_sem]) (fun id hid => by simp only [wr_cons, wr_nil]; try (by_cases hdd : id = d; (· (subst hdd; simp (disch := omega) [go_sem, *])); (· (simp (disch := omega) only [upd_ne]; try (first | exact hlow id hid hdd | exact hlow id hid))))) (by simp) (by simp (disch := omega) [go_sem, *])

def names8 : List (List UInt8) := [[97], [98], [97, 110, 110], [98, 111, 98], [99, 105, 100], [122, 111, 101], [97, 97], [97, 98, 99, 100, 101, 102, 103, 104, 105, 106, 107, 108, 109, 110, 111, 112]]
def nameD (l : List Int) (i : Nat) : List UInt8 × Nat := (names8.getD (nextD l i 8).1 [], (nextD l i 8).2)
theorem nameD_dk {l : List Int} {i : Nat} (h : Dk l i) : Dk l (nameD l i).2 := nextD_dk 8 h
theorem Name_spec0 (l : List Int) (i : Nat) (h : Dk l i) (d k : Nat) :
    ACall Tryd.prog 84 [.ptr d [] 0] k [(d, deckBox l i)] (strAV (nameD l i).1) [(d, deckBox l (nameD l i).2)] := by
  have c1 := Next_spec l i 8 h (by omega) (by omega)
  have b1 := nextD_lt l i 8 (by omega)
  unfold nameD
  generalize nextD l i 8 = X at c1 b1 ⊢
  obtain ⟨x, j⟩ := X
  simp only at c1 b1 ⊢
  have hx : ∀ h : x < 8, ([AV.lit (.string (ByteArray.mk #[97])), .lit (.string (ByteArray.mk #[98])), .lit (.string (ByteArray.mk #[97, 110, 110])), .lit (.string (ByteArray.mk #[98, 111, 98])), .lit (.string (ByteArray.mk #[99, 105, 100])), .lit (.string (ByteArray.mk #[122, 111, 101])), .lit (.string (ByteArray.mk #[97, 97])), .lit (.string (ByteArray.mk #[97, 98, 99, 100, 101, 102, 103, 104, 105, 106, 107, 108, 109, 110, 111, 112]))] : List AV)[x] = strAV (names8.getD x []) := by
    intro h
    have : x = 0 ∨ x = 1 ∨ x = 2 ∨ x = 3 ∨ x = 4 ∨ x = 5 ∨ x = 6 ∨ x = 7 := by omega
    rcases this with rfl | rfl | rfl | rfl | rfl | rfl | rfl | rfl <;> rfl
  have hx2 := hx b1
  have hsz : (strAV (names8.getD x [])).sz = 1 := rfl
  have hag : (strAV (names8.getD x [])).isAgg = false := rfl
  have hrn : ∀ f, (strAV (names8.getD x [])).ren f = strAV (names8.getD x []) := fun _ => rfl
  generalize strAV (names8.getD x []) = r at *
  clear hx
  refine ACall.of_body mixed Tryd.func84 rfl (by kernel_rfl) Tryd.ntmps84 (by kernel_rfl) rfl (by simp) (by simp) (by simp) fun σ N hp hpn hk hkn hfree => ?_
  have hd := hp _ (List.mem_singleton.2 rfl)
  have hdn := hpn _ (List.mem_singleton.2 rfl)
  simp only at hd hdn
  clear hp hpn
  have hcs := And.intro (c1 d) True.intro
  refine Wk ?_
  refine go_resultW [(d, deckBox l j)] (by simp (disch := omega) [go_sem, *, -List.reduceReplicate]; rfl) (by first | rfl | (simp (disch := omega) [go_sem]; done) | (simp (disch := omega) [go_sem, *]; done) | simp (disch := omega) [go_sem]) (fun id hid => by simp only [wr_cons, wr_nil]; try (by_cases hdd : id = d; (· (subst hdd; simp (disch := omega) [go_sem, *])); (· (simp (disch := omega) only [upd_ne]; try (first | exact hlow id hid hdd | exact hlow id hid))))) (by simp) (by simp (disch := omega) [go_sem, *])
def bytesK (l : List Int) : Nat → Nat → List UInt8 × Nat
  | 0, i => ([], i)
  | f + 1, i => (UInt8.ofNat (nextD l i 256).1 :: (bytesK l f (nextD l i 256).2).1, (bytesK l f (nextD l i 256).2).2)
theorem bytesK_len (l : List Int) : ∀ f i, (bytesK l f i).1.length = f
  | 0, i => rfl
  | f + 1, i => by simp [bytesK, bytesK_len l f]
theorem bytesK_dk {l : List Int} : ∀ f i, Dk l i → Dk l (bytesK l f i).2
  | 0, i, h => h
  | f + 1, i, h => bytesK_dk f _ (nextD_dk 256 h)
def bytesD (l : List Int) (i n : Nat) : List UInt8 × Nat := bytesK l (nextD l i (n + 1)).1 (nextD l i (n + 1)).2
theorem bytesD_dk {l : List Int} {i : Nat} (n : Nat) (h : Dk l i) : Dk l (bytesD l i n).2 := bytesK_dk _ _ (nextD_dk _ h)
theorem bytesD_len (l : List Int) (i n : Nat) : (bytesD l i n).1.length ≤ n := by
  have := nextD_lt l i (n + 1) (by omega)
  rw [bytesD, bytesK_len]; omega

theorem Bytes_spec (l : List Int) (i n : Nat) (h : Dk l i) (hn : n ≤ 100000) (d k : Nat) :
    ACall Tryd.prog 52 [.ptr d [] 0, .lit (.int .i64 n)] k [(d, deckBox l i)] (.slice none ((bytesD l i n).1.map byteAV)) [(d, deckBox l (bytesD l i n).2)] := by
  have c1 := Next_spec l i (n + 1) h (by omega) (by omega)
  have d1 := nextD_dk (n + 1) h
  have b1 := nextD_lt l i (n + 1) (by omega)
  have hn1 : ((n + 1 : Nat) : Int) = (n : Int) + 1 := by omega
  unfold bytesD
  rw [hn1] at c1
  generalize nextD l i (n + 1) = X at *
  obtain ⟨K, j⟩ := X
  simp only at c1 d1 b1 ⊢
  clear h hn1
  have hcs := And.intro (c1 d) True.intro
  generalize hR : bytesK l K j = R
  obtain ⟨R1, R2⟩ := R
  simp only
  refine ACall.of_body mixed Tryd.func52 rfl (by kernel_rfl) Tryd.ntmps52 (by kernel_rfl) rfl (by simp) (by simp) (by simp) fun σ N hp hpn hk hkn hfree => ?_
  have hd := hp _ (List.mem_singleton.2 rfl); have hdn := hpn _ (List.mem_singleton.2 rfl); simp only at hd hdn; clear hp hpn
  clear c1
  refine Wk ?_
  refine ALoop.nilrow 5 5 1 (by simp (disch := omega) [go_sem, *, -List.reduceReplicate]) ?_
  refine go_loopB (N) mixed (by kernel_rfl) [5, 6, 11, 12, 13, 14, 15, 16, 17, 18, 19, 20] [d] (fun m_ s_ σ_ n_ => ∃ (f : Nat) (j' : Nat) (r : Nat) (acc : List UInt8), m_ = f ∧ s_ 6 = .lit (.int .i64 f) ∧ s_ 5 = .slice (some r) (acc.map byteAV) ∧ σ_ (d) = deckBox l j' ∧ σ_ (r) = .row 5 1 acc.length ∧ (N ≤ r) ∧ (r < n_) ∧ (f + acc.length ≤ 100000) ∧ (Dk l j') ∧ ((acc ++ (bytesK l f j').1, (bytesK l f j').2) = (R1, R2))) ⟨_, K, j, _, [], rfl, WF, WF, WF, WF, WC, WC, WC, WC, WC⟩ ?_
  intro m_1 s_1 σ_1 n_1 hs_1 hf_1 hn_1 hI_1
  obtain ⟨f, j', r, acc, hm_1, h1_6, h1_5, e1_0, e1_1, hNr, hrn, hfl, hdj, hacc⟩ := hI_1
  have h1_0 := (hs_1.at 0 (by decide)).trans WE
  have h1_4 := (hs_1.at 4 (by decide)).trans WE
  have hlow : ∀ id, id < N → id ≠ d → σ_1 id = σ id := fun id hid hdd => (hf_1.at id (by omega) WQ).trans WH
  have hne : ¬ r = d := by omega
  have hne2 : ¬ d = r := by omega
  cases f with
  | zero =>
    simp only [bytesK, List.append_nil, Prod.mk.injEq] at hacc
    obtain ⟨rfl, rfl⟩ := hacc
    refine Wk ?_
    refine go_resultWI [(d, deckBox l j')] (by simp (disch := omega) [go_sem, *, -List.reduceReplicate]; rfl) (by first | exact AV.le_refl _ | ((first | apply AV.le_slices | apply AV.le_nilsE | apply AV.le_clipE); first | rfl | (simp (disch := omega) [go_sem, *, -List.reduceReplicate]; done)) | (apply AV.sub_tup; repeat' first | exact ALe.nil | exact AV.le_refl _ | apply ALe.cons | ((first | apply AV.le_slices | apply AV.le_nilsE | apply AV.le_clipE); first | rfl | (simp (disch := omega) [go_sem, *, -List.reduceReplicate]; done)))) (by first | rfl | (simp (disch := omega) [go_sem]; done) | (simp (disch := omega) [go_sem, *]; done) | simp (disch := omega) [go_sem]) (fun id hid => by simp only [wr_cons, wr_nil]; try (by_cases hdd : id = d; (· (subst hdd; simp (disch := omega) [go_sem, *])); (· (simp (disch := omega) only [upd_ne]; try (first | exact hlow id hid hdd | exact hlow id hid))))) (by simp) (by simp (disch := omega) [go_sem, *])
  | succ f =>
    have c1 := Next_spec l j' 256 hdj (by omega) (by omega)
    have d1 := nextD_dk 256 hdj
    have b1 := nextD_lt l j' 256 (by omega)
    rw [bytesK] at hacc
    generalize nextD l j' 256 = X at *
    obtain ⟨x, j2⟩ := X
    simp only at c1 d1 b1 hacc
    have hw : IntKind.u8.wrap (x : Int) = x := by rw [IntKind.wrap_u8]; omega
    have hbx : AV.lit (.int .u8 (x : Int)) = byteAV (UInt8.ofNat x) := by simp [byteAV, Nat.mod_eq_of_lt b1]
    have hcs := And.intro (c1 d) True.intro
    clear c1 hdj
    refine Wk ?_
    exact ⟨WS, WG, WN, _, (show (f) < m_1 by omega), f, j2, r, acc ++ [UInt8.ofNat x], rfl, WF, WF, WF, WF, WC, WC, WC, WC, WC⟩
end Go.Proofs.YtaelnglalpiemaaDoor

/- Journals: frames. -/
namespace Go.Proofs.YtaelnglalpiemaaDoor
open Go.Ab
attribute [local irreducible] Go.Ab.tyAV Go.Ab.aw Go.Ab.aops Go.Ab.kReg Go.Ab.aThen Go.Ab.aBlk Go.Ab.acond Go.Ab.aguard Go.Ab.astep Go.Ab.AStepX Go.Ab.aRet
attribute [local irreducible] shaG

theorem u8_toNat (n : Nat) (h : n < 256) : (u8 n).toNat = n := by
  simp only [u8]; rw [UInt8.toNat_ofNat', Nat.mod_eq_of_lt h]
theorem hi8 (n : Nat) (h : n < 65536) : IntKind.u8.wrap ((n : Int).fdiv 256) = ((u8 (n / 256)).toNat : Int) := by
  rw [u8_toNat _ (by omega), IntKind.wrap_u8, Int.fdiv_eq_ediv, if_pos (.inl (by decide))]; omega
theorem lo8 (n : Nat) : IntKind.u8.wrap (n : Int) = ((u8 (n % 256)).toNat : Int) := by
  rw [u8_toNat _ (by omega), IntKind.wrap_u8]; omega
theorem hi8t (n : Nat) (h : n < 65536) : IntKind.u8.wrap ((n : Int) / 256) = ((u8 (n / 256)).toNat : Int) := by
  rw [u8_toNat _ (by omega), IntKind.wrap_u8]; omega
theorem lo8t (n : Nat) : IntKind.u8.wrap ((n : Int).tmod 256) = ((u8 (n % 256)).toNat : Int) := by
  rw [u8_toNat _ (by omega), IntKind.wrap_u8, Int.tmod_eq_emod_of_nonneg (by omega)]; omega

section
variable [W : W32]
/-- The frame of a record. -/
def frB (r : List UInt8) : List UInt8 := u8 (r.length / 256) :: u8 (r.length % 256) :: ((shaT r).1.take 4 ++ r)
def frS (r : List UInt8) : List UInt8 × Nat := if r.length = 0 then ([], 3) else if 4096 < r.length then ([], 2) else (frB r, 0)
def frAV (x : List UInt8 × Nat) : AV := .tup [.slice none (x.1.map byteAV), .lit (.int .i64 (x.2 : Int))]
theorem frB_len (r : List UInt8) : (frB r).length = r.length + 6 := by
  have := (shaT r).2
  simp only [frB, List.length_cons, List.length_append, List.length_take, this]; omega

theorem Frame_ok (r : List UInt8) (h0 : 0 < r.length) (h1 : r.length ≤ 4096) (g k : Nat) :
    ACall Tryd.prog 23 [.slice none (r.map byteAV)] k [(g, shaG)] (frAV (frB r, 0)) [] := by
  have c1 := Of_spec r h0 (by omega) g
  have hfl := frB_len r
  unfold frAV
  simp only
  have hfr : frB r = u8 (r.length / 256) :: u8 (r.length % 256) :: ((shaT r).1.take 4 ++ r) := rfl
  generalize frB r = F at *
  generalize shaT r = T at *
  have hs1 := tagAV_sz T
  have hs2 := tagAV_cell T
  obtain ⟨T, hT⟩ := T
  simp only [tagAV] at c1 hfr hs1 hs2
  have e1 := hi8 r.length (by omega)
  have e2 := lo8 r.length
  generalize u8 (r.length / 256) = x at *
  generalize u8 (r.length % 256) = y at *
  have ht : (T.map byteAV).take 4 = (T.take 4).map byteAV := by rw [List.map_take]
  have hq : (T.take 4).length = 4 := by simp [hT]
  generalize T.take 4 = q at *
  have hF : AV.lit (.int .u8 (x.toNat : Int)) :: .lit (.int .u8 (y.toNat : Int)) :: (q.map byteAV ++ r.map byteAV) = F.map byteAV := by
    rw [hfr, List.map_cons, List.map_cons, List.map_append]; rfl
  clear hfr
  have h2 : ¬ r.length = 0 := by omega
  refine ACall.of_body mixed Tryd.func23 rfl (by kernel_rfl) Tryd.ntmps23 (by kernel_rfl) rfl (by simp) (by simp) (by simp) fun σ N hp hpn hk hkn hfree => ?_
  have hd := hp _ (List.mem_singleton.2 rfl); have hdn := hpn _ (List.mem_singleton.2 rfl); simp only at hd hdn; clear hp hpn
  have hcs := And.intro c1 True.intro
  clear c1
  exact WL
theorem Frame_spec (r : List UInt8) (g k : Nat) :
    ACall Tryd.prog 23 [.slice none (r.map byteAV)] k [(g, shaG)] (frAV (frS r)) [] := by
  unfold frS
  split
  · rename_i h
    unfold frAV
    refine ACall.of_body mixed Tryd.func23 rfl (by kernel_rfl) Tryd.ntmps23 (by kernel_rfl) rfl (by simp) (by simp) (by simp) fun σ N hp hpn hk hkn hfree => ?_
    exact WL
  · split
    · rename_i h h1
      unfold frAV
      refine ACall.of_body mixed Tryd.func23 rfl (by kernel_rfl) Tryd.ntmps23 (by kernel_rfl) rfl (by simp) (by simp) (by simp) fun σ N hp hpn hk hkn hfree => ?_
      exact WL
    · exact Frame_ok r (by omega) (by omega) g k
theorem rFrame_ok (r : List UInt8) (h0 : 0 < r.length) (h1 : r.length ≤ 4096) (k : Nat) :
    ACall Tryd.prog 24 [.slice none (r.map byteAV)] k [] (frAV (frB r, 0)) [] := by
  have c1 := Sha_spec r (by omega)
  have hfl := frB_len r
  unfold frAV
  simp only
  have hfr : frB r = u8 (r.length / 256) :: u8 (r.length % 256) :: ((shaT r).1.take 4 ++ r) := rfl
  generalize frB r = F at *
  generalize shaT r = T at *
  have hs1 := tagAV_sz T
  have hs2 := tagAV_cell T
  obtain ⟨T, hT⟩ := T
  simp only [tagAV] at c1 hfr hs1 hs2
  have e1 := hi8t r.length (by omega)
  have e2 := lo8t r.length
  generalize u8 (r.length / 256) = x at *
  generalize u8 (r.length % 256) = y at *
  have ht : (T.map byteAV).take 4 = (T.take 4).map byteAV := by rw [List.map_take]
  have hq : (T.take 4).length = 4 := by simp [hT]
  generalize T.take 4 = q at *
  have hF : AV.lit (.int .u8 (x.toNat : Int)) :: .lit (.int .u8 (y.toNat : Int)) :: (q.map byteAV ++ r.map byteAV) = F.map byteAV := by
    rw [hfr, List.map_cons, List.map_cons, List.map_append]; rfl
  clear hfr
  have h2 : ¬ r.length = 0 := by omega
  refine ACall.of_body mixed Tryd.func24 rfl (by kernel_rfl) Tryd.ntmps24 (by kernel_rfl) rfl (by simp) (by simp) (by simp) fun σ N hp hpn hk hkn hfree => ?_
  have hcs := And.intro c1 True.intro
  clear c1
  exact WL
theorem rFrame_spec (r : List UInt8) (k : Nat) :
    ACall Tryd.prog 24 [.slice none (r.map byteAV)] k [] (frAV (frS r)) [] := by
  unfold frS
  split
  · rename_i h
    unfold frAV
    refine ACall.of_body mixed Tryd.func24 rfl (by kernel_rfl) Tryd.ntmps24 (by kernel_rfl) rfl (by simp) (by simp) (by simp) fun σ N hp hpn hk hkn hfree => ?_
    exact WL
  · split
    · rename_i h h1
      unfold frAV
      refine ACall.of_body mixed Tryd.func24 rfl (by kernel_rfl) Tryd.ntmps24 (by kernel_rfl) rfl (by simp) (by simp) (by simp) fun σ N hp hpn hk hkn hfree => ?_
      exact WL
    · exact rFrame_ok r (by omega) (by omega) k
end
end Go.Proofs.YtaelnglalpiemaaDoor

/- Devices: copies. -/
namespace Go.Proofs.YtaelnglalpiemaaDoor
open Go.Ab
attribute [local irreducible] Go.Ab.tyAV Go.Ab.aw Go.Ab.aops Go.Ab.kReg Go.Ab.aThen Go.Ab.aBlk Go.Ab.acond Go.Ab.aguard Go.Ab.astep Go.Ab.AStepX Go.Ab.aRet

structure Dv where
  a0 : List UInt8
  a1 : List UInt8
  act : Int
  cap : Int
  wr : Int
  cutAt : Int
  torn : Int
  off : Bool
def bAV (b : List UInt8) : AV := .slice none (b.map byteAV)
def devM (x y : AV) (d : Dv) : AV := .agg [.agg [x, y], .lit (.int .i64 d.act), .lit (.int .i64 d.cap), .lit (.int .i64 d.wr), .lit (.int .i64 d.cutAt), .lit (.int .i64 d.torn), .lit (.bool d.off)]
def devAV (d : Dv) : AV := devM (bAV d.a0) (bAV d.a1) d


section
theorem CloneM_cons (b : List UInt8) (he : b.isEmpty = false) (hl : b.length ≤ 1000000000) (k : Nat) :
    ACall Tryd.prog 62 [.slice none (b.map byteAV)] k [] (.ms k 1 1 0 b.length) [(k, .mrow 1 5 1 (b.map byteAV))] := by
  refine ACall.of_body mixed Tryd.func62 rfl (by kernel_rfl) Tryd.ntmps62 (by kernel_rfl) rfl (by simp) (by simp) (by simp) fun σ N hp hpn hk hkn hfree => ?_
  have M : Mut (N + 3) := ⟨⟩
  repeat (first | apply go_nil | apply go_kreg | apply go_kreg0 | apply go_kreg1 | (apply go_kregT; · (first | (simp [addT, CF, CFy, Ind, DisjF]; done) | (simp only [addT, CF, CFy, Ind]; repeat' (first | exact trivial | apply And.intro | exact Or.inl (by decide +kernel) | (refine Or.inr ⟨?_, ?_⟩ <;> (simp; try omega)))))) | apply go_then | apply go_then_exit | apply go_then_ret | apply go_blk | apply go_blk_ret | apply go_blk_here | (apply go_blk_there; · rfl) | apply go_seq | (apply go_region; · (simp only [List.length_cons, List.length_nil, Nat.reduceAdd, Nat.add_assoc]; rfl)) | apply go_skip | apply go_block | apply go_scope | apply go_label | apply go_exit | apply go_ret | (apply go_mut; (· assumption); · (simp (disch := omega) [go_sem, *, -List.reduceReplicate]; first | exact ⟨rfl, rfl⟩ | (simp [go_sem, *]; exact ⟨rfl, rfl⟩))) | (apply go_mutP; (· assumption); · (simp (disch := omega) [go_sem, *, -List.reduceReplicate]; try first | rfl | exact ⟨rfl, rfl⟩ | exact ⟨rfl, rfl, rfl⟩)) | (apply go_guard_in; (· rfl); · (simp (disch := omega) [go_sem, *, -List.reduceReplicate]; try first | rfl | omega)) | (apply go_guard_off; (· rfl); · (simp (disch := omega) [go_sem, *, -List.reduceReplicate]; try first | rfl | omega)) | (apply go_guard_no; (· rfl); · (simp (disch := omega) [go_sem, *, -List.reduceReplicate]; try rfl)) | ((first | apply go_move | apply go_assign | apply go_load | apply go_store | apply go_append | apply go_copy | apply go_copy0 | apply go_clear0 | apply go_slice3 | apply go_indexA); · (simp (disch := omega) [go_sem, *, -List.reduceReplicate]; try first | rfl | exact ⟨rfl, rfl⟩ | exact ⟨rfl, rfl, rfl⟩)) | ((first | apply go_loadv | apply go_append0 | apply go_beyond); · (simp (disch := omega) [go_sem, *, -List.reduceReplicate]; try first | rfl | exact ⟨rfl, rfl⟩ | exact ⟨rfl, rfl, rfl⟩)) | (apply go_appself; · (simp (disch := omega) [go_sem, *, -List.reduceReplicate]; try first | rfl | exact ⟨rfl, rfl⟩ | exact ⟨rfl, rfl, rfl⟩)) | ((first | (apply go_appendz; · rfl) | (apply go_new; · rfl) | (apply go_pure; · rfl)); · (simp (disch := omega) [go_sem, *, -List.reduceReplicate]; try first | rfl | exact ⟨rfl, rfl⟩ | exact ⟨rfl, rfl, rfl⟩)) | ((apply go_glob; · assumption); · (simp (disch := omega) [go_sem, *, -List.reduceReplicate]; try first | rfl | exact ⟨rfl, rfl⟩ | exact ⟨rfl, rfl, rfl⟩)) | (apply go_read1; (· rfl); · (simp (disch := omega) [go_sem, *, -List.reduceReplicate]; try first | rfl | exact ⟨rfl, rfl⟩ | exact ⟨rfl, rfl, rfl⟩)) | (apply go_rw1; (· rfl); · (simp (disch := omega) [go_sem, *, -List.reduceReplicate]; try first | rfl | exact ⟨rfl, rfl⟩ | exact ⟨rfl, rfl, rfl⟩)) | (apply go_new1; (· rfl); · (simp (disch := omega) [go_sem, *, -List.reduceReplicate]; try first | rfl | exact ⟨rfl, rfl⟩ | exact ⟨rfl, rfl, rfl⟩)) | (apply go_conv; · (simp (disch := omega) [go_sem, *, -List.reduceReplicate]; try first | rfl | exact ⟨rfl, rfl⟩ | exact ⟨rfl, rfl, rfl⟩)) | ((first | (apply go_new; · rfl) | (apply go_pure; · rfl)); · (simp (disch := omega) [go_sem, *, -List.reduceReplicate]; simp [go_sem, *]; try first | rfl | exact ⟨rfl, rfl⟩)) | (apply go_condT; · (simp (disch := omega) [go_sem, *, -List.reduceReplicate]; try first | rfl | omega; done)) | (apply go_condF; · (simp (disch := omega) [go_sem, *, -List.reduceReplicate]; try first | rfl | omega; done)) | (obtain ⟨hcall, hcs⟩ := hcs; refine go_callw (hcall _) (by simp (disch := omega) [go_sem, *, -List.reduceReplicate]; try rfl) (by simp (disch := omega) [go_sem, *, -List.reduceReplicate]; repeat' first | exact ALe.nil | exact AV.le_refl _ | exact AV.le_nils | exact AV.le_own _ _ | apply ALe.cons | apply AV.sub_agg) (by simp (disch := omega) [go_sem, *, -List.reduceReplicate]) ?_; clear hcall))
  refine go_result1 (r0 := N+3) (by simp (disch := omega) [go_sem, *, -List.reduceReplicate]; rfl) (by omega) (by simp (disch := omega) [go_sem]; try rfl) (fun id hid => by simp (disch := omega) only [upd_ne, wr_cons, wr_nil]; try exact hlow id hid) (by simp (disch := omega) only [upd_same, upd_ne]; rfl) (by simp (disch := omega) [go_sem])
theorem CloneM_empty (A : Addr) (c k : Nat) :
    ACall Tryd.prog 62 [.lit (.slice (some A) 0 c)] k [] (.ms k 1 1 0 0) [(k, .mrow 1 5 1 [])] := by
  refine ACall.of_body mixed Tryd.func62 rfl (by kernel_rfl) Tryd.ntmps62 (by kernel_rfl) rfl (by simp) (by simp) (by simp) fun σ N hp hpn hk hkn hfree => ?_
  have M : Mut (N + 3) := ⟨⟩
  repeat (first | apply go_nil | apply go_kreg | apply go_kreg0 | apply go_kreg1 | (apply go_kregT; · (first | (simp [addT, CF, CFy, Ind, DisjF]; done) | (simp only [addT, CF, CFy, Ind]; repeat' (first | exact trivial | apply And.intro | exact Or.inl (by decide +kernel) | (refine Or.inr ⟨?_, ?_⟩ <;> (simp; try omega)))))) | apply go_then | apply go_then_exit | apply go_then_ret | apply go_blk | apply go_blk_ret | apply go_blk_here | (apply go_blk_there; · rfl) | apply go_seq | (apply go_region; · (simp only [List.length_cons, List.length_nil, Nat.reduceAdd, Nat.add_assoc]; rfl)) | apply go_skip | apply go_block | apply go_scope | apply go_label | apply go_exit | apply go_ret | (apply go_mut; (· assumption); · (simp (disch := omega) [go_sem, *, -List.reduceReplicate]; first | exact ⟨rfl, rfl⟩ | (simp [go_sem, *]; exact ⟨rfl, rfl⟩))) | (apply go_mutP; (· assumption); · (simp (disch := omega) [go_sem, *, -List.reduceReplicate]; try first | rfl | exact ⟨rfl, rfl⟩ | exact ⟨rfl, rfl, rfl⟩)) | (apply go_guard_in; (· rfl); · (simp (disch := omega) [go_sem, *, -List.reduceReplicate]; try first | rfl | omega)) | (apply go_guard_off; (· rfl); · (simp (disch := omega) [go_sem, *, -List.reduceReplicate]; try first | rfl | omega)) | (apply go_guard_no; (· rfl); · (simp (disch := omega) [go_sem, *, -List.reduceReplicate]; try rfl)) | ((first | apply go_move | apply go_assign | apply go_load | apply go_store | apply go_append | apply go_copy | apply go_copy0 | apply go_clear0 | apply go_slice3 | apply go_indexA); · (simp (disch := omega) [go_sem, *, -List.reduceReplicate]; try first | rfl | exact ⟨rfl, rfl⟩ | exact ⟨rfl, rfl, rfl⟩)) | ((first | apply go_loadv | apply go_append0 | apply go_beyond); · (simp (disch := omega) [go_sem, *, -List.reduceReplicate]; try first | rfl | exact ⟨rfl, rfl⟩ | exact ⟨rfl, rfl, rfl⟩)) | (apply go_appself; · (simp (disch := omega) [go_sem, *, -List.reduceReplicate]; try first | rfl | exact ⟨rfl, rfl⟩ | exact ⟨rfl, rfl, rfl⟩)) | ((first | (apply go_appendz; · rfl) | (apply go_new; · rfl) | (apply go_pure; · rfl)); · (simp (disch := omega) [go_sem, *, -List.reduceReplicate]; try first | rfl | exact ⟨rfl, rfl⟩ | exact ⟨rfl, rfl, rfl⟩)) | ((apply go_glob; · assumption); · (simp (disch := omega) [go_sem, *, -List.reduceReplicate]; try first | rfl | exact ⟨rfl, rfl⟩ | exact ⟨rfl, rfl, rfl⟩)) | (apply go_read1; (· rfl); · (simp (disch := omega) [go_sem, *, -List.reduceReplicate]; try first | rfl | exact ⟨rfl, rfl⟩ | exact ⟨rfl, rfl, rfl⟩)) | (apply go_rw1; (· rfl); · (simp (disch := omega) [go_sem, *, -List.reduceReplicate]; try first | rfl | exact ⟨rfl, rfl⟩ | exact ⟨rfl, rfl, rfl⟩)) | (apply go_new1; (· rfl); · (simp (disch := omega) [go_sem, *, -List.reduceReplicate]; try first | rfl | exact ⟨rfl, rfl⟩ | exact ⟨rfl, rfl, rfl⟩)) | (apply go_conv; · (simp (disch := omega) [go_sem, *, -List.reduceReplicate]; try first | rfl | exact ⟨rfl, rfl⟩ | exact ⟨rfl, rfl, rfl⟩)) | ((first | (apply go_new; · rfl) | (apply go_pure; · rfl)); · (simp (disch := omega) [go_sem, *, -List.reduceReplicate]; simp [go_sem, *]; try first | rfl | exact ⟨rfl, rfl⟩)) | (apply go_condT; · (simp (disch := omega) [go_sem, *, -List.reduceReplicate]; try first | rfl | omega; done)) | (apply go_condF; · (simp (disch := omega) [go_sem, *, -List.reduceReplicate]; try first | rfl | omega; done)) | (obtain ⟨hcall, hcs⟩ := hcs; refine go_callw (hcall _) (by simp (disch := omega) [go_sem, *, -List.reduceReplicate]; try rfl) (by simp (disch := omega) [go_sem, *, -List.reduceReplicate]; repeat' first | exact ALe.nil | exact AV.le_refl _ | exact AV.le_nils | exact AV.le_own _ _ | apply ALe.cons | apply AV.sub_agg) (by simp (disch := omega) [go_sem, *, -List.reduceReplicate]) ?_; clear hcall))
  refine go_result1 (r0 := N+3) (by simp (disch := omega) [go_sem, *, -List.reduceReplicate]; rfl) (by omega) (by simp (disch := omega) [go_sem]; try rfl) (fun id hid => by simp (disch := omega) only [upd_ne, wr_cons, wr_nil]; try exact hlow id hid) (by simp (disch := omega) only [upd_same, upd_ne]; rfl) (by simp (disch := omega) [go_sem])
theorem Clone_nil (c k : Nat) : ACall Tryd.prog 62 [.lit (.slice none 0 c)] k [] .nils [] := by
  refine ACall.of_body mixed Tryd.func62 rfl (by kernel_rfl) Tryd.ntmps62 (by kernel_rfl) rfl (by simp) (by simp) (by simp) fun σ N hp hpn hk hkn hfree => ?_
  repeat (first | apply go_nil | apply go_kreg | apply go_kreg0 | apply go_kreg1 | (apply go_kregT; · (first | (simp [addT, CF, CFy, Ind, DisjF]; done) | (simp only [addT, CF, CFy, Ind]; repeat' (first | exact trivial | apply And.intro | exact Or.inl (by decide +kernel) | (refine Or.inr ⟨?_, ?_⟩ <;> (simp; try omega)))))) | apply go_then | apply go_then_exit | apply go_then_ret | apply go_blk | apply go_blk_ret | apply go_blk_here | (apply go_blk_there; · rfl) | apply go_seq | (apply go_region; · (simp only [List.length_cons, List.length_nil, Nat.reduceAdd, Nat.add_assoc]; rfl)) | apply go_skip | apply go_block | apply go_scope | apply go_label | apply go_exit | apply go_ret | (apply go_mut; (· assumption); · (simp (disch := omega) [go_sem, *, -List.reduceReplicate]; first | exact ⟨rfl, rfl⟩ | (simp [go_sem, *]; exact ⟨rfl, rfl⟩))) | (apply go_mutP; (· assumption); · (simp (disch := omega) [go_sem, *, -List.reduceReplicate]; try first | rfl | exact ⟨rfl, rfl⟩ | exact ⟨rfl, rfl, rfl⟩)) | (apply go_guard_in; (· rfl); · (simp (disch := omega) [go_sem, *, -List.reduceReplicate]; try first | rfl | omega)) | (apply go_guard_off; (· rfl); · (simp (disch := omega) [go_sem, *, -List.reduceReplicate]; try first | rfl | omega)) | (apply go_guard_no; (· rfl); · (simp (disch := omega) [go_sem, *, -List.reduceReplicate]; try rfl)) | ((first | apply go_move | apply go_assign | apply go_load | apply go_store | apply go_append | apply go_copy | apply go_copy0 | apply go_clear0 | apply go_slice3 | apply go_indexA); · (simp (disch := omega) [go_sem, *, -List.reduceReplicate]; try first | rfl | exact ⟨rfl, rfl⟩ | exact ⟨rfl, rfl, rfl⟩)) | ((first | apply go_loadv | apply go_append0 | apply go_beyond); · (simp (disch := omega) [go_sem, *, -List.reduceReplicate]; try first | rfl | exact ⟨rfl, rfl⟩ | exact ⟨rfl, rfl, rfl⟩)) | (apply go_appself; · (simp (disch := omega) [go_sem, *, -List.reduceReplicate]; try first | rfl | exact ⟨rfl, rfl⟩ | exact ⟨rfl, rfl, rfl⟩)) | ((first | (apply go_appendz; · rfl) | (apply go_new; · rfl) | (apply go_pure; · rfl)); · (simp (disch := omega) [go_sem, *, -List.reduceReplicate]; try first | rfl | exact ⟨rfl, rfl⟩ | exact ⟨rfl, rfl, rfl⟩)) | ((apply go_glob; · assumption); · (simp (disch := omega) [go_sem, *, -List.reduceReplicate]; try first | rfl | exact ⟨rfl, rfl⟩ | exact ⟨rfl, rfl, rfl⟩)) | (apply go_read1; (· rfl); · (simp (disch := omega) [go_sem, *, -List.reduceReplicate]; try first | rfl | exact ⟨rfl, rfl⟩ | exact ⟨rfl, rfl, rfl⟩)) | (apply go_rw1; (· rfl); · (simp (disch := omega) [go_sem, *, -List.reduceReplicate]; try first | rfl | exact ⟨rfl, rfl⟩ | exact ⟨rfl, rfl, rfl⟩)) | (apply go_new1; (· rfl); · (simp (disch := omega) [go_sem, *, -List.reduceReplicate]; try first | rfl | exact ⟨rfl, rfl⟩ | exact ⟨rfl, rfl, rfl⟩)) | (apply go_conv; · (simp (disch := omega) [go_sem, *, -List.reduceReplicate]; try first | rfl | exact ⟨rfl, rfl⟩ | exact ⟨rfl, rfl, rfl⟩)) | ((first | (apply go_new; · rfl) | (apply go_pure; · rfl)); · (simp (disch := omega) [go_sem, *, -List.reduceReplicate]; simp [go_sem, *]; try first | rfl | exact ⟨rfl, rfl⟩)) | (apply go_condT; · (simp (disch := omega) [go_sem, *, -List.reduceReplicate]; try first | rfl | omega; done)) | (apply go_condF; · (simp (disch := omega) [go_sem, *, -List.reduceReplicate]; try first | rfl | omega; done)) | (obtain ⟨hcall, hcs⟩ := hcs; refine go_callw (hcall _) (by simp (disch := omega) [go_sem, *, -List.reduceReplicate]; try rfl) (by simp (disch := omega) [go_sem, *, -List.reduceReplicate]; repeat' first | exact ALe.nil | exact AV.le_refl _ | exact AV.le_nils | exact AV.le_own _ _ | apply ALe.cons | apply AV.sub_agg) (by simp (disch := omega) [go_sem, *, -List.reduceReplicate]) ?_; clear hcall))
  refine go_result (by simp (disch := omega) [go_sem, *, -List.reduceReplicate]; rfl) (by simp (disch := omega) [go_sem]; try rfl) (fun id hid => by simp (disch := omega) only [upd_ne, wr_cons, wr_nil]; try exact hlow id hid)
theorem CloneM_spec (b : List UInt8) (hl : b.length ≤ 1000000000) (k : Nat) :
    ACall Tryd.prog 62 [.slice none (b.map byteAV)] k [] (.ms k 1 1 0 b.length) [(k, .mrow 1 5 1 (b.map byteAV))] := by
  cases b with
  | cons x r => exact CloneM_cons (x :: r) rfl hl k
  | nil =>
    refine ACall.empty fun A c => ?_
    cases A with
    | none => exact ACall.nilM (by decide) (Clone_nil c k)
    | some A => exact CloneM_empty A c k
theorem Clone_cons (b : List UInt8) (he : b.isEmpty = false) (hl : b.length ≤ 1000000000) (k : Nat) :
    ACall Tryd.prog 62 [.slice none (b.map byteAV)] k [] (.slice none (b.map byteAV)) [] := by
  refine ACall.of_body mixed Tryd.func62 rfl (by kernel_rfl) Tryd.ntmps62 (by kernel_rfl) rfl (by simp) (by simp) (by simp) fun σ N hp hpn hk hkn hfree => ?_
  repeat (first | apply go_nil | apply go_kreg | apply go_kreg0 | apply go_kreg1 | (apply go_kregT; · (first | (simp [addT, CF, CFy, Ind, DisjF]; done) | (simp only [addT, CF, CFy, Ind]; repeat' (first | exact trivial | apply And.intro | exact Or.inl (by decide +kernel) | (refine Or.inr ⟨?_, ?_⟩ <;> (simp; try omega)))))) | apply go_then | apply go_then_exit | apply go_then_ret | apply go_blk | apply go_blk_ret | apply go_blk_here | (apply go_blk_there; · rfl) | apply go_seq | (apply go_region; · (simp only [List.length_cons, List.length_nil, Nat.reduceAdd, Nat.add_assoc]; rfl)) | apply go_skip | apply go_block | apply go_scope | apply go_label | apply go_exit | apply go_ret | (apply go_mut; (· assumption); · (simp (disch := omega) [go_sem, *, -List.reduceReplicate]; first | exact ⟨rfl, rfl⟩ | (simp [go_sem, *]; exact ⟨rfl, rfl⟩))) | (apply go_mutP; (· assumption); · (simp (disch := omega) [go_sem, *, -List.reduceReplicate]; try first | rfl | exact ⟨rfl, rfl⟩ | exact ⟨rfl, rfl, rfl⟩)) | (apply go_guard_in; (· rfl); · (simp (disch := omega) [go_sem, *, -List.reduceReplicate]; try first | rfl | omega)) | (apply go_guard_off; (· rfl); · (simp (disch := omega) [go_sem, *, -List.reduceReplicate]; try first | rfl | omega)) | (apply go_guard_no; (· rfl); · (simp (disch := omega) [go_sem, *, -List.reduceReplicate]; try rfl)) | ((first | apply go_move | apply go_assign | apply go_load | apply go_store | apply go_append | apply go_copy | apply go_copy0 | apply go_clear0 | apply go_slice3 | apply go_indexA); · (simp (disch := omega) [go_sem, *, -List.reduceReplicate]; try first | rfl | exact ⟨rfl, rfl⟩ | exact ⟨rfl, rfl, rfl⟩)) | ((first | apply go_loadv | apply go_append0 | apply go_beyond); · (simp (disch := omega) [go_sem, *, -List.reduceReplicate]; try first | rfl | exact ⟨rfl, rfl⟩ | exact ⟨rfl, rfl, rfl⟩)) | (apply go_appself; · (simp (disch := omega) [go_sem, *, -List.reduceReplicate]; try first | rfl | exact ⟨rfl, rfl⟩ | exact ⟨rfl, rfl, rfl⟩)) | ((first | (apply go_appendz; · rfl) | (apply go_new; · rfl) | (apply go_pure; · rfl)); · (simp (disch := omega) [go_sem, *, -List.reduceReplicate]; try first | rfl | exact ⟨rfl, rfl⟩ | exact ⟨rfl, rfl, rfl⟩)) | ((apply go_glob; · assumption); · (simp (disch := omega) [go_sem, *, -List.reduceReplicate]; try first | rfl | exact ⟨rfl, rfl⟩ | exact ⟨rfl, rfl, rfl⟩)) | (apply go_read1; (· rfl); · (simp (disch := omega) [go_sem, *, -List.reduceReplicate]; try first | rfl | exact ⟨rfl, rfl⟩ | exact ⟨rfl, rfl, rfl⟩)) | (apply go_rw1; (· rfl); · (simp (disch := omega) [go_sem, *, -List.reduceReplicate]; try first | rfl | exact ⟨rfl, rfl⟩ | exact ⟨rfl, rfl, rfl⟩)) | (apply go_new1; (· rfl); · (simp (disch := omega) [go_sem, *, -List.reduceReplicate]; try first | rfl | exact ⟨rfl, rfl⟩ | exact ⟨rfl, rfl, rfl⟩)) | (apply go_conv; · (simp (disch := omega) [go_sem, *, -List.reduceReplicate]; try first | rfl | exact ⟨rfl, rfl⟩ | exact ⟨rfl, rfl, rfl⟩)) | ((first | (apply go_new; · rfl) | (apply go_pure; · rfl)); · (simp (disch := omega) [go_sem, *, -List.reduceReplicate]; simp [go_sem, *]; try first | rfl | exact ⟨rfl, rfl⟩)) | (apply go_condT; · (simp (disch := omega) [go_sem, *, -List.reduceReplicate]; try first | rfl | omega; done)) | (apply go_condF; · (simp (disch := omega) [go_sem, *, -List.reduceReplicate]; try first | rfl | omega; done)) | (obtain ⟨hcall, hcs⟩ := hcs; refine go_callw (hcall _) (by simp (disch := omega) [go_sem, *, -List.reduceReplicate]; try rfl) (by simp (disch := omega) [go_sem, *, -List.reduceReplicate]; repeat' first | exact ALe.nil | exact AV.le_refl _ | exact AV.le_nils | exact AV.le_own _ _ | apply ALe.cons | apply AV.sub_agg) (by simp (disch := omega) [go_sem, *, -List.reduceReplicate]) ?_; clear hcall))
  refine go_resultI (by simp (disch := omega) [go_sem, *, -List.reduceReplicate]; rfl) (by first | exact AV.le_refl _ | ((first | apply AV.le_slices | apply AV.le_nilsE | apply AV.le_clipE); first | rfl | (simp (disch := omega) [go_sem, *, -List.reduceReplicate]; done))) (by simp (disch := omega) [go_sem]; try rfl) (fun id hid => by simp (disch := omega) only [upd_ne, wr_cons, wr_nil]; try exact hlow id hid)
theorem Clone_empty (A : Addr) (c k : Nat) : ACall Tryd.prog 62 [.lit (.slice (some A) 0 c)] k [] (.slice none []) [] := by
  refine ACall.of_body mixed Tryd.func62 rfl (by kernel_rfl) Tryd.ntmps62 (by kernel_rfl) rfl (by simp) (by simp) (by simp) fun σ N hp hpn hk hkn hfree => ?_
  repeat (first | apply go_nil | apply go_kreg | apply go_kreg0 | apply go_kreg1 | (apply go_kregT; · (first | (simp [addT, CF, CFy, Ind, DisjF]; done) | (simp only [addT, CF, CFy, Ind]; repeat' (first | exact trivial | apply And.intro | exact Or.inl (by decide +kernel) | (refine Or.inr ⟨?_, ?_⟩ <;> (simp; try omega)))))) | apply go_then | apply go_then_exit | apply go_then_ret | apply go_blk | apply go_blk_ret | apply go_blk_here | (apply go_blk_there; · rfl) | apply go_seq | (apply go_region; · (simp only [List.length_cons, List.length_nil, Nat.reduceAdd, Nat.add_assoc]; rfl)) | apply go_skip | apply go_block | apply go_scope | apply go_label | apply go_exit | apply go_ret | (apply go_mut; (· assumption); · (simp (disch := omega) [go_sem, *, -List.reduceReplicate]; first | exact ⟨rfl, rfl⟩ | (simp [go_sem, *]; exact ⟨rfl, rfl⟩))) | (apply go_mutP; (· assumption); · (simp (disch := omega) [go_sem, *, -List.reduceReplicate]; try first | rfl | exact ⟨rfl, rfl⟩ | exact ⟨rfl, rfl, rfl⟩)) | (apply go_guard_in; (· rfl); · (simp (disch := omega) [go_sem, *, -List.reduceReplicate]; try first | rfl | omega)) | (apply go_guard_off; (· rfl); · (simp (disch := omega) [go_sem, *, -List.reduceReplicate]; try first | rfl | omega)) | (apply go_guard_no; (· rfl); · (simp (disch := omega) [go_sem, *, -List.reduceReplicate]; try rfl)) | ((first | apply go_move | apply go_assign | apply go_load | apply go_store | apply go_append | apply go_copy | apply go_copy0 | apply go_clear0 | apply go_slice3 | apply go_indexA); · (simp (disch := omega) [go_sem, *, -List.reduceReplicate]; try first | rfl | exact ⟨rfl, rfl⟩ | exact ⟨rfl, rfl, rfl⟩)) | ((first | apply go_loadv | apply go_append0 | apply go_beyond); · (simp (disch := omega) [go_sem, *, -List.reduceReplicate]; try first | rfl | exact ⟨rfl, rfl⟩ | exact ⟨rfl, rfl, rfl⟩)) | (apply go_appself; · (simp (disch := omega) [go_sem, *, -List.reduceReplicate]; try first | rfl | exact ⟨rfl, rfl⟩ | exact ⟨rfl, rfl, rfl⟩)) | ((first | (apply go_appendz; · rfl) | (apply go_new; · rfl) | (apply go_pure; · rfl)); · (simp (disch := omega) [go_sem, *, -List.reduceReplicate]; try first | rfl | exact ⟨rfl, rfl⟩ | exact ⟨rfl, rfl, rfl⟩)) | ((apply go_glob; · assumption); · (simp (disch := omega) [go_sem, *, -List.reduceReplicate]; try first | rfl | exact ⟨rfl, rfl⟩ | exact ⟨rfl, rfl, rfl⟩)) | (apply go_read1; (· rfl); · (simp (disch := omega) [go_sem, *, -List.reduceReplicate]; try first | rfl | exact ⟨rfl, rfl⟩ | exact ⟨rfl, rfl, rfl⟩)) | (apply go_rw1; (· rfl); · (simp (disch := omega) [go_sem, *, -List.reduceReplicate]; try first | rfl | exact ⟨rfl, rfl⟩ | exact ⟨rfl, rfl, rfl⟩)) | (apply go_new1; (· rfl); · (simp (disch := omega) [go_sem, *, -List.reduceReplicate]; try first | rfl | exact ⟨rfl, rfl⟩ | exact ⟨rfl, rfl, rfl⟩)) | (apply go_conv; · (simp (disch := omega) [go_sem, *, -List.reduceReplicate]; try first | rfl | exact ⟨rfl, rfl⟩ | exact ⟨rfl, rfl, rfl⟩)) | ((first | (apply go_new; · rfl) | (apply go_pure; · rfl)); · (simp (disch := omega) [go_sem, *, -List.reduceReplicate]; simp [go_sem, *]; try first | rfl | exact ⟨rfl, rfl⟩)) | (apply go_condT; · (simp (disch := omega) [go_sem, *, -List.reduceReplicate]; try first | rfl | omega; done)) | (apply go_condF; · (simp (disch := omega) [go_sem, *, -List.reduceReplicate]; try first | rfl | omega; done)) | (obtain ⟨hcall, hcs⟩ := hcs; refine go_callw (hcall _) (by simp (disch := omega) [go_sem, *, -List.reduceReplicate]; try rfl) (by simp (disch := omega) [go_sem, *, -List.reduceReplicate]; repeat' first | exact ALe.nil | exact AV.le_refl _ | exact AV.le_nils | exact AV.le_own _ _ | apply ALe.cons | apply AV.sub_agg) (by simp (disch := omega) [go_sem, *, -List.reduceReplicate]) ?_; clear hcall))
  refine go_resultI (by simp (disch := omega) [go_sem, *, -List.reduceReplicate]; rfl) (by first | exact AV.le_refl _ | ((first | apply AV.le_slices | apply AV.le_nilsE | apply AV.le_clipE); first | rfl | (simp (disch := omega) [go_sem, *, -List.reduceReplicate]; done))) (by simp (disch := omega) [go_sem]; try rfl) (fun id hid => by simp (disch := omega) only [upd_ne, wr_cons, wr_nil]; try exact hlow id hid)
theorem Clone_spec (b : List UInt8) (hl : b.length ≤ 1000000000) (k : Nat) :
    ACall Tryd.prog 62 [.slice none (b.map byteAV)] k [] (.slice none (b.map byteAV)) [] := by
  cases b with
  | cons x r => exact Clone_cons (x :: r) rfl hl k
  | nil =>
    refine ACall.empty fun A c => ?_
    cases A with
    | none => exact (Clone_nil c k).result AV.le_nils
    | some A => exact Clone_empty A c k
end
end Go.Proofs.YtaelnglalpiemaaDoor

/- Journals: Records. -/
namespace Go.Proofs.YtaelnglalpiemaaDoor
open Go.Ab
attribute [local irreducible] Go.Ab.tyAV Go.Ab.aw Go.Ab.aops Go.Ab.kReg Go.Ab.aThen Go.Ab.aBlk Go.Ab.acond Go.Ab.aguard Go.Ab.astep Go.Ab.AStepX Go.Ab.aRet
attribute [local irreducible] shaG

theorem barrJ (l m : List UInt8) : ((ByteArray.mk l.toArray) == (ByteArray.mk m.toArray)) = (l == m) := by
  show (l.toArray == m.toArray) = (l == m)
  simp
theorem EqualJ_spec (a b : List UInt8) (ha : a.length ≤ 1000000) (hb : b.length ≤ 1000000) (k : Nat) :
    ACall Tryd.prog 58 [.slice none (a.map byteAV), .slice none (b.map byteAV)] k [] (.lit (.bool (decide (a = b)))) [] := by
  by_cases h : a = b
  · subst h
    simp only [decide_true]
    refine ACall.of_body mixed Tryd.func58 rfl (by kernel_rfl) Tryd.ntmps58 (by kernel_rfl) rfl (by simp) (by simp) (by simp) fun σ N hp hpn hk hkn hfree => ?_
    exact W0
  · rw [decide_eq_false h]
    have h1 : ((ByteArray.mk a.toArray) == (ByteArray.mk b.toArray)) = false := by rw [barrJ]; simp [h]
    have h2 : (a == b) = false := by simp [h]
    have h3 : (a.toArray == b.toArray) = false := by simp [h]
    refine ACall.of_body mixed Tryd.func58 rfl (by kernel_rfl) Tryd.ntmps58 (by kernel_rfl) rfl (by simp) (by simp) (by simp) fun σ N hp hpn hk hkn hfree => ?_
    exact W0
theorem or8 (x y : Nat) (hx : x < 256) (hy : y < 256) : bits .or .i64 ((x : Int) * 256) y = ((256 * x + y : Nat) : Int) := by
  have h : bits .or .i64 ((x : Int) * 256) y = (x : Int) * 256 + y := bits_join .i64 63 (by decide) (fun n a b => wrap_i64 (by omega) (by omega)) 8 ((x : Int) * 256) y (by omega) (by omega) (by omega) (by omega) (by omega) (by omega)
  rw [h]; omega

/-- The number of bytes that the first two say. -/
def num2 (b : List UInt8) : Nat := 256 * (b.getD 0 0).toNat + (b.getD 1 0).toNat
/-- What the closure reads: a box with bytes, a box with a number. -/
def dataBox (b : List UInt8) : Ent := .box 25 (.slice none (b.map byteAV))
def usedBox (u : Nat) : Ent := .box 3 (.lit (.int .i64 u))

theorem jnext_short (data b : List UInt8) (u : Nat) (hu : u ≤ data.length) (hl : data.length ≤ 1000000) (hb : data.drop u = b) (h : b.length < 6) (d0 d1 g k : Nat) :
    ACall Tryd.prog 61 [.ptr d0 [] 0, .ptr d1 [] 0] k [(d0, dataBox data), (d1, usedBox u), (g, shaG)] (.tup [.slice none [], .lit (.bool false)]) [] := by
  unfold dataBox usedBox
  have hbl : b.length = data.length - u := by rw [← hb, List.length_drop]
  have hbd : (data.map byteAV).drop u = b.map byteAV := by rw [← hb, List.map_drop]
  clear hb
  refine ACall.of_body mixed Tryd.func61 rfl (by kernel_rfl) Tryd.ntmps61 (by kernel_rfl) rfl (by simp) (by simp) (by simp) fun σ N hp hpn hk hkn hfree => ?_
  simp only [List.mem_cons, List.not_mem_nil, or_false, forall_eq_or_imp, forall_eq] at hp hpn; obtain ⟨hd1, hd2, hd3⟩ := hp; obtain ⟨hdn1, hdn2, hdn3⟩ := hpn
  exact WL
theorem cons_at {x : UInt8} {y : UInt8} {t : List UInt8} {n : Nat} (hn : num2 (x :: y :: t) = n) : bits .or .i64 ((x.toNat : Int) * 256) (y.toNat : Int) = (n : Int) := by
  rw [or8 _ _ (by have := x.toNat_lt; omega) (by have := y.toNat_lt; omega), ← hn]; rfl
theorem num2_lt (x y : UInt8) (t : List UInt8) : num2 (x :: y :: t) < 65536 := by
  have h1 := x.toNat_lt
  have h2 := y.toNat_lt
  show 256 * x.toNat + y.toNat < 65536
  omega
theorem two_of {b : List UInt8} (h : ¬ b.length < 6) : ∃ x y t, b = x :: y :: t ∧ 4 ≤ t.length := by
  match b, h with
  | [], h => simp at h
  | [x], h => simp at h
  | x :: y :: t, h => exact ⟨x, y, t, rfl, by simp only [List.length_cons] at h; omega⟩
theorem jnext_bad (data : List UInt8) (x y : UInt8) (t : List UInt8) (u n : Nat) (hu : u ≤ data.length) (hl : data.length ≤ 1000000) (hb : data.drop u = x :: y :: t) (ht : 4 ≤ t.length) (hn : num2 (x :: y :: t) = n) (h : n = 0 ∨ 4096 < n ∨ t.length < 4 + n) (d0 d1 g k : Nat) :
    ACall Tryd.prog 61 [.ptr d0 [] 0, .ptr d1 [] 0] k [(d0, dataBox data), (d1, usedBox u), (g, shaG)] (.tup [.slice none [], .lit (.bool false)]) [] := by
  unfold dataBox usedBox
  have hbl : t.length + 2 = data.length - u := by have := congrArg List.length hb; rw [List.length_drop] at this; simp only [List.length_cons] at this; omega
  have hbd : (data.map byteAV).drop u = byteAV x :: byteAV y :: t.map byteAV := by rw [← List.map_drop, hb]; rfl
  have hor := cons_at hn
  have hx := x.toNat_lt
  have hy := y.toNat_lt
  clear hb hn
  by_cases h0 : n = 0
  · subst h0
    clear h
    refine ACall.of_body mixed Tryd.func61 rfl (by kernel_rfl) Tryd.ntmps61 (by kernel_rfl) rfl (by simp) (by simp) (by simp) fun σ N hp hpn hk hkn hfree => ?_
    simp only [List.mem_cons, List.not_mem_nil, or_false, forall_eq_or_imp, forall_eq] at hp hpn; obtain ⟨hd1, hd2, hd3⟩ := hp; obtain ⟨hdn1, hdn2, hdn3⟩ := hpn
    exact WL
  · have h0b : ((n : Int) == 0) = false := by rw [beq_eq_false_iff_ne]; omega
    by_cases h1 : 4096 < n
    · have h1i : (4096 : Int) < n := by omega
      clear h
      refine ACall.of_body mixed Tryd.func61 rfl (by kernel_rfl) Tryd.ntmps61 (by kernel_rfl) rfl (by simp) (by simp) (by simp) fun σ N hp hpn hk hkn hfree => ?_
      simp only [List.mem_cons, List.not_mem_nil, or_false, forall_eq_or_imp, forall_eq] at hp hpn; obtain ⟨hd1, hd2, hd3⟩ := hp; obtain ⟨hdn1, hdn2, hdn3⟩ := hpn
      exact WL
    · have h1i : ¬ (4096 : Int) < n := by omega
      have h2 : t.length < 4 + n := by omega
      clear h
      refine ACall.of_body mixed Tryd.func61 rfl (by kernel_rfl) Tryd.ntmps61 (by kernel_rfl) rfl (by simp) (by simp) (by simp) fun σ N hp hpn hk hkn hfree => ?_
      simp only [List.mem_cons, List.not_mem_nil, or_false, forall_eq_or_imp, forall_eq] at hp hpn; obtain ⟨hd1, hd2, hd3⟩ := hp; obtain ⟨hdn1, hdn2, hdn3⟩ := hpn
      exact WL
section
variable [W : W32]
/-- The record at the beginning of bytes. -/
def nextS (b : List UInt8) : Option (List UInt8) :=
  if b.length < 6 then none
  else if num2 b = 0 ∨ 4096 < num2 b ∨ b.length < 6 + num2 b then none
  else if (shaT ((b.drop 6).take (num2 b))).1.take 4 = (b.drop 2).take 4 then some ((b.drop 6).take (num2 b)) else none
theorem nextS_len {b r : List UInt8} (h : nextS b = some r) : 0 < r.length ∧ r.length ≤ 4096 ∧ 6 + r.length ≤ b.length := by
  unfold nextS at h
  split at h
  · cases h
  · split at h
    · cases h
    · split at h
      · cases h
        simp only [List.length_take, List.length_drop]; omega
      · cases h
def recS (b : List UInt8) : List (List UInt8) × Nat :=
  match _h : nextS b with
  | none => ([], 0)
  | some r => (r :: (recS (b.drop (6 + r.length))).1, 6 + r.length + (recS (b.drop (6 + r.length))).2)
termination_by b.length
decreasing_by
  all_goals
    have := nextS_len _h
    rw [List.length_drop]; omega
theorem recS_none {b : List UInt8} (h : nextS b = none) : recS b = ([], 0) := by
  rw [recS]; split
  · rfl
  · rename_i h'; rw [h] at h'; cases h'
theorem recS_some {b r : List UInt8} (h : nextS b = some r) : recS b = (r :: (recS (b.drop (6 + r.length))).1, 6 + r.length + (recS (b.drop (6 + r.length))).2) := by
  rw [recS]; split
  · rename_i h'; rw [h] at h'; cases h'
  · rename_i h'; rw [h] at h'; cases h'; rfl
theorem recS_le (b : List UInt8) : (recS b).2 ≤ b.length := by
  generalize hn : b.length = n
  induction n using Nat.strongRecOn generalizing b with
  | ind n ih =>
    cases h : nextS b with
    | none => rw [recS_none h]; exact Nat.zero_le _
    | some r =>
      have hl := nextS_len h
      have := ih (b.length - (6 + r.length)) (by omega) (b.drop (6 + r.length)) (by rw [List.length_drop])
      rw [recS_some h]
      simp only
      omega

theorem jnext_sha (data : List UInt8) (x y : UInt8) (t : List UInt8) (u n : Nat) (hu : u ≤ data.length) (hl : data.length ≤ 1000000) (hb : data.drop u = x :: y :: t) (ht : 4 ≤ t.length) (hn : num2 (x :: y :: t) = n) (h0 : n ≠ 0) (h1 : n ≤ 4096) (h2 : 4 + n ≤ t.length) (r q : List UInt8) (hr : (t.drop 4).take n = r) (hq : t.take 4 = q) (hne : (shaT r).1.take 4 ≠ q) (d0 d1 g k : Nat) :
    ACall Tryd.prog 61 [.ptr d0 [] 0, .ptr d1 [] 0] k [(d0, dataBox data), (d1, usedBox u), (g, shaG)] (.tup [.slice none [], .lit (.bool false)]) [] := by
  unfold dataBox usedBox
  have hbl : t.length + 2 = data.length - u := by have := congrArg List.length hb; rw [List.length_drop] at this; simp only [List.length_cons] at this; omega
  have hbd : (data.map byteAV).drop u = byteAV x :: byteAV y :: t.map byteAV := by rw [← List.map_drop, hb]; rfl
  have hor := cons_at hn
  have hx := x.toNat_lt
  have hy := y.toNat_lt
  clear hb hn
  have h0b : ((n : Int) == 0) = false := by rw [beq_eq_false_iff_ne]; omega
  have h1i : ¬ (4096 : Int) < n := by omega
  have hrl : r.length = n := by rw [← hr, List.length_take, List.length_drop]; omega
  have hql : q.length = 4 := by rw [← hq, List.length_take]; omega
  have hrb : List.drop 6 (List.take (6 + (n : Int)).toNat (byteAV x :: byteAV y :: t.map byteAV)) = r.map byteAV := by
    rw [show (6 + (n : Int)).toNat = n + 6 by omega, ← hr, List.map_take, List.map_drop]
    show List.drop 4 (List.take (n + 4) (t.map byteAV)) = _
    rw [List.drop_take]; simp
  have hqb : (t.map byteAV).take 4 = q.map byteAV := by rw [← hq, List.map_take]
  clear hr hq
  have c1 := Of_spec r (by omega) (by omega) g
  generalize shaT r = T at *
  have hs1 := tagAV_sz T
  have hs2 := tagAV_cell T
  obtain ⟨T, hT⟩ := T
  simp only [tagAV] at c1 hne hs1 hs2
  have hTb : (T.map byteAV).take 4 = (T.take 4).map byteAV := by rw [List.map_take]
  have hTl : (T.take 4).length = 4 := by rw [List.length_take]; omega
  have c2 := EqualJ_spec (T.take 4) q (by omega) (by omega)
  rw [decide_eq_false hne] at c2
  generalize T.take 4 = S at *
  refine ACall.of_body mixed Tryd.func61 rfl (by kernel_rfl) Tryd.ntmps61 (by kernel_rfl) rfl (by simp) (by simp) (by simp) fun σ N hp hpn hk hkn hfree => ?_
  simp only [List.mem_cons, List.not_mem_nil, or_false, forall_eq_or_imp, forall_eq] at hp hpn; obtain ⟨hd1, hd2, hd3⟩ := hp; obtain ⟨hdn1, hdn2, hdn3⟩ := hpn
  have hcs := And.intro c1 (And.intro c2 True.intro)
  clear c1 c2 hne
  exact WL
theorem jnext_ok (data : List UInt8) (x y : UInt8) (t : List UInt8) (u n : Nat) (hu : u ≤ data.length) (hl : data.length ≤ 1000000) (hb : data.drop u = x :: y :: t) (ht : 4 ≤ t.length) (hn : num2 (x :: y :: t) = n) (h0 : n ≠ 0) (h1 : n ≤ 4096) (h2 : 4 + n ≤ t.length) (r q : List UInt8) (hr : (t.drop 4).take n = r) (hq : t.take 4 = q) (hne : (shaT r).1.take 4 = q) (d0 d1 g k : Nat) (hdd : d0 ≠ d1) :
    ACall Tryd.prog 61 [.ptr d0 [] 0, .ptr d1 [] 0] k [(d0, dataBox data), (d1, usedBox u), (g, shaG)] (.tup [.slice none (r.map byteAV), .lit (.bool true)]) [(d1, usedBox (u + (6 + n)))] := by
  unfold dataBox usedBox
  have hbl : t.length + 2 = data.length - u := by have := congrArg List.length hb; rw [List.length_drop] at this; simp only [List.length_cons] at this; omega
  have hbd : (data.map byteAV).drop u = byteAV x :: byteAV y :: t.map byteAV := by rw [← List.map_drop, hb]; rfl
  have hor := cons_at hn
  have hx := x.toNat_lt
  have hy := y.toNat_lt
  clear hb hn
  have h0b : ((n : Int) == 0) = false := by rw [beq_eq_false_iff_ne]; omega
  have h1i : ¬ (4096 : Int) < n := by omega
  have hrl : r.length = n := by rw [← hr, List.length_take, List.length_drop]; omega
  have hql : q.length = 4 := by rw [← hq, List.length_take]; omega
  have hrb : List.drop 6 (List.take (6 + (n : Int)).toNat (byteAV x :: byteAV y :: t.map byteAV)) = r.map byteAV := by
    rw [show (6 + (n : Int)).toNat = n + 6 by omega, ← hr, List.map_take, List.map_drop]
    show List.drop 4 (List.take (n + 4) (t.map byteAV)) = _
    rw [List.drop_take]; simp
  have hqb : (t.map byteAV).take 4 = q.map byteAV := by rw [← hq, List.map_take]
  clear hr hq
  have c1 := Of_spec r (by omega) (by omega) g
  have c3 := Clone_spec r (by omega)
  generalize shaT r = T at *
  have hs1 := tagAV_sz T
  have hs2 := tagAV_cell T
  obtain ⟨T, hT⟩ := T
  simp only [tagAV] at c1 hne hs1 hs2
  have hTb : (T.map byteAV).take 4 = (T.take 4).map byteAV := by rw [List.map_take]
  have hTl : (T.take 4).length = 4 := by rw [List.length_take]; omega
  have c2 := EqualJ_spec (T.take 4) q (by omega) (by omega)
  rw [decide_eq_true hne] at c2
  generalize T.take 4 = S at *
  refine ACall.of_body mixed Tryd.func61 rfl (by kernel_rfl) Tryd.ntmps61 (by kernel_rfl) rfl (by simp) (by simp) (by simp) fun σ N hp hpn hk hkn hfree => ?_
  simp only [List.mem_cons, List.not_mem_nil, or_false, forall_eq_or_imp, forall_eq] at hp hpn; obtain ⟨hd1, hd2, hd3⟩ := hp; obtain ⟨hdn1, hdn2, hdn3⟩ := hpn
  have hcs := And.intro c1 (And.intro c2 (And.intro c3 True.intro))
  clear c1 c2 c3 hne
  repeat (first | apply go_nil | apply go_kreg | apply go_kreg0 | apply go_kreg1 | (apply go_kregT; · (first | (simp [addT, CF, CFy, Ind, DisjF]; done) | (simp only [addT, CF, CFy, Ind]; repeat' (first | exact trivial | apply And.intro | exact Or.inl (by decide +kernel) | (refine Or.inr ⟨?_, ?_⟩ <;> (simp; try omega)))))) | apply go_then | apply go_then_exit | apply go_then_ret | apply go_blk | apply go_blk_ret | apply go_blk_here | (apply go_blk_there; · rfl) | apply go_seq | (apply go_region; · (simp only [List.length_cons, List.length_nil, Nat.reduceAdd, Nat.add_assoc]; rfl)) | apply go_skip | apply go_block | apply go_scope | apply go_label | apply go_exit | apply go_ret | (apply go_mut; (· assumption); · (simp (disch := omega) [go_sem, *, -List.reduceReplicate]; first | exact ⟨rfl, rfl⟩ | (simp [go_sem, *]; exact ⟨rfl, rfl⟩))) | (apply go_mutP; (· assumption); · (simp (disch := omega) [go_sem, *, -List.reduceReplicate]; try first | rfl | exact ⟨rfl, rfl⟩ | exact ⟨rfl, rfl, rfl⟩)) | (apply go_guard_in; (· rfl); · (simp (disch := omega) [go_sem, *, -List.reduceReplicate]; try first | rfl | omega)) | (apply go_guard_off; (· rfl); · (simp (disch := omega) [go_sem, *, -List.reduceReplicate]; try first | rfl | omega)) | (apply go_guard_no; (· rfl); · (simp (disch := omega) [go_sem, *, -List.reduceReplicate]; try rfl)) | ((first | apply go_move | apply go_assign | apply go_load | apply go_store | apply go_append | apply go_copy | apply go_copy0 | apply go_clear0 | apply go_slice3 | apply go_indexA); · (simp (disch := omega) [go_sem, *, -List.reduceReplicate]; try first | rfl | exact ⟨rfl, rfl⟩ | exact ⟨rfl, rfl, rfl⟩)) | ((first | apply go_loadv | apply go_append0 | apply go_beyond); · (simp (disch := omega) [go_sem, *, -List.reduceReplicate]; try first | rfl | exact ⟨rfl, rfl⟩ | exact ⟨rfl, rfl, rfl⟩)) | (apply go_appself; · (simp (disch := omega) [go_sem, *, -List.reduceReplicate]; try first | rfl | exact ⟨rfl, rfl⟩ | exact ⟨rfl, rfl, rfl⟩)) | ((first | (apply go_appendz; · rfl) | (apply go_new; · rfl) | (apply go_pure; · rfl)); · (simp (disch := omega) [go_sem, *, -List.reduceReplicate]; try first | rfl | exact ⟨rfl, rfl⟩ | exact ⟨rfl, rfl, rfl⟩)) | ((apply go_glob; · assumption); · (simp (disch := omega) [go_sem, *, -List.reduceReplicate]; try first | rfl | exact ⟨rfl, rfl⟩ | exact ⟨rfl, rfl, rfl⟩)) | (apply go_read1; (· rfl); · (simp (disch := omega) [go_sem, *, -List.reduceReplicate]; try first | rfl | exact ⟨rfl, rfl⟩ | exact ⟨rfl, rfl, rfl⟩)) | (apply go_rw1; (· rfl); · (simp (disch := omega) [go_sem, *, -List.reduceReplicate]; try first | rfl | exact ⟨rfl, rfl⟩ | exact ⟨rfl, rfl, rfl⟩)) | (apply go_new1; (· rfl); · (simp (disch := omega) [go_sem, *, -List.reduceReplicate]; try first | rfl | exact ⟨rfl, rfl⟩ | exact ⟨rfl, rfl, rfl⟩)) | (apply go_conv; · (simp (disch := omega) [go_sem, *, -List.reduceReplicate]; try first | rfl | exact ⟨rfl, rfl⟩ | exact ⟨rfl, rfl, rfl⟩)) | ((first | (apply go_new; · rfl) | (apply go_pure; · rfl)); · (simp (disch := omega) [go_sem, *, -List.reduceReplicate]; simp [go_sem, *]; try first | rfl | exact ⟨rfl, rfl⟩)) | (apply go_condT; · (simp (disch := omega) [go_sem, *, -List.reduceReplicate]; try first | rfl | omega; done)) | (apply go_condF; · (simp (disch := omega) [go_sem, *, -List.reduceReplicate]; try first | rfl | omega; done)) | (obtain ⟨hcall, hcs⟩ := hcs; refine go_callw (hcall _) (by simp (disch := omega) [go_sem, *, -List.reduceReplicate]; try rfl) (by simp (disch := omega) [go_sem, *, -List.reduceReplicate]; repeat' first | exact ALe.nil | exact AV.le_refl _ | exact AV.le_nils | exact AV.le_own _ _ | apply ALe.cons | apply AV.sub_agg) (by simp (disch := omega) [go_sem, *, -List.reduceReplicate]) ?_; clear hcall))
  refine go_resultWI [(d1, .box 3 (.lit (.int .i64 ((u : Int) + (6 + (n : Int))))))] (by simp (disch := omega) [go_sem, *, -List.reduceReplicate]; rfl) (by first | exact AV.le_refl _ | ((first | apply AV.le_slices | apply AV.le_nilsE | apply AV.le_clipE); first | rfl | (simp (disch := omega) [go_sem, *, -List.reduceReplicate]; done)) | (apply AV.sub_tup; repeat' first | exact ALe.nil | exact AV.le_refl _ | apply ALe.cons | ((first | apply AV.le_slices | apply AV.le_nilsE | apply AV.le_clipE); first | rfl | (simp (disch := omega) [go_sem, *, -List.reduceReplicate]; done)))) (by first | rfl | (simp (disch := omega) [go_sem]; done) | (simp (disch := omega) [go_sem, *]; done) | simp (disch := omega) [go_sem]) (fun id hid => by simp only [wr_cons, wr_nil]; try (by_cases hdd : id = d1; (· (subst hdd; simp (disch := omega) [go_sem, *])); (· (simp (disch := omega) only [upd_ne]; try (first | exact hlow id hid hdd | exact hlow id hid))))) (by simp) (by simp (disch := omega) [go_sem, *])
theorem jnext_none (data b : List UInt8) (u : Nat) (hu : u ≤ data.length) (hl : data.length ≤ 1000000) (hb : data.drop u = b) (h : nextS b = none) (d0 d1 g k : Nat) :
    ACall Tryd.prog 61 [.ptr d0 [] 0, .ptr d1 [] 0] k [(d0, dataBox data), (d1, usedBox u), (g, shaG)] (.tup [.slice none [], .lit (.bool false)]) [] := by
  unfold nextS at h
  by_cases h6 : b.length < 6
  · exact jnext_short data b u hu hl hb h6 d0 d1 g k
  · obtain ⟨x, y, t, rfl, ht⟩ := two_of h6
    rw [if_neg h6] at h
    by_cases hbad : num2 (x :: y :: t) = 0 ∨ 4096 < num2 (x :: y :: t) ∨ (x :: y :: t).length < 6 + num2 (x :: y :: t)
    · exact jnext_bad data x y t u _ hu hl hb ht rfl (by rcases hbad with e | e | e; exact .inl e; exact .inr (.inl e); exact .inr (.inr (by simp only [List.length_cons] at e; omega))) d0 d1 g k
    · rw [if_neg hbad] at h
      have hne : (shaT ((t.drop 4).take (num2 (x :: y :: t)))).1.take 4 ≠ t.take 4 := by
        split at h
        · cases h
        · rename_i hq; exact hq
      simp only [List.length_cons] at hbad
      exact jnext_sha data x y t u _ hu hl hb ht rfl (by omega) (by omega) (by omega) _ _ rfl rfl hne d0 d1 g k
theorem jnext_some (data b r : List UInt8) (u : Nat) (hu : u ≤ data.length) (hl : data.length ≤ 1000000) (hb : data.drop u = b) (h : nextS b = some r) (d0 d1 g k : Nat) (hdd : d0 ≠ d1) :
    ACall Tryd.prog 61 [.ptr d0 [] 0, .ptr d1 [] 0] k [(d0, dataBox data), (d1, usedBox u), (g, shaG)] (.tup [.slice none (r.map byteAV), .lit (.bool true)]) [(d1, usedBox (u + (6 + r.length)))] := by
  unfold nextS at h
  by_cases h6 : b.length < 6
  · rw [if_pos h6] at h; cases h
  · obtain ⟨x, y, t, rfl, ht⟩ := two_of h6
    rw [if_neg h6] at h
    by_cases hbad : num2 (x :: y :: t) = 0 ∨ 4096 < num2 (x :: y :: t) ∨ (x :: y :: t).length < 6 + num2 (x :: y :: t)
    · rw [if_pos hbad] at h; cases h
    · rw [if_neg hbad] at h
      split at h
      · rename_i hq
        simp only [List.length_cons] at hbad
        have hr : (t.drop 4).take (num2 (x :: y :: t)) = r := by injection h
        have hrl : num2 (x :: y :: t) = r.length := by rw [← hr, List.length_take, List.length_drop]; omega
        have hq' : (shaT r).1.take 4 = t.take 4 := by rw [← hr]; exact hq
        rw [hrl] at hr hbad
        exact jnext_ok data x y t u _ hu hl hb ht hrl (by omega) (by omega) (by omega) r _ hr rfl hq' d0 d1 g k hdd
      · cases h
end
end Go.Proofs.YtaelnglalpiemaaDoor

/- Journals: plain laws of frames and records. -/
namespace Go.Proofs.YtaelnglalpiemaaDoor
open Go.Ab
attribute [local irreducible] Go.Ab.tyAV Go.Ab.aw Go.Ab.aops Go.Ab.kReg Go.Ab.aThen Go.Ab.aBlk Go.Ab.acond Go.Ab.aguard Go.Ab.astep Go.Ab.AStepX Go.Ab.aRet
attribute [local irreducible] shaG

def RecOk (l : List (List UInt8)) : Prop := ∀ r ∈ l, 0 < r.length ∧ r.length ≤ 4096
theorem num2_frame (r t : List UInt8) (h : r.length ≤ 4096) : num2 (u8 (r.length / 256) :: u8 (r.length % 256) :: t) = r.length := by
  show 256 * (u8 (r.length / 256)).toNat + (u8 (r.length % 256)).toNat = r.length
  rw [u8_toNat _ (by omega), u8_toNat _ (by omega)]
  omega
theorem RecOk.snoc {l : List (List UInt8)} (h : RecOk l) {r : List UInt8} (h0 : 0 < r.length) (h1 : r.length ≤ 4096) : RecOk (l ++ [r]) := by
  intro x hx
  rcases List.mem_append.1 hx with hx | hx
  · exact h x hx
  · rw [List.mem_singleton.1 hx]; exact ⟨h0, h1⟩
section
variable [W : W32]
def frsB (l : List (List UInt8)) : List UInt8 := l.flatMap frB
theorem frB_shape (r : List UInt8) : ∃ q : List UInt8, q.length = 4 ∧ q = (shaT r).1.take 4 ∧ frB r = u8 (r.length / 256) :: u8 (r.length % 256) :: (q ++ r) :=
  ⟨_, by rw [List.length_take, (shaT r).2]; rfl, rfl, rfl⟩
theorem nextS_frame (r t : List UInt8) (h0 : 0 < r.length) (h1 : r.length ≤ 4096) : nextS (frB r ++ t) = some r := by
  obtain ⟨q, hq, hq2, hf⟩ := frB_shape r
  have hl := frB_len r
  have hn : num2 (frB r ++ t) = r.length := by rw [hf]; exact num2_frame r _ h1
  have hd : (frB r ++ t).drop 6 = r ++ t := by
    rw [hf]
    show (q ++ r ++ t).drop 4 = r ++ t
    rw [List.append_assoc, ← hq, List.drop_left]
  have hd2 : ((frB r ++ t).drop 2).take 4 = q := by
    rw [hf]
    show (q ++ r ++ t).take 4 = q
    rw [List.append_assoc, ← hq, List.take_left]
  unfold nextS
  rw [if_neg (by simp only [List.length_append]; omega), hn, if_neg (by simp only [List.length_append]; omega), hd, hd2, List.take_left, if_pos hq2.symm]
theorem nextS_cut (r : List UInt8) (n : Nat) (h1 : r.length ≤ 4096) (hn : n < 6 + r.length) : nextS ((frB r).take n) = none := by
  obtain ⟨q, hq, hq2, hf⟩ := frB_shape r
  have hl := frB_len r
  have hl2 : ((frB r).take n).length = n := by rw [List.length_take]; omega
  unfold nextS
  by_cases h6 : n < 6
  · rw [if_pos (by omega)]
  · rw [if_neg (by omega)]
    have hn2 : num2 ((frB r).take n) = r.length := by
      rw [hf]
      obtain ⟨m, rfl⟩ : ∃ m, n = m + 2 := ⟨n - 2, by omega⟩
      exact num2_frame r _ h1
    rw [hn2, if_pos (by omega)]
theorem nextS_nil : nextS [] = none := rfl
theorem recS_nil : recS [] = ([], 0) := recS_none nextS_nil
theorem recS_frames {l : List (List UInt8)} (h : RecOk l) (t : List UInt8) : recS (frsB l ++ t) = (l ++ (recS t).1, (frsB l).length + (recS t).2) := by
  induction l with
  | nil => simp [frsB]
  | cons r l ih =>
    have ih := ih (fun x hx => h x (List.mem_cons_of_mem _ hx))
    obtain ⟨h0, h1⟩ := h r (List.mem_cons_self ..)
    have e : frsB (r :: l) ++ t = frB r ++ (frsB l ++ t) := by simp [frsB]
    have hn := nextS_frame r (frsB l ++ t) h0 h1
    have hd : (frB r ++ (frsB l ++ t)).drop (6 + r.length) = frsB l ++ t := by
      rw [show 6 + r.length = (frB r).length by rw [frB_len]; omega, List.drop_left]
    have hL : (frsB (r :: l)).length = 6 + r.length + (frsB l).length := by
      simp only [frsB, List.flatMap_cons, List.length_append, frB_len]; omega
    rw [e, recS_some hn, hd, ih, hL]
    simp only [List.cons_append, Prod.mk.injEq, true_and]
    omega
theorem recS_frs {l : List (List UInt8)} (h : RecOk l) : recS (frsB l) = (l, (frsB l).length) := by
  have := recS_frames h []
  rw [recS_nil] at this
  simpa using this
theorem recS_torn {l : List (List UInt8)} (h : RecOk l) (r : List UInt8) (n : Nat) (h1 : r.length ≤ 4096) (hn : n < 6 + r.length) : recS (frsB l ++ (frB r).take n) = (l, (frsB l).length) := by
  have := recS_frames h ((frB r).take n)
  rw [recS_none (nextS_cut r n h1 hn)] at this
  simpa using this
theorem frsB_snoc (l : List (List UInt8)) (r : List UInt8) : frsB (l ++ [r]) = frsB l ++ frB r := by simp [frsB]
theorem frsB_len (l : List (List UInt8)) (m : Nat) (h : ∀ r ∈ l, r.length ≤ m) : (frsB l).length ≤ l.length * (m + 6) := by
  induction l with
  | nil => simp [frsB]
  | cons r l ih =>
    have ih := ih (fun x hx => h x (List.mem_cons_of_mem _ hx))
    have := h r (List.mem_cons_self ..)
    have hL : (frsB (r :: l)).length = 6 + r.length + (frsB l).length := by
      simp only [frsB, List.flatMap_cons, List.length_append, frB_len]; omega
    rw [hL, List.length_cons, Nat.add_mul]; omega
end
end Go.Proofs.YtaelnglalpiemaaDoor

/- Devices: Copied. -/
namespace Go.Proofs.YtaelnglalpiemaaDoor
open Go.Ab
attribute [local irreducible] Go.Ab.tyAV Go.Ab.aw Go.Ab.aops Go.Ab.kReg Go.Ab.aThen Go.Ab.aBlk Go.Ab.acond Go.Ab.aguard Go.Ab.astep Go.Ab.AStepX Go.Ab.aRet

def devZ : AV := devM .nils .nils ⟨[], [], 0, 0, 0, 0, 0, false⟩

theorem Copied_spec (d : Dv) (h0 : d.a0.length ≤ 1000000) (h1 : d.a1.length ≤ 1000000) (k : Nat) :
    ACall Tryd.prog 63 [devAV d] k [] (devAV d) [] := by
  have c0 := Clone_spec d.a0 (by omega)
  have c1 := Clone_spec d.a1 (by omega)
  obtain ⟨a0, a1, act, cap, wr_, cutAt, torn, off⟩ := d
  simp only [devAV, devM, bAV] at *
  refine ACall.of_body mixed Tryd.func63 rfl (by kernel_rfl) Tryd.ntmps63 (by kernel_rfl) rfl (by simp) (by simp) (by simp) fun σ N hp hpn hk hkn hfree => ?_
  repeat (first | apply go_nil | apply go_kreg | apply go_kreg0 | apply go_kreg1 | (apply go_kregT; · (first | (simp [addT, CF, CFy, Ind, DisjF]; done) | (simp only [addT, CF, CFy, Ind]; repeat' (first | exact trivial | apply And.intro | exact Or.inl (by decide +kernel) | (refine Or.inr ⟨?_, ?_⟩ <;> (simp; try omega)))))) | apply go_then | apply go_then_exit | apply go_then_ret | apply go_blk | apply go_blk_ret | apply go_blk_here | (apply go_blk_there; · rfl) | apply go_seq | (apply go_region; · (simp only [List.length_cons, List.length_nil, Nat.reduceAdd, Nat.add_assoc]; rfl)) | apply go_skip | apply go_block | apply go_scope | apply go_label | apply go_exit | apply go_ret | (apply go_mut; (· assumption); · (simp (disch := omega) [go_sem, *, -List.reduceReplicate]; first | exact ⟨rfl, rfl⟩ | (simp [go_sem, *]; exact ⟨rfl, rfl⟩))) | (apply go_mutP; (· assumption); · (simp (disch := omega) [go_sem, *, -List.reduceReplicate]; try first | rfl | exact ⟨rfl, rfl⟩ | exact ⟨rfl, rfl, rfl⟩)) | (apply go_guard_in; (· rfl); · (simp (disch := omega) [go_sem, *, -List.reduceReplicate]; try first | rfl | omega)) | (apply go_guard_off; (· rfl); · (simp (disch := omega) [go_sem, *, -List.reduceReplicate]; try first | rfl | omega)) | (apply go_guard_no; (· rfl); · (simp (disch := omega) [go_sem, *, -List.reduceReplicate]; try rfl)) | ((first | apply go_move | apply go_assign | apply go_load | apply go_store | apply go_append | apply go_copy | apply go_copy0 | apply go_clear0 | apply go_slice3 | apply go_indexA); · (simp (disch := omega) [go_sem, *, -List.reduceReplicate]; try first | rfl | exact ⟨rfl, rfl⟩ | exact ⟨rfl, rfl, rfl⟩)) | ((first | apply go_loadv | apply go_append0 | apply go_beyond); · (simp (disch := omega) [go_sem, *, -List.reduceReplicate]; try first | rfl | exact ⟨rfl, rfl⟩ | exact ⟨rfl, rfl, rfl⟩)) | (apply go_appself; · (simp (disch := omega) [go_sem, *, -List.reduceReplicate]; try first | rfl | exact ⟨rfl, rfl⟩ | exact ⟨rfl, rfl, rfl⟩)) | ((first | (apply go_appendz; · rfl) | (apply go_new; · rfl) | (apply go_pure; · rfl)); · (simp (disch := omega) [go_sem, *, -List.reduceReplicate]; try first | rfl | exact ⟨rfl, rfl⟩ | exact ⟨rfl, rfl, rfl⟩)) | ((apply go_glob; · assumption); · (simp (disch := omega) [go_sem, *, -List.reduceReplicate]; try first | rfl | exact ⟨rfl, rfl⟩ | exact ⟨rfl, rfl, rfl⟩)) | (apply go_read1; (· rfl); · (simp (disch := omega) [go_sem, *, -List.reduceReplicate]; try first | rfl | exact ⟨rfl, rfl⟩ | exact ⟨rfl, rfl, rfl⟩)) | (apply go_rw1; (· rfl); · (simp (disch := omega) [go_sem, *, -List.reduceReplicate]; try first | rfl | exact ⟨rfl, rfl⟩ | exact ⟨rfl, rfl, rfl⟩)) | (apply go_new1; (· rfl); · (simp (disch := omega) [go_sem, *, -List.reduceReplicate]; try first | rfl | exact ⟨rfl, rfl⟩ | exact ⟨rfl, rfl, rfl⟩)) | (apply go_conv; · (simp (disch := omega) [go_sem, *, -List.reduceReplicate]; try first | rfl | exact ⟨rfl, rfl⟩ | exact ⟨rfl, rfl, rfl⟩)) | ((first | (apply go_new; · rfl) | (apply go_pure; · rfl)); · (simp (disch := omega) [go_sem, *, -List.reduceReplicate]; simp [go_sem, *]; try first | rfl | exact ⟨rfl, rfl⟩)) | (apply go_condT; · (simp (disch := omega) [go_sem, *, -List.reduceReplicate]; try first | rfl | omega; done)) | (apply go_condF; · (simp (disch := omega) [go_sem, *, -List.reduceReplicate]; try first | rfl | omega; done)) | (obtain ⟨hcall, hcs⟩ := hcs; refine go_callw (hcall _) (by simp (disch := omega) [go_sem, *, -List.reduceReplicate]; try rfl) (by simp (disch := omega) [go_sem, *, -List.reduceReplicate]; repeat' first | exact ALe.nil | exact AV.le_refl _ | exact AV.le_nils | exact AV.le_own _ _ | apply ALe.cons | apply AV.sub_agg) (by simp (disch := omega) [go_sem, *, -List.reduceReplicate]) ?_; clear hcall))
  refine go_loop (aloop mixed (by kernel_rfl) (fun c => ∃ (u : Nat), c.s 1 = .ptr N [] 0 ∧ c.s 2 = .ptr (N + 1) [] 0 ∧ c.s 4 = .lit (.int .i64 u) ∧ u ≤ 2 ∧ c.σ N = .box 49 (devAV ⟨a0, a1, act, cap, wr_, cutAt, torn, off⟩) ∧ c.σ (N + 1) = .box 49 devZ ∧ N + 2 ≤ c.n ∧ (∀ id, id < N → c.σ id = σ id))
    (fun c => match c.s 4 with | .lit (.int _ m) => 2 - m.toNat | _ => 0) ⟨0, by simp (disch := omega) [go_sem, *, -List.reduceReplicate], by simp (disch := omega) [go_sem, *, -List.reduceReplicate], by simp (disch := omega) [go_sem, *, -List.reduceReplicate], by omega, by simp (disch := omega) [go_sem, *, -List.reduceReplicate]; rfl, by simp (disch := omega) [go_sem, *, -List.reduceReplicate]; rfl, by simp only; omega, (fun id hid => by simp (disch := omega) only [upd_ne, wr_cons, wr_nil]; try exact hlow id hid)⟩ ?_)
  rintro ⟨s1, σ', n'⟩ ⟨u, q1, q2, q4, hu, qb, qc, hn', hlow⟩
  simp only [devAV, devM, bAV, devZ] at q1 q2 q4 qb qc hn' hlow
  have hcase : u = 0 ∨ u = 1 ∨ u = 2 := by omega
  rcases hcase with rfl | rfl | rfl
  · have hcs := And.intro c0 True.intro
    repeat (first | apply go_nil | apply go_kreg | apply go_kreg0 | apply go_kreg1 | (apply go_kregT; · (first | (simp [addT, CF, CFy, Ind, DisjF]; done) | (simp only [addT, CF, CFy, Ind]; repeat' (first | exact trivial | apply And.intro | exact Or.inl (by decide +kernel) | (refine Or.inr ⟨?_, ?_⟩ <;> (simp; try omega)))))) | apply go_then | apply go_then_exit | apply go_then_ret | apply go_blk | apply go_blk_ret | apply go_blk_here | (apply go_blk_there; · rfl) | apply go_seq | (apply go_region; · (simp only [List.length_cons, List.length_nil, Nat.reduceAdd, Nat.add_assoc]; rfl)) | apply go_skip | apply go_block | apply go_scope | apply go_label | apply go_exit | apply go_ret | (apply go_mut; (· assumption); · (simp (disch := omega) [go_sem, *, -List.reduceReplicate]; first | exact ⟨rfl, rfl⟩ | (simp [go_sem, *]; exact ⟨rfl, rfl⟩))) | (apply go_mutP; (· assumption); · (simp (disch := omega) [go_sem, *, -List.reduceReplicate]; try first | rfl | exact ⟨rfl, rfl⟩ | exact ⟨rfl, rfl, rfl⟩)) | (apply go_guard_in; (· rfl); · (simp (disch := omega) [go_sem, *, -List.reduceReplicate]; try first | rfl | omega)) | (apply go_guard_off; (· rfl); · (simp (disch := omega) [go_sem, *, -List.reduceReplicate]; try first | rfl | omega)) | (apply go_guard_no; (· rfl); · (simp (disch := omega) [go_sem, *, -List.reduceReplicate]; try rfl)) | ((first | apply go_move | apply go_assign | apply go_load | apply go_store | apply go_append | apply go_copy | apply go_copy0 | apply go_clear0 | apply go_slice3 | apply go_indexA); · (simp (disch := omega) [go_sem, *, -List.reduceReplicate]; try first | rfl | exact ⟨rfl, rfl⟩ | exact ⟨rfl, rfl, rfl⟩)) | ((first | apply go_loadv | apply go_append0 | apply go_beyond); · (simp (disch := omega) [go_sem, *, -List.reduceReplicate]; try first | rfl | exact ⟨rfl, rfl⟩ | exact ⟨rfl, rfl, rfl⟩)) | (apply go_appself; · (simp (disch := omega) [go_sem, *, -List.reduceReplicate]; try first | rfl | exact ⟨rfl, rfl⟩ | exact ⟨rfl, rfl, rfl⟩)) | ((first | (apply go_appendz; · rfl) | (apply go_new; · rfl) | (apply go_pure; · rfl)); · (simp (disch := omega) [go_sem, *, -List.reduceReplicate]; try first | rfl | exact ⟨rfl, rfl⟩ | exact ⟨rfl, rfl, rfl⟩)) | ((apply go_glob; · assumption); · (simp (disch := omega) [go_sem, *, -List.reduceReplicate]; try first | rfl | exact ⟨rfl, rfl⟩ | exact ⟨rfl, rfl, rfl⟩)) | (apply go_read1; (· rfl); · (simp (disch := omega) [go_sem, *, -List.reduceReplicate]; try first | rfl | exact ⟨rfl, rfl⟩ | exact ⟨rfl, rfl, rfl⟩)) | (apply go_rw1; (· rfl); · (simp (disch := omega) [go_sem, *, -List.reduceReplicate]; try first | rfl | exact ⟨rfl, rfl⟩ | exact ⟨rfl, rfl, rfl⟩)) | (apply go_new1; (· rfl); · (simp (disch := omega) [go_sem, *, -List.reduceReplicate]; try first | rfl | exact ⟨rfl, rfl⟩ | exact ⟨rfl, rfl, rfl⟩)) | (apply go_conv; · (simp (disch := omega) [go_sem, *, -List.reduceReplicate]; try first | rfl | exact ⟨rfl, rfl⟩ | exact ⟨rfl, rfl, rfl⟩)) | ((first | (apply go_new; · rfl) | (apply go_pure; · rfl)); · (simp (disch := omega) [go_sem, *, -List.reduceReplicate]; simp [go_sem, *]; try first | rfl | exact ⟨rfl, rfl⟩)) | (apply go_condT; · (simp (disch := omega) [go_sem, *, -List.reduceReplicate]; try first | rfl | omega; done)) | (apply go_condF; · (simp (disch := omega) [go_sem, *, -List.reduceReplicate]; try first | rfl | omega; done)) | (obtain ⟨hcall, hcs⟩ := hcs; refine go_callw (hcall _) (by simp (disch := omega) [go_sem, *, -List.reduceReplicate]; try rfl) (by simp (disch := omega) [go_sem, *, -List.reduceReplicate]; repeat' first | exact ALe.nil | exact AV.le_refl _ | exact AV.le_nils | exact AV.le_own _ _ | apply ALe.cons | apply AV.sub_agg) (by simp (disch := omega) [go_sem, *, -List.reduceReplicate]) ?_; clear hcall))
    refine ⟨⟨1, by simp (disch := omega) [go_sem, *, -List.reduceReplicate], by simp (disch := omega) [go_sem, *, -List.reduceReplicate], by simp (disch := omega) [go_sem, *, -List.reduceReplicate], by omega, by simp (disch := omega) [go_sem, *, -List.reduceReplicate]; rfl, by simp (disch := omega) [go_sem, *, -List.reduceReplicate]; rfl, by simp only; omega, (fun id hid => by simp (disch := omega) only [upd_ne, wr_cons, wr_nil]; try exact hlow id hid)⟩, ?_⟩
    simp (disch := omega) [go_sem, *, -List.reduceReplicate]
  · have hcs := And.intro c1 True.intro
    repeat (first | apply go_nil | apply go_kreg | apply go_kreg0 | apply go_kreg1 | (apply go_kregT; · (first | (simp [addT, CF, CFy, Ind, DisjF]; done) | (simp only [addT, CF, CFy, Ind]; repeat' (first | exact trivial | apply And.intro | exact Or.inl (by decide +kernel) | (refine Or.inr ⟨?_, ?_⟩ <;> (simp; try omega)))))) | apply go_then | apply go_then_exit | apply go_then_ret | apply go_blk | apply go_blk_ret | apply go_blk_here | (apply go_blk_there; · rfl) | apply go_seq | (apply go_region; · (simp only [List.length_cons, List.length_nil, Nat.reduceAdd, Nat.add_assoc]; rfl)) | apply go_skip | apply go_block | apply go_scope | apply go_label | apply go_exit | apply go_ret | (apply go_mut; (· assumption); · (simp (disch := omega) [go_sem, *, -List.reduceReplicate]; first | exact ⟨rfl, rfl⟩ | (simp [go_sem, *]; exact ⟨rfl, rfl⟩))) | (apply go_mutP; (· assumption); · (simp (disch := omega) [go_sem, *, -List.reduceReplicate]; try first | rfl | exact ⟨rfl, rfl⟩ | exact ⟨rfl, rfl, rfl⟩)) | (apply go_guard_in; (· rfl); · (simp (disch := omega) [go_sem, *, -List.reduceReplicate]; try first | rfl | omega)) | (apply go_guard_off; (· rfl); · (simp (disch := omega) [go_sem, *, -List.reduceReplicate]; try first | rfl | omega)) | (apply go_guard_no; (· rfl); · (simp (disch := omega) [go_sem, *, -List.reduceReplicate]; try rfl)) | ((first | apply go_move | apply go_assign | apply go_load | apply go_store | apply go_append | apply go_copy | apply go_copy0 | apply go_clear0 | apply go_slice3 | apply go_indexA); · (simp (disch := omega) [go_sem, *, -List.reduceReplicate]; try first | rfl | exact ⟨rfl, rfl⟩ | exact ⟨rfl, rfl, rfl⟩)) | ((first | apply go_loadv | apply go_append0 | apply go_beyond); · (simp (disch := omega) [go_sem, *, -List.reduceReplicate]; try first | rfl | exact ⟨rfl, rfl⟩ | exact ⟨rfl, rfl, rfl⟩)) | (apply go_appself; · (simp (disch := omega) [go_sem, *, -List.reduceReplicate]; try first | rfl | exact ⟨rfl, rfl⟩ | exact ⟨rfl, rfl, rfl⟩)) | ((first | (apply go_appendz; · rfl) | (apply go_new; · rfl) | (apply go_pure; · rfl)); · (simp (disch := omega) [go_sem, *, -List.reduceReplicate]; try first | rfl | exact ⟨rfl, rfl⟩ | exact ⟨rfl, rfl, rfl⟩)) | ((apply go_glob; · assumption); · (simp (disch := omega) [go_sem, *, -List.reduceReplicate]; try first | rfl | exact ⟨rfl, rfl⟩ | exact ⟨rfl, rfl, rfl⟩)) | (apply go_read1; (· rfl); · (simp (disch := omega) [go_sem, *, -List.reduceReplicate]; try first | rfl | exact ⟨rfl, rfl⟩ | exact ⟨rfl, rfl, rfl⟩)) | (apply go_rw1; (· rfl); · (simp (disch := omega) [go_sem, *, -List.reduceReplicate]; try first | rfl | exact ⟨rfl, rfl⟩ | exact ⟨rfl, rfl, rfl⟩)) | (apply go_new1; (· rfl); · (simp (disch := omega) [go_sem, *, -List.reduceReplicate]; try first | rfl | exact ⟨rfl, rfl⟩ | exact ⟨rfl, rfl, rfl⟩)) | (apply go_conv; · (simp (disch := omega) [go_sem, *, -List.reduceReplicate]; try first | rfl | exact ⟨rfl, rfl⟩ | exact ⟨rfl, rfl, rfl⟩)) | ((first | (apply go_new; · rfl) | (apply go_pure; · rfl)); · (simp (disch := omega) [go_sem, *, -List.reduceReplicate]; simp [go_sem, *]; try first | rfl | exact ⟨rfl, rfl⟩)) | (apply go_condT; · (simp (disch := omega) [go_sem, *, -List.reduceReplicate]; try first | rfl | omega; done)) | (apply go_condF; · (simp (disch := omega) [go_sem, *, -List.reduceReplicate]; try first | rfl | omega; done)) | (obtain ⟨hcall, hcs⟩ := hcs; refine go_callw (hcall _) (by simp (disch := omega) [go_sem, *, -List.reduceReplicate]; try rfl) (by simp (disch := omega) [go_sem, *, -List.reduceReplicate]; repeat' first | exact ALe.nil | exact AV.le_refl _ | exact AV.le_nils | exact AV.le_own _ _ | apply ALe.cons | apply AV.sub_agg) (by simp (disch := omega) [go_sem, *, -List.reduceReplicate]) ?_; clear hcall))
    refine ⟨⟨2, by simp (disch := omega) [go_sem, *, -List.reduceReplicate], by simp (disch := omega) [go_sem, *, -List.reduceReplicate], by simp (disch := omega) [go_sem, *, -List.reduceReplicate], by omega, by simp (disch := omega) [go_sem, *, -List.reduceReplicate]; rfl, by simp (disch := omega) [go_sem, *, -List.reduceReplicate]; rfl, by simp only; omega, (fun id hid => by simp (disch := omega) only [upd_ne, wr_cons, wr_nil]; try exact hlow id hid)⟩, ?_⟩
    simp (disch := omega) [go_sem, *, -List.reduceReplicate]
  · repeat (first | apply go_nil | apply go_kreg | apply go_kreg0 | apply go_kreg1 | (apply go_kregT; · (first | (simp [addT, CF, CFy, Ind, DisjF]; done) | (simp only [addT, CF, CFy, Ind]; repeat' (first | exact trivial | apply And.intro | exact Or.inl (by decide +kernel) | (refine Or.inr ⟨?_, ?_⟩ <;> (simp; try omega)))))) | apply go_then | apply go_then_exit | apply go_then_ret | apply go_blk | apply go_blk_ret | apply go_blk_here | (apply go_blk_there; · rfl) | apply go_seq | (apply go_region; · (simp only [List.length_cons, List.length_nil, Nat.reduceAdd, Nat.add_assoc]; rfl)) | apply go_skip | apply go_block | apply go_scope | apply go_label | apply go_exit | apply go_ret | (apply go_mut; (· assumption); · (simp (disch := omega) [go_sem, *, -List.reduceReplicate]; first | exact ⟨rfl, rfl⟩ | (simp [go_sem, *]; exact ⟨rfl, rfl⟩))) | (apply go_mutP; (· assumption); · (simp (disch := omega) [go_sem, *, -List.reduceReplicate]; try first | rfl | exact ⟨rfl, rfl⟩ | exact ⟨rfl, rfl, rfl⟩)) | (apply go_guard_in; (· rfl); · (simp (disch := omega) [go_sem, *, -List.reduceReplicate]; try first | rfl | omega)) | (apply go_guard_off; (· rfl); · (simp (disch := omega) [go_sem, *, -List.reduceReplicate]; try first | rfl | omega)) | (apply go_guard_no; (· rfl); · (simp (disch := omega) [go_sem, *, -List.reduceReplicate]; try rfl)) | ((first | apply go_move | apply go_assign | apply go_load | apply go_store | apply go_append | apply go_copy | apply go_copy0 | apply go_clear0 | apply go_slice3 | apply go_indexA); · (simp (disch := omega) [go_sem, *, -List.reduceReplicate]; try first | rfl | exact ⟨rfl, rfl⟩ | exact ⟨rfl, rfl, rfl⟩)) | ((first | apply go_loadv | apply go_append0 | apply go_beyond); · (simp (disch := omega) [go_sem, *, -List.reduceReplicate]; try first | rfl | exact ⟨rfl, rfl⟩ | exact ⟨rfl, rfl, rfl⟩)) | (apply go_appself; · (simp (disch := omega) [go_sem, *, -List.reduceReplicate]; try first | rfl | exact ⟨rfl, rfl⟩ | exact ⟨rfl, rfl, rfl⟩)) | ((first | (apply go_appendz; · rfl) | (apply go_new; · rfl) | (apply go_pure; · rfl)); · (simp (disch := omega) [go_sem, *, -List.reduceReplicate]; try first | rfl | exact ⟨rfl, rfl⟩ | exact ⟨rfl, rfl, rfl⟩)) | ((apply go_glob; · assumption); · (simp (disch := omega) [go_sem, *, -List.reduceReplicate]; try first | rfl | exact ⟨rfl, rfl⟩ | exact ⟨rfl, rfl, rfl⟩)) | (apply go_read1; (· rfl); · (simp (disch := omega) [go_sem, *, -List.reduceReplicate]; try first | rfl | exact ⟨rfl, rfl⟩ | exact ⟨rfl, rfl, rfl⟩)) | (apply go_rw1; (· rfl); · (simp (disch := omega) [go_sem, *, -List.reduceReplicate]; try first | rfl | exact ⟨rfl, rfl⟩ | exact ⟨rfl, rfl, rfl⟩)) | (apply go_new1; (· rfl); · (simp (disch := omega) [go_sem, *, -List.reduceReplicate]; try first | rfl | exact ⟨rfl, rfl⟩ | exact ⟨rfl, rfl, rfl⟩)) | (apply go_conv; · (simp (disch := omega) [go_sem, *, -List.reduceReplicate]; try first | rfl | exact ⟨rfl, rfl⟩ | exact ⟨rfl, rfl, rfl⟩)) | ((first | (apply go_new; · rfl) | (apply go_pure; · rfl)); · (simp (disch := omega) [go_sem, *, -List.reduceReplicate]; simp [go_sem, *]; try first | rfl | exact ⟨rfl, rfl⟩)) | (apply go_condT; · (simp (disch := omega) [go_sem, *, -List.reduceReplicate]; try first | rfl | omega; done)) | (apply go_condF; · (simp (disch := omega) [go_sem, *, -List.reduceReplicate]; try first | rfl | omega; done)) | (obtain ⟨hcall, hcs⟩ := hcs; refine go_callw (hcall _) (by simp (disch := omega) [go_sem, *, -List.reduceReplicate]; try rfl) (by simp (disch := omega) [go_sem, *, -List.reduceReplicate]; repeat' first | exact ALe.nil | exact AV.le_refl _ | exact AV.le_nils | exact AV.le_own _ _ | apply ALe.cons | apply AV.sub_agg) (by simp (disch := omega) [go_sem, *, -List.reduceReplicate]) ?_; clear hcall))
    refine go_result (by simp (disch := omega) [go_sem, *, -List.reduceReplicate]; rfl) (by simp (disch := omega) [go_sem]; try rfl) (fun id hid => by simp (disch := omega) only [upd_ne, wr_cons, wr_nil]; try exact hlow id hid)

theorem CopiedM0_spec (d : Dv) (h0 : d.a0.length ≤ 1000000) (h1 : d.a1.length ≤ 1000000) (k : Nat) :
    ACall Tryd.prog 63 [devAV d] k [] (devM (.ms k 1 1 0 d.a0.length) (bAV d.a1) d) [(k, .mrow 1 5 1 (d.a0.map byteAV))] := by
  have c0 := CloneM_spec d.a0 (by omega)
  have c1 := Clone_spec d.a1 (by omega)
  obtain ⟨a0, a1, act, cap, wr_, cutAt, torn, off⟩ := d
  simp only [devAV, devM, bAV] at *
  refine ACall.of_body mixed Tryd.func63 rfl (by kernel_rfl) Tryd.ntmps63 (by kernel_rfl) rfl (by simp) (by simp) (by simp) fun σ N hp hpn hk hkn hfree => ?_
  repeat (first | apply go_nil | apply go_kreg | apply go_kreg0 | apply go_kreg1 | (apply go_kregT; · (first | (simp [addT, CF, CFy, Ind, DisjF]; done) | (simp only [addT, CF, CFy, Ind]; repeat' (first | exact trivial | apply And.intro | exact Or.inl (by decide +kernel) | (refine Or.inr ⟨?_, ?_⟩ <;> (simp; try omega)))))) | apply go_then | apply go_then_exit | apply go_then_ret | apply go_blk | apply go_blk_ret | apply go_blk_here | (apply go_blk_there; · rfl) | apply go_seq | (apply go_region; · (simp only [List.length_cons, List.length_nil, Nat.reduceAdd, Nat.add_assoc]; rfl)) | apply go_skip | apply go_block | apply go_scope | apply go_label | apply go_exit | apply go_ret | (apply go_mut; (· assumption); · (simp (disch := omega) [go_sem, *, -List.reduceReplicate]; first | exact ⟨rfl, rfl⟩ | (simp [go_sem, *]; exact ⟨rfl, rfl⟩))) | (apply go_mutP; (· assumption); · (simp (disch := omega) [go_sem, *, -List.reduceReplicate]; try first | rfl | exact ⟨rfl, rfl⟩ | exact ⟨rfl, rfl, rfl⟩)) | (apply go_guard_in; (· rfl); · (simp (disch := omega) [go_sem, *, -List.reduceReplicate]; try first | rfl | omega)) | (apply go_guard_off; (· rfl); · (simp (disch := omega) [go_sem, *, -List.reduceReplicate]; try first | rfl | omega)) | (apply go_guard_no; (· rfl); · (simp (disch := omega) [go_sem, *, -List.reduceReplicate]; try rfl)) | ((first | apply go_move | apply go_assign | apply go_load | apply go_store | apply go_append | apply go_copy | apply go_copy0 | apply go_clear0 | apply go_slice3 | apply go_indexA); · (simp (disch := omega) [go_sem, *, -List.reduceReplicate]; try first | rfl | exact ⟨rfl, rfl⟩ | exact ⟨rfl, rfl, rfl⟩)) | ((first | apply go_loadv | apply go_append0 | apply go_beyond); · (simp (disch := omega) [go_sem, *, -List.reduceReplicate]; try first | rfl | exact ⟨rfl, rfl⟩ | exact ⟨rfl, rfl, rfl⟩)) | (apply go_appself; · (simp (disch := omega) [go_sem, *, -List.reduceReplicate]; try first | rfl | exact ⟨rfl, rfl⟩ | exact ⟨rfl, rfl, rfl⟩)) | ((first | (apply go_appendz; · rfl) | (apply go_new; · rfl) | (apply go_pure; · rfl)); · (simp (disch := omega) [go_sem, *, -List.reduceReplicate]; try first | rfl | exact ⟨rfl, rfl⟩ | exact ⟨rfl, rfl, rfl⟩)) | ((apply go_glob; · assumption); · (simp (disch := omega) [go_sem, *, -List.reduceReplicate]; try first | rfl | exact ⟨rfl, rfl⟩ | exact ⟨rfl, rfl, rfl⟩)) | (apply go_read1; (· rfl); · (simp (disch := omega) [go_sem, *, -List.reduceReplicate]; try first | rfl | exact ⟨rfl, rfl⟩ | exact ⟨rfl, rfl, rfl⟩)) | (apply go_rw1; (· rfl); · (simp (disch := omega) [go_sem, *, -List.reduceReplicate]; try first | rfl | exact ⟨rfl, rfl⟩ | exact ⟨rfl, rfl, rfl⟩)) | (apply go_new1; (· rfl); · (simp (disch := omega) [go_sem, *, -List.reduceReplicate]; try first | rfl | exact ⟨rfl, rfl⟩ | exact ⟨rfl, rfl, rfl⟩)) | (apply go_conv; · (simp (disch := omega) [go_sem, *, -List.reduceReplicate]; try first | rfl | exact ⟨rfl, rfl⟩ | exact ⟨rfl, rfl, rfl⟩)) | ((first | (apply go_new; · rfl) | (apply go_pure; · rfl)); · (simp (disch := omega) [go_sem, *, -List.reduceReplicate]; simp [go_sem, *]; try first | rfl | exact ⟨rfl, rfl⟩)) | (apply go_condT; · (simp (disch := omega) [go_sem, *, -List.reduceReplicate]; try first | rfl | omega; done)) | (apply go_condF; · (simp (disch := omega) [go_sem, *, -List.reduceReplicate]; try first | rfl | omega; done)) | (obtain ⟨hcall, hcs⟩ := hcs; refine go_callw (hcall _) (by simp (disch := omega) [go_sem, *, -List.reduceReplicate]; try rfl) (by simp (disch := omega) [go_sem, *, -List.reduceReplicate]; repeat' first | exact ALe.nil | exact AV.le_refl _ | exact AV.le_nils | exact AV.le_own _ _ | apply ALe.cons | apply AV.sub_agg) (by simp (disch := omega) [go_sem, *, -List.reduceReplicate]) ?_; clear hcall))
  refine go_loop (aloop mixed (by kernel_rfl) (fun c => ∃ (u : Nat), c.s 1 = .ptr N [] 0 ∧ c.s 2 = .ptr (N + 1) [] 0 ∧ c.s 4 = .lit (.int .i64 u) ∧ u ≤ 2 ∧ ((u = 0 ∧ c.σ N = .box 49 (devAV ⟨a0, a1, act, cap, wr_, cutAt, torn, off⟩)) ∨ (1 ≤ u ∧ ∃ r, N + 2 ≤ r ∧ r < c.n ∧ c.σ N = .box 49 (devM (.ms r 1 1 0 a0.length) (bAV a1) ⟨a0, a1, act, cap, wr_, cutAt, torn, off⟩) ∧ c.σ r = .mrow 1 5 1 (a0.map byteAV))) ∧ c.σ (N + 1) = .box 49 devZ ∧ N + 2 ≤ c.n ∧ (∀ id, id < N → c.σ id = σ id))
    (fun c => match c.s 4 with | .lit (.int _ m) => 2 - m.toNat | _ => 0) ⟨0, by simp (disch := omega) [go_sem, *, -List.reduceReplicate], by simp (disch := omega) [go_sem, *, -List.reduceReplicate], by simp (disch := omega) [go_sem, *, -List.reduceReplicate], by omega, .inl ⟨rfl, by simp (disch := omega) [go_sem, *, -List.reduceReplicate]; rfl⟩, by simp (disch := omega) [go_sem, *, -List.reduceReplicate]; rfl, by simp only; omega, (fun id hid => by simp (disch := omega) only [upd_ne, wr_cons, wr_nil]; try exact hlow id hid)⟩ ?_)
  rintro ⟨s1, σ', n'⟩ ⟨u, q1, q2, q4, hu, qb, qc, hn', hlow⟩
  simp only [devAV, devM, bAV, devZ] at q1 q2 q4 qb qc hn' hlow
  have hcase : u = 0 ∨ u = 1 ∨ u = 2 := by omega
  rcases hcase with rfl | rfl | rfl
  · rcases qb with ⟨_, qb⟩ | ⟨hh, _⟩
    · have hcs := And.intro c0 True.intro
      repeat (first | apply go_nil | apply go_kreg | apply go_kreg0 | apply go_kreg1 | (apply go_kregT; · (first | (simp [addT, CF, CFy, Ind, DisjF]; done) | (simp only [addT, CF, CFy, Ind]; repeat' (first | exact trivial | apply And.intro | exact Or.inl (by decide +kernel) | (refine Or.inr ⟨?_, ?_⟩ <;> (simp; try omega)))))) | apply go_then | apply go_then_exit | apply go_then_ret | apply go_blk | apply go_blk_ret | apply go_blk_here | (apply go_blk_there; · rfl) | apply go_seq | (apply go_region; · (simp only [List.length_cons, List.length_nil, Nat.reduceAdd, Nat.add_assoc]; rfl)) | apply go_skip | apply go_block | apply go_scope | apply go_label | apply go_exit | apply go_ret | (apply go_mut; (· assumption); · (simp (disch := omega) [go_sem, *, -List.reduceReplicate]; first | exact ⟨rfl, rfl⟩ | (simp [go_sem, *]; exact ⟨rfl, rfl⟩))) | (apply go_mutP; (· assumption); · (simp (disch := omega) [go_sem, *, -List.reduceReplicate]; try first | rfl | exact ⟨rfl, rfl⟩ | exact ⟨rfl, rfl, rfl⟩)) | (apply go_guard_in; (· rfl); · (simp (disch := omega) [go_sem, *, -List.reduceReplicate]; try first | rfl | omega)) | (apply go_guard_off; (· rfl); · (simp (disch := omega) [go_sem, *, -List.reduceReplicate]; try first | rfl | omega)) | (apply go_guard_no; (· rfl); · (simp (disch := omega) [go_sem, *, -List.reduceReplicate]; try rfl)) | ((first | apply go_move | apply go_assign | apply go_load | apply go_store | apply go_append | apply go_copy | apply go_copy0 | apply go_clear0 | apply go_slice3 | apply go_indexA); · (simp (disch := omega) [go_sem, *, -List.reduceReplicate]; try first | rfl | exact ⟨rfl, rfl⟩ | exact ⟨rfl, rfl, rfl⟩)) | ((first | apply go_loadv | apply go_append0 | apply go_beyond); · (simp (disch := omega) [go_sem, *, -List.reduceReplicate]; try first | rfl | exact ⟨rfl, rfl⟩ | exact ⟨rfl, rfl, rfl⟩)) | (apply go_appself; · (simp (disch := omega) [go_sem, *, -List.reduceReplicate]; try first | rfl | exact ⟨rfl, rfl⟩ | exact ⟨rfl, rfl, rfl⟩)) | ((first | (apply go_appendz; · rfl) | (apply go_new; · rfl) | (apply go_pure; · rfl)); · (simp (disch := omega) [go_sem, *, -List.reduceReplicate]; try first | rfl | exact ⟨rfl, rfl⟩ | exact ⟨rfl, rfl, rfl⟩)) | ((apply go_glob; · assumption); · (simp (disch := omega) [go_sem, *, -List.reduceReplicate]; try first | rfl | exact ⟨rfl, rfl⟩ | exact ⟨rfl, rfl, rfl⟩)) | (apply go_read1; (· rfl); · (simp (disch := omega) [go_sem, *, -List.reduceReplicate]; try first | rfl | exact ⟨rfl, rfl⟩ | exact ⟨rfl, rfl, rfl⟩)) | (apply go_rw1; (· rfl); · (simp (disch := omega) [go_sem, *, -List.reduceReplicate]; try first | rfl | exact ⟨rfl, rfl⟩ | exact ⟨rfl, rfl, rfl⟩)) | (apply go_new1; (· rfl); · (simp (disch := omega) [go_sem, *, -List.reduceReplicate]; try first | rfl | exact ⟨rfl, rfl⟩ | exact ⟨rfl, rfl, rfl⟩)) | (apply go_conv; · (simp (disch := omega) [go_sem, *, -List.reduceReplicate]; try first | rfl | exact ⟨rfl, rfl⟩ | exact ⟨rfl, rfl, rfl⟩)) | ((first | (apply go_new; · rfl) | (apply go_pure; · rfl)); · (simp (disch := omega) [go_sem, *, -List.reduceReplicate]; simp [go_sem, *]; try first | rfl | exact ⟨rfl, rfl⟩)) | (apply go_condT; · (simp (disch := omega) [go_sem, *, -List.reduceReplicate]; try first | rfl | omega; done)) | (apply go_condF; · (simp (disch := omega) [go_sem, *, -List.reduceReplicate]; try first | rfl | omega; done)) | (obtain ⟨hcall, hcs⟩ := hcs; refine go_callw (hcall _) (by simp (disch := omega) [go_sem, *, -List.reduceReplicate]; try rfl) (by simp (disch := omega) [go_sem, *, -List.reduceReplicate]; repeat' first | exact ALe.nil | exact AV.le_refl _ | exact AV.le_nils | exact AV.le_own _ _ | apply ALe.cons | apply AV.sub_agg) (by simp (disch := omega) [go_sem, *, -List.reduceReplicate]) ?_; clear hcall))
      refine ⟨⟨1, by simp (disch := omega) [go_sem, *, -List.reduceReplicate], by simp (disch := omega) [go_sem, *, -List.reduceReplicate], by simp (disch := omega) [go_sem, *, -List.reduceReplicate], by omega, .inr ⟨by omega, _, ?_, ?_, by simp (disch := omega) [go_sem, *, -List.reduceReplicate]; rfl, by simp (disch := omega) [go_sem, *, -List.reduceReplicate]⟩, by simp (disch := omega) [go_sem, *, -List.reduceReplicate]; rfl, by simp only; omega, (fun id hid => by simp (disch := omega) only [upd_ne, wr_cons, wr_nil]; try exact hlow id hid)⟩, by simp (disch := omega) [go_sem, *, -List.reduceReplicate]⟩
      · omega
      · simp only; omega
    · omega
  · rcases qb with ⟨hh, _⟩ | ⟨_, r, hr1, hr2, qb, qr⟩
    · omega
    · have hcs := And.intro c1 True.intro
      repeat (first | apply go_nil | apply go_kreg | apply go_kreg0 | apply go_kreg1 | (apply go_kregT; · (first | (simp [addT, CF, CFy, Ind, DisjF]; done) | (simp only [addT, CF, CFy, Ind]; repeat' (first | exact trivial | apply And.intro | exact Or.inl (by decide +kernel) | (refine Or.inr ⟨?_, ?_⟩ <;> (simp; try omega)))))) | apply go_then | apply go_then_exit | apply go_then_ret | apply go_blk | apply go_blk_ret | apply go_blk_here | (apply go_blk_there; · rfl) | apply go_seq | (apply go_region; · (simp only [List.length_cons, List.length_nil, Nat.reduceAdd, Nat.add_assoc]; rfl)) | apply go_skip | apply go_block | apply go_scope | apply go_label | apply go_exit | apply go_ret | (apply go_mut; (· assumption); · (simp (disch := omega) [go_sem, *, -List.reduceReplicate]; first | exact ⟨rfl, rfl⟩ | (simp [go_sem, *]; exact ⟨rfl, rfl⟩))) | (apply go_mutP; (· assumption); · (simp (disch := omega) [go_sem, *, -List.reduceReplicate]; try first | rfl | exact ⟨rfl, rfl⟩ | exact ⟨rfl, rfl, rfl⟩)) | (apply go_guard_in; (· rfl); · (simp (disch := omega) [go_sem, *, -List.reduceReplicate]; try first | rfl | omega)) | (apply go_guard_off; (· rfl); · (simp (disch := omega) [go_sem, *, -List.reduceReplicate]; try first | rfl | omega)) | (apply go_guard_no; (· rfl); · (simp (disch := omega) [go_sem, *, -List.reduceReplicate]; try rfl)) | ((first | apply go_move | apply go_assign | apply go_load | apply go_store | apply go_append | apply go_copy | apply go_copy0 | apply go_clear0 | apply go_slice3 | apply go_indexA); · (simp (disch := omega) [go_sem, *, -List.reduceReplicate]; try first | rfl | exact ⟨rfl, rfl⟩ | exact ⟨rfl, rfl, rfl⟩)) | ((first | apply go_loadv | apply go_append0 | apply go_beyond); · (simp (disch := omega) [go_sem, *, -List.reduceReplicate]; try first | rfl | exact ⟨rfl, rfl⟩ | exact ⟨rfl, rfl, rfl⟩)) | (apply go_appself; · (simp (disch := omega) [go_sem, *, -List.reduceReplicate]; try first | rfl | exact ⟨rfl, rfl⟩ | exact ⟨rfl, rfl, rfl⟩)) | ((first | (apply go_appendz; · rfl) | (apply go_new; · rfl) | (apply go_pure; · rfl)); · (simp (disch := omega) [go_sem, *, -List.reduceReplicate]; try first | rfl | exact ⟨rfl, rfl⟩ | exact ⟨rfl, rfl, rfl⟩)) | ((apply go_glob; · assumption); · (simp (disch := omega) [go_sem, *, -List.reduceReplicate]; try first | rfl | exact ⟨rfl, rfl⟩ | exact ⟨rfl, rfl, rfl⟩)) | (apply go_read1; (· rfl); · (simp (disch := omega) [go_sem, *, -List.reduceReplicate]; try first | rfl | exact ⟨rfl, rfl⟩ | exact ⟨rfl, rfl, rfl⟩)) | (apply go_rw1; (· rfl); · (simp (disch := omega) [go_sem, *, -List.reduceReplicate]; try first | rfl | exact ⟨rfl, rfl⟩ | exact ⟨rfl, rfl, rfl⟩)) | (apply go_new1; (· rfl); · (simp (disch := omega) [go_sem, *, -List.reduceReplicate]; try first | rfl | exact ⟨rfl, rfl⟩ | exact ⟨rfl, rfl, rfl⟩)) | (apply go_conv; · (simp (disch := omega) [go_sem, *, -List.reduceReplicate]; try first | rfl | exact ⟨rfl, rfl⟩ | exact ⟨rfl, rfl, rfl⟩)) | ((first | (apply go_new; · rfl) | (apply go_pure; · rfl)); · (simp (disch := omega) [go_sem, *, -List.reduceReplicate]; simp [go_sem, *]; try first | rfl | exact ⟨rfl, rfl⟩)) | (apply go_condT; · (simp (disch := omega) [go_sem, *, -List.reduceReplicate]; try first | rfl | omega; done)) | (apply go_condF; · (simp (disch := omega) [go_sem, *, -List.reduceReplicate]; try first | rfl | omega; done)) | (obtain ⟨hcall, hcs⟩ := hcs; refine go_callw (hcall _) (by simp (disch := omega) [go_sem, *, -List.reduceReplicate]; try rfl) (by simp (disch := omega) [go_sem, *, -List.reduceReplicate]; repeat' first | exact ALe.nil | exact AV.le_refl _ | exact AV.le_nils | exact AV.le_own _ _ | apply ALe.cons | apply AV.sub_agg) (by simp (disch := omega) [go_sem, *, -List.reduceReplicate]) ?_; clear hcall))
      refine ⟨⟨2, by simp (disch := omega) [go_sem, *, -List.reduceReplicate], by simp (disch := omega) [go_sem, *, -List.reduceReplicate], by simp (disch := omega) [go_sem, *, -List.reduceReplicate], by omega, .inr ⟨by omega, r, hr1, by simp only; omega, by simp (disch := omega) [go_sem, *, -List.reduceReplicate]; rfl, by simp (disch := omega) [go_sem, *, -List.reduceReplicate]⟩, by simp (disch := omega) [go_sem, *, -List.reduceReplicate]; rfl, by simp only; omega, (fun id hid => by simp (disch := omega) only [upd_ne, wr_cons, wr_nil]; try exact hlow id hid)⟩, by simp (disch := omega) [go_sem, *, -List.reduceReplicate]⟩
  · rcases qb with ⟨hh, _⟩ | ⟨_, r, hr1, hr2, qb, qr⟩
    · omega
    · repeat (first | apply go_nil | apply go_kreg | apply go_kreg0 | apply go_kreg1 | (apply go_kregT; · (first | (simp [addT, CF, CFy, Ind, DisjF]; done) | (simp only [addT, CF, CFy, Ind]; repeat' (first | exact trivial | apply And.intro | exact Or.inl (by decide +kernel) | (refine Or.inr ⟨?_, ?_⟩ <;> (simp; try omega)))))) | apply go_then | apply go_then_exit | apply go_then_ret | apply go_blk | apply go_blk_ret | apply go_blk_here | (apply go_blk_there; · rfl) | apply go_seq | (apply go_region; · (simp only [List.length_cons, List.length_nil, Nat.reduceAdd, Nat.add_assoc]; rfl)) | apply go_skip | apply go_block | apply go_scope | apply go_label | apply go_exit | apply go_ret | (apply go_mut; (· assumption); · (simp (disch := omega) [go_sem, *, -List.reduceReplicate]; first | exact ⟨rfl, rfl⟩ | (simp [go_sem, *]; exact ⟨rfl, rfl⟩))) | (apply go_mutP; (· assumption); · (simp (disch := omega) [go_sem, *, -List.reduceReplicate]; try first | rfl | exact ⟨rfl, rfl⟩ | exact ⟨rfl, rfl, rfl⟩)) | (apply go_guard_in; (· rfl); · (simp (disch := omega) [go_sem, *, -List.reduceReplicate]; try first | rfl | omega)) | (apply go_guard_off; (· rfl); · (simp (disch := omega) [go_sem, *, -List.reduceReplicate]; try first | rfl | omega)) | (apply go_guard_no; (· rfl); · (simp (disch := omega) [go_sem, *, -List.reduceReplicate]; try rfl)) | ((first | apply go_move | apply go_assign | apply go_load | apply go_store | apply go_append | apply go_copy | apply go_copy0 | apply go_clear0 | apply go_slice3 | apply go_indexA); · (simp (disch := omega) [go_sem, *, -List.reduceReplicate]; try first | rfl | exact ⟨rfl, rfl⟩ | exact ⟨rfl, rfl, rfl⟩)) | ((first | apply go_loadv | apply go_append0 | apply go_beyond); · (simp (disch := omega) [go_sem, *, -List.reduceReplicate]; try first | rfl | exact ⟨rfl, rfl⟩ | exact ⟨rfl, rfl, rfl⟩)) | (apply go_appself; · (simp (disch := omega) [go_sem, *, -List.reduceReplicate]; try first | rfl | exact ⟨rfl, rfl⟩ | exact ⟨rfl, rfl, rfl⟩)) | ((first | (apply go_appendz; · rfl) | (apply go_new; · rfl) | (apply go_pure; · rfl)); · (simp (disch := omega) [go_sem, *, -List.reduceReplicate]; try first | rfl | exact ⟨rfl, rfl⟩ | exact ⟨rfl, rfl, rfl⟩)) | ((apply go_glob; · assumption); · (simp (disch := omega) [go_sem, *, -List.reduceReplicate]; try first | rfl | exact ⟨rfl, rfl⟩ | exact ⟨rfl, rfl, rfl⟩)) | (apply go_read1; (· rfl); · (simp (disch := omega) [go_sem, *, -List.reduceReplicate]; try first | rfl | exact ⟨rfl, rfl⟩ | exact ⟨rfl, rfl, rfl⟩)) | (apply go_rw1; (· rfl); · (simp (disch := omega) [go_sem, *, -List.reduceReplicate]; try first | rfl | exact ⟨rfl, rfl⟩ | exact ⟨rfl, rfl, rfl⟩)) | (apply go_new1; (· rfl); · (simp (disch := omega) [go_sem, *, -List.reduceReplicate]; try first | rfl | exact ⟨rfl, rfl⟩ | exact ⟨rfl, rfl, rfl⟩)) | (apply go_conv; · (simp (disch := omega) [go_sem, *, -List.reduceReplicate]; try first | rfl | exact ⟨rfl, rfl⟩ | exact ⟨rfl, rfl, rfl⟩)) | ((first | (apply go_new; · rfl) | (apply go_pure; · rfl)); · (simp (disch := omega) [go_sem, *, -List.reduceReplicate]; simp [go_sem, *]; try first | rfl | exact ⟨rfl, rfl⟩)) | (apply go_condT; · (simp (disch := omega) [go_sem, *, -List.reduceReplicate]; try first | rfl | omega; done)) | (apply go_condF; · (simp (disch := omega) [go_sem, *, -List.reduceReplicate]; try first | rfl | omega; done)) | (obtain ⟨hcall, hcs⟩ := hcs; refine go_callw (hcall _) (by simp (disch := omega) [go_sem, *, -List.reduceReplicate]; try rfl) (by simp (disch := omega) [go_sem, *, -List.reduceReplicate]; repeat' first | exact ALe.nil | exact AV.le_refl _ | exact AV.le_nils | exact AV.le_own _ _ | apply ALe.cons | apply AV.sub_agg) (by simp (disch := omega) [go_sem, *, -List.reduceReplicate]) ?_; clear hcall))
      refine go_result1 (r0 := r) (by simp (disch := omega) [go_sem, *, -List.reduceReplicate]; rfl) (by omega) (by simp (disch := omega) [go_sem]; try rfl) (fun id hid => by simp (disch := omega) only [upd_ne, wr_cons, wr_nil]; try exact hlow id hid) (by simp (disch := omega) [go_sem, *, -List.reduceReplicate]; rfl) (by simp (disch := omega) [go_sem])

theorem CopiedM1_spec (d : Dv) (h0 : d.a0.length ≤ 1000000) (h1 : d.a1.length ≤ 1000000) (k : Nat) :
    ACall Tryd.prog 63 [devAV d] k [] (devM (bAV d.a0) (.ms k 1 1 0 d.a1.length) d) [(k, .mrow 1 5 1 (d.a1.map byteAV))] := by
  have c0 := Clone_spec d.a0 (by omega)
  have c1 := CloneM_spec d.a1 (by omega)
  obtain ⟨a0, a1, act, cap, wr_, cutAt, torn, off⟩ := d
  simp only [devAV, devM, bAV] at *
  refine ACall.of_body mixed Tryd.func63 rfl (by kernel_rfl) Tryd.ntmps63 (by kernel_rfl) rfl (by simp) (by simp) (by simp) fun σ N hp hpn hk hkn hfree => ?_
  repeat (first | apply go_nil | apply go_kreg | apply go_kreg0 | apply go_kreg1 | (apply go_kregT; · (first | (simp [addT, CF, CFy, Ind, DisjF]; done) | (simp only [addT, CF, CFy, Ind]; repeat' (first | exact trivial | apply And.intro | exact Or.inl (by decide +kernel) | (refine Or.inr ⟨?_, ?_⟩ <;> (simp; try omega)))))) | apply go_then | apply go_then_exit | apply go_then_ret | apply go_blk | apply go_blk_ret | apply go_blk_here | (apply go_blk_there; · rfl) | apply go_seq | (apply go_region; · (simp only [List.length_cons, List.length_nil, Nat.reduceAdd, Nat.add_assoc]; rfl)) | apply go_skip | apply go_block | apply go_scope | apply go_label | apply go_exit | apply go_ret | (apply go_mut; (· assumption); · (simp (disch := omega) [go_sem, *, -List.reduceReplicate]; first | exact ⟨rfl, rfl⟩ | (simp [go_sem, *]; exact ⟨rfl, rfl⟩))) | (apply go_mutP; (· assumption); · (simp (disch := omega) [go_sem, *, -List.reduceReplicate]; try first | rfl | exact ⟨rfl, rfl⟩ | exact ⟨rfl, rfl, rfl⟩)) | (apply go_guard_in; (· rfl); · (simp (disch := omega) [go_sem, *, -List.reduceReplicate]; try first | rfl | omega)) | (apply go_guard_off; (· rfl); · (simp (disch := omega) [go_sem, *, -List.reduceReplicate]; try first | rfl | omega)) | (apply go_guard_no; (· rfl); · (simp (disch := omega) [go_sem, *, -List.reduceReplicate]; try rfl)) | ((first | apply go_move | apply go_assign | apply go_load | apply go_store | apply go_append | apply go_copy | apply go_copy0 | apply go_clear0 | apply go_slice3 | apply go_indexA); · (simp (disch := omega) [go_sem, *, -List.reduceReplicate]; try first | rfl | exact ⟨rfl, rfl⟩ | exact ⟨rfl, rfl, rfl⟩)) | ((first | apply go_loadv | apply go_append0 | apply go_beyond); · (simp (disch := omega) [go_sem, *, -List.reduceReplicate]; try first | rfl | exact ⟨rfl, rfl⟩ | exact ⟨rfl, rfl, rfl⟩)) | (apply go_appself; · (simp (disch := omega) [go_sem, *, -List.reduceReplicate]; try first | rfl | exact ⟨rfl, rfl⟩ | exact ⟨rfl, rfl, rfl⟩)) | ((first | (apply go_appendz; · rfl) | (apply go_new; · rfl) | (apply go_pure; · rfl)); · (simp (disch := omega) [go_sem, *, -List.reduceReplicate]; try first | rfl | exact ⟨rfl, rfl⟩ | exact ⟨rfl, rfl, rfl⟩)) | ((apply go_glob; · assumption); · (simp (disch := omega) [go_sem, *, -List.reduceReplicate]; try first | rfl | exact ⟨rfl, rfl⟩ | exact ⟨rfl, rfl, rfl⟩)) | (apply go_read1; (· rfl); · (simp (disch := omega) [go_sem, *, -List.reduceReplicate]; try first | rfl | exact ⟨rfl, rfl⟩ | exact ⟨rfl, rfl, rfl⟩)) | (apply go_rw1; (· rfl); · (simp (disch := omega) [go_sem, *, -List.reduceReplicate]; try first | rfl | exact ⟨rfl, rfl⟩ | exact ⟨rfl, rfl, rfl⟩)) | (apply go_new1; (· rfl); · (simp (disch := omega) [go_sem, *, -List.reduceReplicate]; try first | rfl | exact ⟨rfl, rfl⟩ | exact ⟨rfl, rfl, rfl⟩)) | (apply go_conv; · (simp (disch := omega) [go_sem, *, -List.reduceReplicate]; try first | rfl | exact ⟨rfl, rfl⟩ | exact ⟨rfl, rfl, rfl⟩)) | ((first | (apply go_new; · rfl) | (apply go_pure; · rfl)); · (simp (disch := omega) [go_sem, *, -List.reduceReplicate]; simp [go_sem, *]; try first | rfl | exact ⟨rfl, rfl⟩)) | (apply go_condT; · (simp (disch := omega) [go_sem, *, -List.reduceReplicate]; try first | rfl | omega; done)) | (apply go_condF; · (simp (disch := omega) [go_sem, *, -List.reduceReplicate]; try first | rfl | omega; done)) | (obtain ⟨hcall, hcs⟩ := hcs; refine go_callw (hcall _) (by simp (disch := omega) [go_sem, *, -List.reduceReplicate]; try rfl) (by simp (disch := omega) [go_sem, *, -List.reduceReplicate]; repeat' first | exact ALe.nil | exact AV.le_refl _ | exact AV.le_nils | exact AV.le_own _ _ | apply ALe.cons | apply AV.sub_agg) (by simp (disch := omega) [go_sem, *, -List.reduceReplicate]) ?_; clear hcall))
  refine go_loop (aloop mixed (by kernel_rfl) (fun c => ∃ (u : Nat), c.s 1 = .ptr N [] 0 ∧ c.s 2 = .ptr (N + 1) [] 0 ∧ c.s 4 = .lit (.int .i64 u) ∧ u ≤ 2 ∧ ((u ≤ 1 ∧ c.σ N = .box 49 (devAV ⟨a0, a1, act, cap, wr_, cutAt, torn, off⟩)) ∨ (u = 2 ∧ ∃ r, N + 2 ≤ r ∧ r < c.n ∧ c.σ N = .box 49 (devM (bAV a0) (.ms r 1 1 0 a1.length) ⟨a0, a1, act, cap, wr_, cutAt, torn, off⟩) ∧ c.σ r = .mrow 1 5 1 (a1.map byteAV))) ∧ c.σ (N + 1) = .box 49 devZ ∧ N + 2 ≤ c.n ∧ (∀ id, id < N → c.σ id = σ id))
    (fun c => match c.s 4 with | .lit (.int _ m) => 2 - m.toNat | _ => 0) ⟨0, by simp (disch := omega) [go_sem, *, -List.reduceReplicate], by simp (disch := omega) [go_sem, *, -List.reduceReplicate], by simp (disch := omega) [go_sem, *, -List.reduceReplicate], by omega, .inl ⟨by omega, by simp (disch := omega) [go_sem, *, -List.reduceReplicate]; rfl⟩, by simp (disch := omega) [go_sem, *, -List.reduceReplicate]; rfl, by simp only; omega, (fun id hid => by simp (disch := omega) only [upd_ne, wr_cons, wr_nil]; try exact hlow id hid)⟩ ?_)
  rintro ⟨s1, σ', n'⟩ ⟨u, q1, q2, q4, hu, qb, qc, hn', hlow⟩
  simp only [devAV, devM, bAV, devZ] at q1 q2 q4 qb qc hn' hlow
  have hcase : u = 0 ∨ u = 1 ∨ u = 2 := by omega
  rcases hcase with rfl | rfl | rfl
  · rcases qb with ⟨_, qb⟩ | ⟨hh, _⟩
    · have hcs := And.intro c0 True.intro
      repeat (first | apply go_nil | apply go_kreg | apply go_kreg0 | apply go_kreg1 | (apply go_kregT; · (first | (simp [addT, CF, CFy, Ind, DisjF]; done) | (simp only [addT, CF, CFy, Ind]; repeat' (first | exact trivial | apply And.intro | exact Or.inl (by decide +kernel) | (refine Or.inr ⟨?_, ?_⟩ <;> (simp; try omega)))))) | apply go_then | apply go_then_exit | apply go_then_ret | apply go_blk | apply go_blk_ret | apply go_blk_here | (apply go_blk_there; · rfl) | apply go_seq | (apply go_region; · (simp only [List.length_cons, List.length_nil, Nat.reduceAdd, Nat.add_assoc]; rfl)) | apply go_skip | apply go_block | apply go_scope | apply go_label | apply go_exit | apply go_ret | (apply go_mut; (· assumption); · (simp (disch := omega) [go_sem, *, -List.reduceReplicate]; first | exact ⟨rfl, rfl⟩ | (simp [go_sem, *]; exact ⟨rfl, rfl⟩))) | (apply go_mutP; (· assumption); · (simp (disch := omega) [go_sem, *, -List.reduceReplicate]; try first | rfl | exact ⟨rfl, rfl⟩ | exact ⟨rfl, rfl, rfl⟩)) | (apply go_guard_in; (· rfl); · (simp (disch := omega) [go_sem, *, -List.reduceReplicate]; try first | rfl | omega)) | (apply go_guard_off; (· rfl); · (simp (disch := omega) [go_sem, *, -List.reduceReplicate]; try first | rfl | omega)) | (apply go_guard_no; (· rfl); · (simp (disch := omega) [go_sem, *, -List.reduceReplicate]; try rfl)) | ((first | apply go_move | apply go_assign | apply go_load | apply go_store | apply go_append | apply go_copy | apply go_copy0 | apply go_clear0 | apply go_slice3 | apply go_indexA); · (simp (disch := omega) [go_sem, *, -List.reduceReplicate]; try first | rfl | exact ⟨rfl, rfl⟩ | exact ⟨rfl, rfl, rfl⟩)) | ((first | apply go_loadv | apply go_append0 | apply go_beyond); · (simp (disch := omega) [go_sem, *, -List.reduceReplicate]; try first | rfl | exact ⟨rfl, rfl⟩ | exact ⟨rfl, rfl, rfl⟩)) | (apply go_appself; · (simp (disch := omega) [go_sem, *, -List.reduceReplicate]; try first | rfl | exact ⟨rfl, rfl⟩ | exact ⟨rfl, rfl, rfl⟩)) | ((first | (apply go_appendz; · rfl) | (apply go_new; · rfl) | (apply go_pure; · rfl)); · (simp (disch := omega) [go_sem, *, -List.reduceReplicate]; try first | rfl | exact ⟨rfl, rfl⟩ | exact ⟨rfl, rfl, rfl⟩)) | ((apply go_glob; · assumption); · (simp (disch := omega) [go_sem, *, -List.reduceReplicate]; try first | rfl | exact ⟨rfl, rfl⟩ | exact ⟨rfl, rfl, rfl⟩)) | (apply go_read1; (· rfl); · (simp (disch := omega) [go_sem, *, -List.reduceReplicate]; try first | rfl | exact ⟨rfl, rfl⟩ | exact ⟨rfl, rfl, rfl⟩)) | (apply go_rw1; (· rfl); · (simp (disch := omega) [go_sem, *, -List.reduceReplicate]; try first | rfl | exact ⟨rfl, rfl⟩ | exact ⟨rfl, rfl, rfl⟩)) | (apply go_new1; (· rfl); · (simp (disch := omega) [go_sem, *, -List.reduceReplicate]; try first | rfl | exact ⟨rfl, rfl⟩ | exact ⟨rfl, rfl, rfl⟩)) | (apply go_conv; · (simp (disch := omega) [go_sem, *, -List.reduceReplicate]; try first | rfl | exact ⟨rfl, rfl⟩ | exact ⟨rfl, rfl, rfl⟩)) | ((first | (apply go_new; · rfl) | (apply go_pure; · rfl)); · (simp (disch := omega) [go_sem, *, -List.reduceReplicate]; simp [go_sem, *]; try first | rfl | exact ⟨rfl, rfl⟩)) | (apply go_condT; · (simp (disch := omega) [go_sem, *, -List.reduceReplicate]; try first | rfl | omega; done)) | (apply go_condF; · (simp (disch := omega) [go_sem, *, -List.reduceReplicate]; try first | rfl | omega; done)) | (obtain ⟨hcall, hcs⟩ := hcs; refine go_callw (hcall _) (by simp (disch := omega) [go_sem, *, -List.reduceReplicate]; try rfl) (by simp (disch := omega) [go_sem, *, -List.reduceReplicate]; repeat' first | exact ALe.nil | exact AV.le_refl _ | exact AV.le_nils | exact AV.le_own _ _ | apply ALe.cons | apply AV.sub_agg) (by simp (disch := omega) [go_sem, *, -List.reduceReplicate]) ?_; clear hcall))
      refine ⟨⟨1, by simp (disch := omega) [go_sem, *, -List.reduceReplicate], by simp (disch := omega) [go_sem, *, -List.reduceReplicate], by simp (disch := omega) [go_sem, *, -List.reduceReplicate], by omega, .inl ⟨by omega, by simp (disch := omega) [go_sem, *, -List.reduceReplicate]; rfl⟩, by simp (disch := omega) [go_sem, *, -List.reduceReplicate]; rfl, by simp only; omega, (fun id hid => by simp (disch := omega) only [upd_ne, wr_cons, wr_nil]; try exact hlow id hid)⟩, by simp (disch := omega) [go_sem, *, -List.reduceReplicate]⟩
    · omega
  · rcases qb with ⟨_, qb⟩ | ⟨hh, _⟩
    · have hcs := And.intro c1 True.intro
      repeat (first | apply go_nil | apply go_kreg | apply go_kreg0 | apply go_kreg1 | (apply go_kregT; · (first | (simp [addT, CF, CFy, Ind, DisjF]; done) | (simp only [addT, CF, CFy, Ind]; repeat' (first | exact trivial | apply And.intro | exact Or.inl (by decide +kernel) | (refine Or.inr ⟨?_, ?_⟩ <;> (simp; try omega)))))) | apply go_then | apply go_then_exit | apply go_then_ret | apply go_blk | apply go_blk_ret | apply go_blk_here | (apply go_blk_there; · rfl) | apply go_seq | (apply go_region; · (simp only [List.length_cons, List.length_nil, Nat.reduceAdd, Nat.add_assoc]; rfl)) | apply go_skip | apply go_block | apply go_scope | apply go_label | apply go_exit | apply go_ret | (apply go_mut; (· assumption); · (simp (disch := omega) [go_sem, *, -List.reduceReplicate]; first | exact ⟨rfl, rfl⟩ | (simp [go_sem, *]; exact ⟨rfl, rfl⟩))) | (apply go_mutP; (· assumption); · (simp (disch := omega) [go_sem, *, -List.reduceReplicate]; try first | rfl | exact ⟨rfl, rfl⟩ | exact ⟨rfl, rfl, rfl⟩)) | (apply go_guard_in; (· rfl); · (simp (disch := omega) [go_sem, *, -List.reduceReplicate]; try first | rfl | omega)) | (apply go_guard_off; (· rfl); · (simp (disch := omega) [go_sem, *, -List.reduceReplicate]; try first | rfl | omega)) | (apply go_guard_no; (· rfl); · (simp (disch := omega) [go_sem, *, -List.reduceReplicate]; try rfl)) | ((first | apply go_move | apply go_assign | apply go_load | apply go_store | apply go_append | apply go_copy | apply go_copy0 | apply go_clear0 | apply go_slice3 | apply go_indexA); · (simp (disch := omega) [go_sem, *, -List.reduceReplicate]; try first | rfl | exact ⟨rfl, rfl⟩ | exact ⟨rfl, rfl, rfl⟩)) | ((first | apply go_loadv | apply go_append0 | apply go_beyond); · (simp (disch := omega) [go_sem, *, -List.reduceReplicate]; try first | rfl | exact ⟨rfl, rfl⟩ | exact ⟨rfl, rfl, rfl⟩)) | (apply go_appself; · (simp (disch := omega) [go_sem, *, -List.reduceReplicate]; try first | rfl | exact ⟨rfl, rfl⟩ | exact ⟨rfl, rfl, rfl⟩)) | ((first | (apply go_appendz; · rfl) | (apply go_new; · rfl) | (apply go_pure; · rfl)); · (simp (disch := omega) [go_sem, *, -List.reduceReplicate]; try first | rfl | exact ⟨rfl, rfl⟩ | exact ⟨rfl, rfl, rfl⟩)) | ((apply go_glob; · assumption); · (simp (disch := omega) [go_sem, *, -List.reduceReplicate]; try first | rfl | exact ⟨rfl, rfl⟩ | exact ⟨rfl, rfl, rfl⟩)) | (apply go_read1; (· rfl); · (simp (disch := omega) [go_sem, *, -List.reduceReplicate]; try first | rfl | exact ⟨rfl, rfl⟩ | exact ⟨rfl, rfl, rfl⟩)) | (apply go_rw1; (· rfl); · (simp (disch := omega) [go_sem, *, -List.reduceReplicate]; try first | rfl | exact ⟨rfl, rfl⟩ | exact ⟨rfl, rfl, rfl⟩)) | (apply go_new1; (· rfl); · (simp (disch := omega) [go_sem, *, -List.reduceReplicate]; try first | rfl | exact ⟨rfl, rfl⟩ | exact ⟨rfl, rfl, rfl⟩)) | (apply go_conv; · (simp (disch := omega) [go_sem, *, -List.reduceReplicate]; try first | rfl | exact ⟨rfl, rfl⟩ | exact ⟨rfl, rfl, rfl⟩)) | ((first | (apply go_new; · rfl) | (apply go_pure; · rfl)); · (simp (disch := omega) [go_sem, *, -List.reduceReplicate]; simp [go_sem, *]; try first | rfl | exact ⟨rfl, rfl⟩)) | (apply go_condT; · (simp (disch := omega) [go_sem, *, -List.reduceReplicate]; try first | rfl | omega; done)) | (apply go_condF; · (simp (disch := omega) [go_sem, *, -List.reduceReplicate]; try first | rfl | omega; done)) | (obtain ⟨hcall, hcs⟩ := hcs; refine go_callw (hcall _) (by simp (disch := omega) [go_sem, *, -List.reduceReplicate]; try rfl) (by simp (disch := omega) [go_sem, *, -List.reduceReplicate]; repeat' first | exact ALe.nil | exact AV.le_refl _ | exact AV.le_nils | exact AV.le_own _ _ | apply ALe.cons | apply AV.sub_agg) (by simp (disch := omega) [go_sem, *, -List.reduceReplicate]) ?_; clear hcall))
      refine ⟨⟨2, by simp (disch := omega) [go_sem, *, -List.reduceReplicate], by simp (disch := omega) [go_sem, *, -List.reduceReplicate], by simp (disch := omega) [go_sem, *, -List.reduceReplicate], by omega, .inr ⟨by omega, _, ?_, ?_, by simp (disch := omega) [go_sem, *, -List.reduceReplicate]; rfl, by simp (disch := omega) [go_sem, *, -List.reduceReplicate]⟩, by simp (disch := omega) [go_sem, *, -List.reduceReplicate]; rfl, by simp only; omega, (fun id hid => by simp (disch := omega) only [upd_ne, wr_cons, wr_nil]; try exact hlow id hid)⟩, by simp (disch := omega) [go_sem, *, -List.reduceReplicate]⟩
      · omega
      · simp only; omega
    · omega
  · rcases qb with ⟨hh, _⟩ | ⟨_, r, hr1, hr2, qb, qr⟩
    · omega
    · repeat (first | apply go_nil | apply go_kreg | apply go_kreg0 | apply go_kreg1 | (apply go_kregT; · (first | (simp [addT, CF, CFy, Ind, DisjF]; done) | (simp only [addT, CF, CFy, Ind]; repeat' (first | exact trivial | apply And.intro | exact Or.inl (by decide +kernel) | (refine Or.inr ⟨?_, ?_⟩ <;> (simp; try omega)))))) | apply go_then | apply go_then_exit | apply go_then_ret | apply go_blk | apply go_blk_ret | apply go_blk_here | (apply go_blk_there; · rfl) | apply go_seq | (apply go_region; · (simp only [List.length_cons, List.length_nil, Nat.reduceAdd, Nat.add_assoc]; rfl)) | apply go_skip | apply go_block | apply go_scope | apply go_label | apply go_exit | apply go_ret | (apply go_mut; (· assumption); · (simp (disch := omega) [go_sem, *, -List.reduceReplicate]; first | exact ⟨rfl, rfl⟩ | (simp [go_sem, *]; exact ⟨rfl, rfl⟩))) | (apply go_mutP; (· assumption); · (simp (disch := omega) [go_sem, *, -List.reduceReplicate]; try first | rfl | exact ⟨rfl, rfl⟩ | exact ⟨rfl, rfl, rfl⟩)) | (apply go_guard_in; (· rfl); · (simp (disch := omega) [go_sem, *, -List.reduceReplicate]; try first | rfl | omega)) | (apply go_guard_off; (· rfl); · (simp (disch := omega) [go_sem, *, -List.reduceReplicate]; try first | rfl | omega)) | (apply go_guard_no; (· rfl); · (simp (disch := omega) [go_sem, *, -List.reduceReplicate]; try rfl)) | ((first | apply go_move | apply go_assign | apply go_load | apply go_store | apply go_append | apply go_copy | apply go_copy0 | apply go_clear0 | apply go_slice3 | apply go_indexA); · (simp (disch := omega) [go_sem, *, -List.reduceReplicate]; try first | rfl | exact ⟨rfl, rfl⟩ | exact ⟨rfl, rfl, rfl⟩)) | ((first | apply go_loadv | apply go_append0 | apply go_beyond); · (simp (disch := omega) [go_sem, *, -List.reduceReplicate]; try first | rfl | exact ⟨rfl, rfl⟩ | exact ⟨rfl, rfl, rfl⟩)) | (apply go_appself; · (simp (disch := omega) [go_sem, *, -List.reduceReplicate]; try first | rfl | exact ⟨rfl, rfl⟩ | exact ⟨rfl, rfl, rfl⟩)) | ((first | (apply go_appendz; · rfl) | (apply go_new; · rfl) | (apply go_pure; · rfl)); · (simp (disch := omega) [go_sem, *, -List.reduceReplicate]; try first | rfl | exact ⟨rfl, rfl⟩ | exact ⟨rfl, rfl, rfl⟩)) | ((apply go_glob; · assumption); · (simp (disch := omega) [go_sem, *, -List.reduceReplicate]; try first | rfl | exact ⟨rfl, rfl⟩ | exact ⟨rfl, rfl, rfl⟩)) | (apply go_read1; (· rfl); · (simp (disch := omega) [go_sem, *, -List.reduceReplicate]; try first | rfl | exact ⟨rfl, rfl⟩ | exact ⟨rfl, rfl, rfl⟩)) | (apply go_rw1; (· rfl); · (simp (disch := omega) [go_sem, *, -List.reduceReplicate]; try first | rfl | exact ⟨rfl, rfl⟩ | exact ⟨rfl, rfl, rfl⟩)) | (apply go_new1; (· rfl); · (simp (disch := omega) [go_sem, *, -List.reduceReplicate]; try first | rfl | exact ⟨rfl, rfl⟩ | exact ⟨rfl, rfl, rfl⟩)) | (apply go_conv; · (simp (disch := omega) [go_sem, *, -List.reduceReplicate]; try first | rfl | exact ⟨rfl, rfl⟩ | exact ⟨rfl, rfl, rfl⟩)) | ((first | (apply go_new; · rfl) | (apply go_pure; · rfl)); · (simp (disch := omega) [go_sem, *, -List.reduceReplicate]; simp [go_sem, *]; try first | rfl | exact ⟨rfl, rfl⟩)) | (apply go_condT; · (simp (disch := omega) [go_sem, *, -List.reduceReplicate]; try first | rfl | omega; done)) | (apply go_condF; · (simp (disch := omega) [go_sem, *, -List.reduceReplicate]; try first | rfl | omega; done)) | (obtain ⟨hcall, hcs⟩ := hcs; refine go_callw (hcall _) (by simp (disch := omega) [go_sem, *, -List.reduceReplicate]; try rfl) (by simp (disch := omega) [go_sem, *, -List.reduceReplicate]; repeat' first | exact ALe.nil | exact AV.le_refl _ | exact AV.le_nils | exact AV.le_own _ _ | apply ALe.cons | apply AV.sub_agg) (by simp (disch := omega) [go_sem, *, -List.reduceReplicate]) ?_; clear hcall))
      refine go_result1 (r0 := r) (by simp (disch := omega) [go_sem, *, -List.reduceReplicate]; rfl) (by omega) (by simp (disch := omega) [go_sem]; try rfl) (fun id hid => by simp (disch := omega) only [upd_ne, wr_cons, wr_nil]; try exact hlow id hid) (by simp (disch := omega) [go_sem, *, -List.reduceReplicate]; rfl) (by simp (disch := omega) [go_sem])

end Go.Proofs.YtaelnglalpiemaaDoor

/- Devices: write. -/
namespace Go.Proofs.YtaelnglalpiemaaDoor
open Go.Ab
attribute [local irreducible] Go.Ab.tyAV Go.Ab.aw Go.Ab.aops Go.Ab.kReg Go.Ab.aThen Go.Ab.aBlk Go.Ab.acond Go.Ab.aguard Go.Ab.astep Go.Ab.AStepX Go.Ab.aRet

def Dv.area (d : Dv) (i : Nat) : List UInt8 := if i = 0 then d.a0 else d.a1
def Dv.put (d : Dv) (i : Nat) (b : List UInt8) : Dv := if i = 0 then { d with a0 := b } else { d with a1 := b }
/-- How many bytes are stored of an interrupted write. -/
def cutN (torn : Int) (n : Nat) : Nat := (min (max torn 0) n).toNat
theorem cutN_eq (torn : Int) (n : Nat) : (if (n : Int) < if torn < 0 then 0 else torn then (n : Int) else if torn < 0 then 0 else torn) = (cutN torn n : Int) := by
  unfold cutN
  split
  · split at * <;> omega
  · split at * <;> omega
theorem cutN_le (torn : Int) (n : Nat) : cutN torn n ≤ n := by unfold cutN; omega
/-- What write returns. -/
def writeS (d : Dv) (i kept : Nat) (b : List UInt8) : Dv × Nat :=
  if d.off = true then (d, 27) else if d.cap < kept + b.length then (d, 26) else
  if d.wr + 1 = d.cutAt then ({ d.put i ((d.area i).take kept ++ b.take (cutN d.torn b.length)) with wr := d.wr + 1, off := true }, 27)
  else ({ d.put i ((d.area i).take kept ++ b) with wr := d.wr + 1, act := i }, 0)
structure DvOk (d : Dv) : Prop where
  h0 : d.a0.length ≤ 1000000
  h1 : d.a1.length ≤ 1000000
  w0 : 0 ≤ d.wr
  w1 : d.wr ≤ 1000000

theorem write0_off (d : Dv) (kept : Nat) (b : List UInt8) (hd : DvOk d) (hb : b.length ≤ 1000000) (hk : kept ≤ d.a0.length) (hoff : d.off = true) (k : Nat) :
    ACall Tryd.prog 95 [devAV d, .lit (.int .i64 0), .lit (.int .i64 kept), .slice none (b.map byteAV)] k [] (.tup [devAV d, .lit (.int .i64 27)]) [] := by
  have hcs := And.intro (CopiedM0_spec d hd.h0 hd.h1) True.intro
  obtain ⟨a0, a1, act, cap, wr_, cutAt, torn, off⟩ := d
  obtain ⟨h0, h1, hw0, hw1⟩ := hd
  simp only at hoff h0 h1 hw0 hw1 hk
  subst hoff
  simp only [devAV, devM, bAV] at *
  refine ACall.of_body mixed Tryd.func95 rfl (by kernel_rfl) Tryd.ntmps95 (by kernel_rfl) rfl (by simp) (by simp) (by simp) fun σ N hp hpn hk hkn hfree => ?_
  repeat (first | apply go_nil | apply go_kreg | apply go_kreg0 | apply go_kreg1 | (apply go_kregT; · (first | (simp [addT, CF, CFy, Ind, DisjF]; done) | (simp only [addT, CF, CFy, Ind]; repeat' (first | exact trivial | apply And.intro | exact Or.inl (by decide +kernel) | (refine Or.inr ⟨?_, ?_⟩ <;> (simp; try omega)))))) | apply go_then | apply go_then_exit | apply go_then_ret | apply go_blk | apply go_blk_ret | apply go_blk_here | (apply go_blk_there; · rfl) | apply go_seq | (apply go_region; · (simp only [List.length_cons, List.length_nil, Nat.reduceAdd, Nat.add_assoc]; rfl)) | apply go_skip | apply go_block | apply go_scope | apply go_label | apply go_exit | (apply go_mut; (· assumption); · (simp (disch := omega) [go_sem, *, -List.reduceReplicate]; first | exact ⟨rfl, rfl⟩ | (simp [go_sem, *]; exact ⟨rfl, rfl⟩))) | (apply go_mutP; (· assumption); · (simp (disch := omega) [go_sem, *, -List.reduceReplicate]; try first | rfl | exact ⟨rfl, rfl⟩ | exact ⟨rfl, rfl, rfl⟩)) | (apply go_guard_in; (· rfl); · (simp (disch := omega) [go_sem, *, -List.reduceReplicate]; try first | rfl | omega)) | (apply go_guard_off; (· rfl); · (simp (disch := omega) [go_sem, *, -List.reduceReplicate]; try first | rfl | omega)) | (apply go_guard_no; (· rfl); · (simp (disch := omega) [go_sem, *, -List.reduceReplicate]; try rfl)) | ((first | apply go_move | apply go_assign | apply go_load | apply go_store | apply go_append | apply go_copy | apply go_copy0 | apply go_clear0 | apply go_slice3 | apply go_indexA); · (simp (disch := omega) [go_sem, *, -List.reduceReplicate]; try first | rfl | exact ⟨rfl, rfl⟩ | exact ⟨rfl, rfl, rfl⟩)) | ((first | apply go_loadv | apply go_append0 | apply go_beyond); · (simp (disch := omega) [go_sem, *, -List.reduceReplicate]; try first | rfl | exact ⟨rfl, rfl⟩ | exact ⟨rfl, rfl, rfl⟩)) | (apply go_appself; · (simp (disch := omega) [go_sem, *, -List.reduceReplicate]; try first | rfl | exact ⟨rfl, rfl⟩ | exact ⟨rfl, rfl, rfl⟩)) | ((first | (apply go_appendz; · rfl) | (apply go_new; · rfl) | (apply go_pure; · rfl)); · (simp (disch := omega) [go_sem, *, -List.reduceReplicate]; try first | rfl | exact ⟨rfl, rfl⟩ | exact ⟨rfl, rfl, rfl⟩)) | ((apply go_glob; · assumption); · (simp (disch := omega) [go_sem, *, -List.reduceReplicate]; try first | rfl | exact ⟨rfl, rfl⟩ | exact ⟨rfl, rfl, rfl⟩)) | (apply go_read1; (· rfl); · (simp (disch := omega) [go_sem, *, -List.reduceReplicate]; try first | rfl | exact ⟨rfl, rfl⟩ | exact ⟨rfl, rfl, rfl⟩)) | (apply go_rw1; (· rfl); · (simp (disch := omega) [go_sem, *, -List.reduceReplicate]; try first | rfl | exact ⟨rfl, rfl⟩ | exact ⟨rfl, rfl, rfl⟩)) | (apply go_new1; (· rfl); · (simp (disch := omega) [go_sem, *, -List.reduceReplicate]; try first | rfl | exact ⟨rfl, rfl⟩ | exact ⟨rfl, rfl, rfl⟩)) | (apply go_conv; · (simp (disch := omega) [go_sem, *, -List.reduceReplicate]; try first | rfl | exact ⟨rfl, rfl⟩ | exact ⟨rfl, rfl, rfl⟩)) | ((first | (apply go_new; · rfl) | (apply go_pure; · rfl)); · (simp (disch := omega) [go_sem, *, -List.reduceReplicate]; simp [go_sem, *]; try first | rfl | exact ⟨rfl, rfl⟩)) | (apply go_condT; · (simp (disch := omega) [go_sem, *, -List.reduceReplicate]; try first | rfl | omega; done)) | (apply go_condF; · (simp (disch := omega) [go_sem, *, -List.reduceReplicate]; try first | rfl | omega; done)) | (obtain ⟨hcall, hcs⟩ := hcs; refine go_callw (hcall _) (by simp (disch := omega) [go_sem, *, -List.reduceReplicate]; try rfl) (by simp (disch := omega) [go_sem, *, -List.reduceReplicate]; repeat' first | exact ALe.nil | exact AV.le_refl _ | exact AV.le_nils | exact AV.le_own _ _ | apply ALe.cons | apply AV.sub_agg) (by simp (disch := omega) [go_sem, *, -List.reduceReplicate]) ?_; clear hcall))
  refine go_freezeIn (N + 1) [0, 0] (r := N + 3 + 1) (ver := 1) (size := 1) (e := 5) (xs := a0.map byteAV) (k := a0.length) (by simp (disch := omega) [go_sem, *, -List.reduceReplicate]; exact ⟨rfl, rfl⟩) (by simp (disch := omega) [go_sem, *, -List.reduceReplicate]) (by simp (disch := omega) [go_sem, *, -List.reduceReplicate]) (by simp) ?_
  refine go_ret ?_; repeat (first | (refine go_then_ret ?_) | (refine go_blk_ret ?_))
  refine go_result (by simp (disch := omega) [go_sem, *, -List.reduceReplicate]; rfl) (by simp (disch := omega) [go_sem]; try rfl) (fun id hid => by simp (disch := omega) only [upd_ne, wr_cons, wr_nil]; try exact hlow id hid)

theorem write0_full (d : Dv) (kept : Nat) (b : List UInt8) (hd : DvOk d) (hb : b.length ≤ 1000000) (hk : kept ≤ d.a0.length) (hoff : d.off = false) (hc : d.cap < kept + b.length) (k : Nat) :
    ACall Tryd.prog 95 [devAV d, .lit (.int .i64 0), .lit (.int .i64 kept), .slice none (b.map byteAV)] k [] (.tup [devAV d, .lit (.int .i64 26)]) [] := by
  have hcs := And.intro (CopiedM0_spec d hd.h0 hd.h1) True.intro
  obtain ⟨a0, a1, act, cap, wr_, cutAt, torn, off⟩ := d
  obtain ⟨h0, h1, hw0, hw1⟩ := hd
  simp only at hoff hc h0 h1 hw0 hw1 hk
  subst hoff
  simp only [devAV, devM, bAV] at *
  refine ACall.of_body mixed Tryd.func95 rfl (by kernel_rfl) Tryd.ntmps95 (by kernel_rfl) rfl (by simp) (by simp) (by simp) fun σ N hp hpn hk hkn hfree => ?_
  repeat (first | apply go_nil | apply go_kreg | apply go_kreg0 | apply go_kreg1 | (apply go_kregT; · (first | (simp [addT, CF, CFy, Ind, DisjF]; done) | (simp only [addT, CF, CFy, Ind]; repeat' (first | exact trivial | apply And.intro | exact Or.inl (by decide +kernel) | (refine Or.inr ⟨?_, ?_⟩ <;> (simp; try omega)))))) | apply go_then | apply go_then_exit | apply go_then_ret | apply go_blk | apply go_blk_ret | apply go_blk_here | (apply go_blk_there; · rfl) | apply go_seq | (apply go_region; · (simp only [List.length_cons, List.length_nil, Nat.reduceAdd, Nat.add_assoc]; rfl)) | apply go_skip | apply go_block | apply go_scope | apply go_label | apply go_exit | (apply go_mut; (· assumption); · (simp (disch := omega) [go_sem, *, -List.reduceReplicate]; first | exact ⟨rfl, rfl⟩ | (simp [go_sem, *]; exact ⟨rfl, rfl⟩))) | (apply go_mutP; (· assumption); · (simp (disch := omega) [go_sem, *, -List.reduceReplicate]; try first | rfl | exact ⟨rfl, rfl⟩ | exact ⟨rfl, rfl, rfl⟩)) | (apply go_guard_in; (· rfl); · (simp (disch := omega) [go_sem, *, -List.reduceReplicate]; try first | rfl | omega)) | (apply go_guard_off; (· rfl); · (simp (disch := omega) [go_sem, *, -List.reduceReplicate]; try first | rfl | omega)) | (apply go_guard_no; (· rfl); · (simp (disch := omega) [go_sem, *, -List.reduceReplicate]; try rfl)) | ((first | apply go_move | apply go_assign | apply go_load | apply go_store | apply go_append | apply go_copy | apply go_copy0 | apply go_clear0 | apply go_slice3 | apply go_indexA); · (simp (disch := omega) [go_sem, *, -List.reduceReplicate]; try first | rfl | exact ⟨rfl, rfl⟩ | exact ⟨rfl, rfl, rfl⟩)) | ((first | apply go_loadv | apply go_append0 | apply go_beyond); · (simp (disch := omega) [go_sem, *, -List.reduceReplicate]; try first | rfl | exact ⟨rfl, rfl⟩ | exact ⟨rfl, rfl, rfl⟩)) | (apply go_appself; · (simp (disch := omega) [go_sem, *, -List.reduceReplicate]; try first | rfl | exact ⟨rfl, rfl⟩ | exact ⟨rfl, rfl, rfl⟩)) | ((first | (apply go_appendz; · rfl) | (apply go_new; · rfl) | (apply go_pure; · rfl)); · (simp (disch := omega) [go_sem, *, -List.reduceReplicate]; try first | rfl | exact ⟨rfl, rfl⟩ | exact ⟨rfl, rfl, rfl⟩)) | ((apply go_glob; · assumption); · (simp (disch := omega) [go_sem, *, -List.reduceReplicate]; try first | rfl | exact ⟨rfl, rfl⟩ | exact ⟨rfl, rfl, rfl⟩)) | (apply go_read1; (· rfl); · (simp (disch := omega) [go_sem, *, -List.reduceReplicate]; try first | rfl | exact ⟨rfl, rfl⟩ | exact ⟨rfl, rfl, rfl⟩)) | (apply go_rw1; (· rfl); · (simp (disch := omega) [go_sem, *, -List.reduceReplicate]; try first | rfl | exact ⟨rfl, rfl⟩ | exact ⟨rfl, rfl, rfl⟩)) | (apply go_new1; (· rfl); · (simp (disch := omega) [go_sem, *, -List.reduceReplicate]; try first | rfl | exact ⟨rfl, rfl⟩ | exact ⟨rfl, rfl, rfl⟩)) | (apply go_conv; · (simp (disch := omega) [go_sem, *, -List.reduceReplicate]; try first | rfl | exact ⟨rfl, rfl⟩ | exact ⟨rfl, rfl, rfl⟩)) | ((first | (apply go_new; · rfl) | (apply go_pure; · rfl)); · (simp (disch := omega) [go_sem, *, -List.reduceReplicate]; simp [go_sem, *]; try first | rfl | exact ⟨rfl, rfl⟩)) | (apply go_condT; · (simp (disch := omega) [go_sem, *, -List.reduceReplicate]; try first | rfl | omega; done)) | (apply go_condF; · (simp (disch := omega) [go_sem, *, -List.reduceReplicate]; try first | rfl | omega; done)) | (obtain ⟨hcall, hcs⟩ := hcs; refine go_callw (hcall _) (by simp (disch := omega) [go_sem, *, -List.reduceReplicate]; try rfl) (by simp (disch := omega) [go_sem, *, -List.reduceReplicate]; repeat' first | exact ALe.nil | exact AV.le_refl _ | exact AV.le_nils | exact AV.le_own _ _ | apply ALe.cons | apply AV.sub_agg) (by simp (disch := omega) [go_sem, *, -List.reduceReplicate]) ?_; clear hcall))
  refine go_freezeIn (N + 1) [0, 0] (r := N + 3 + 1) (ver := 1) (size := 1) (e := 5) (xs := a0.map byteAV) (k := a0.length) (by simp (disch := omega) [go_sem, *, -List.reduceReplicate]; exact ⟨rfl, rfl⟩) (by simp (disch := omega) [go_sem, *, -List.reduceReplicate]) (by simp (disch := omega) [go_sem, *, -List.reduceReplicate]) (by simp) ?_
  refine go_ret ?_; repeat (first | (refine go_then_ret ?_) | (refine go_blk_ret ?_))
  refine go_result (by simp (disch := omega) [go_sem, *, -List.reduceReplicate]; rfl) (by simp (disch := omega) [go_sem]; try rfl) (fun id hid => by simp (disch := omega) only [upd_ne, wr_cons, wr_nil]; try exact hlow id hid)

theorem write0_cut (d : Dv) (kept : Nat) (b : List UInt8) (hd : DvOk d) (hb : b.length ≤ 1000000) (hk : kept ≤ d.a0.length) (hoff : d.off = false) (hc : ¬ d.cap < kept + b.length) (hcut : d.cutAt = d.wr + 1) (bq nw : List UInt8) (q : Nat) (hq : (if (b.length : Int) < if d.torn < 0 then 0 else d.torn then (b.length : Int) else if d.torn < 0 then 0 else d.torn) = (q : Int)) (hql : q ≤ b.length) (hbq : (b.map byteAV).take q = bq.map byteAV) (hbl : bq.length = q) (hnw : (d.a0.map byteAV).take kept ++ bq.map byteAV = nw.map byteAV) (hnl : nw.length = kept + q) (k : Nat) :
    ACall Tryd.prog 95 [devAV d, .lit (.int .i64 0), .lit (.int .i64 kept), .slice none (b.map byteAV)] k [] (.tup [devAV { d with a0 := nw, wr := d.wr + 1, off := true }, .lit (.int .i64 27)]) [] := by
  have hcs := And.intro (CopiedM0_spec d hd.h0 hd.h1) True.intro
  obtain ⟨a0, a1, act, cap, wr_, cutAt, torn, off⟩ := d
  obtain ⟨h0, h1, hw0, hw1⟩ := hd
  simp only at hoff hc hcut hq hnw h0 h1 hw0 hw1 hk
  subst hoff
  subst hcut
  simp only [devAV, devM, bAV] at *
  refine ACall.of_body mixed Tryd.func95 rfl (by kernel_rfl) Tryd.ntmps95 (by kernel_rfl) rfl (by simp) (by simp) (by simp) fun σ N hp hpn hk hkn hfree => ?_
  repeat (first | apply go_nil | apply go_kreg | apply go_kreg0 | apply go_kreg1 | (apply go_kregT; · (first | (simp [addT, CF, CFy, Ind, DisjF]; done) | (simp only [addT, CF, CFy, Ind]; repeat' (first | exact trivial | apply And.intro | exact Or.inl (by decide +kernel) | (refine Or.inr ⟨?_, ?_⟩ <;> (simp; try omega)))))) | apply go_then | apply go_then_exit | apply go_then_ret | apply go_blk | apply go_blk_ret | apply go_blk_here | (apply go_blk_there; · rfl) | apply go_seq | (apply go_region; · (simp only [List.length_cons, List.length_nil, Nat.reduceAdd, Nat.add_assoc]; rfl)) | apply go_skip | apply go_block | apply go_scope | apply go_label | apply go_exit | (apply go_mut; (· assumption); · (simp (disch := omega) [go_sem, *, -List.reduceReplicate]; first | exact ⟨rfl, rfl⟩ | (simp [go_sem, *]; exact ⟨rfl, rfl⟩))) | (apply go_mutP; (· assumption); · (simp (disch := omega) [go_sem, *, -List.reduceReplicate]; try first | rfl | exact ⟨rfl, rfl⟩ | exact ⟨rfl, rfl, rfl⟩)) | (apply go_guard_in; (· rfl); · (simp (disch := omega) [go_sem, *, -List.reduceReplicate]; try first | rfl | omega)) | (apply go_guard_off; (· rfl); · (simp (disch := omega) [go_sem, *, -List.reduceReplicate]; try first | rfl | omega)) | (apply go_guard_no; (· rfl); · (simp (disch := omega) [go_sem, *, -List.reduceReplicate]; try rfl)) | ((first | apply go_move | apply go_assign | apply go_load | apply go_store | apply go_append | apply go_copy | apply go_copy0 | apply go_clear0 | apply go_slice3 | apply go_indexA); · (simp (disch := omega) [go_sem, *, -List.reduceReplicate]; try first | rfl | exact ⟨rfl, rfl⟩ | exact ⟨rfl, rfl, rfl⟩)) | ((first | apply go_loadv | apply go_append0 | apply go_beyond); · (simp (disch := omega) [go_sem, *, -List.reduceReplicate]; try first | rfl | exact ⟨rfl, rfl⟩ | exact ⟨rfl, rfl, rfl⟩)) | (apply go_appself; · (simp (disch := omega) [go_sem, *, -List.reduceReplicate]; try first | rfl | exact ⟨rfl, rfl⟩ | exact ⟨rfl, rfl, rfl⟩)) | ((first | (apply go_appendz; · rfl) | (apply go_new; · rfl) | (apply go_pure; · rfl)); · (simp (disch := omega) [go_sem, *, -List.reduceReplicate]; try first | rfl | exact ⟨rfl, rfl⟩ | exact ⟨rfl, rfl, rfl⟩)) | ((apply go_glob; · assumption); · (simp (disch := omega) [go_sem, *, -List.reduceReplicate]; try first | rfl | exact ⟨rfl, rfl⟩ | exact ⟨rfl, rfl, rfl⟩)) | (apply go_read1; (· rfl); · (simp (disch := omega) [go_sem, *, -List.reduceReplicate]; try first | rfl | exact ⟨rfl, rfl⟩ | exact ⟨rfl, rfl, rfl⟩)) | (apply go_rw1; (· rfl); · (simp (disch := omega) [go_sem, *, -List.reduceReplicate]; try first | rfl | exact ⟨rfl, rfl⟩ | exact ⟨rfl, rfl, rfl⟩)) | (apply go_new1; (· rfl); · (simp (disch := omega) [go_sem, *, -List.reduceReplicate]; try first | rfl | exact ⟨rfl, rfl⟩ | exact ⟨rfl, rfl, rfl⟩)) | (apply go_conv; · (simp (disch := omega) [go_sem, *, -List.reduceReplicate]; try first | rfl | exact ⟨rfl, rfl⟩ | exact ⟨rfl, rfl, rfl⟩)) | ((first | (apply go_new; · rfl) | (apply go_pure; · rfl)); · (simp (disch := omega) [go_sem, *, -List.reduceReplicate]; simp [go_sem, *]; try first | rfl | exact ⟨rfl, rfl⟩)) | (apply go_condT; · (simp (disch := omega) [go_sem, *, -List.reduceReplicate]; try first | rfl | omega; done)) | (apply go_condF; · (simp (disch := omega) [go_sem, *, -List.reduceReplicate]; try first | rfl | omega; done)) | (obtain ⟨hcall, hcs⟩ := hcs; refine go_callw (hcall _) (by simp (disch := omega) [go_sem, *, -List.reduceReplicate]; try rfl) (by simp (disch := omega) [go_sem, *, -List.reduceReplicate]; repeat' first | exact ALe.nil | exact AV.le_refl _ | exact AV.le_nils | exact AV.le_own _ _ | apply ALe.cons | apply AV.sub_agg) (by simp (disch := omega) [go_sem, *, -List.reduceReplicate]) ?_; clear hcall))
  refine go_freezeIn (N + 1) [0, 0] (r := N + 3 + 1) (ver := 2) (size := 1) (e := 5) (xs := nw.map byteAV) (k := nw.length) (by simp (disch := omega) [go_sem, *, -List.reduceReplicate]; exact ⟨rfl, rfl⟩) (by simp (disch := omega) [go_sem, *, -List.reduceReplicate]) (by simp (disch := omega) [go_sem, *, -List.reduceReplicate]) (by simp) ?_
  refine go_ret ?_; repeat (first | (refine go_then_ret ?_) | (refine go_blk_ret ?_))
  refine go_result (by simp (disch := omega) [go_sem, *, -List.reduceReplicate]; rfl) (by simp (disch := omega) [go_sem]; try rfl) (fun id hid => by simp (disch := omega) only [upd_ne, wr_cons, wr_nil]; try exact hlow id hid)

theorem write0_ok (d : Dv) (kept : Nat) (b : List UInt8) (hd : DvOk d) (hb : b.length ≤ 1000000) (hk : kept ≤ d.a0.length) (hoff : d.off = false) (hc : ¬ d.cap < kept + b.length) (hcut : ¬ d.wr + 1 = d.cutAt) (nw : List UInt8) (hnw : (d.a0.map byteAV).take kept ++ b.map byteAV = nw.map byteAV) (hnl : nw.length = kept + b.length) (k : Nat) :
    ACall Tryd.prog 95 [devAV d, .lit (.int .i64 0), .lit (.int .i64 kept), .slice none (b.map byteAV)] k [] (.tup [devAV { d with a0 := nw, wr := d.wr + 1, act := 0 }, .lit (.int .i64 0)]) [] := by
  have hcs := And.intro (CopiedM0_spec d hd.h0 hd.h1) True.intro
  obtain ⟨a0, a1, act, cap, wr_, cutAt, torn, off⟩ := d
  obtain ⟨h0, h1, hw0, hw1⟩ := hd
  simp only at hoff hc hcut hnw h0 h1 hw0 hw1 hk
  subst hoff
  have hcb : (wr_ + 1 == cutAt) = false := by rw [beq_eq_false_iff_ne]; exact hcut
  simp only [devAV, devM, bAV] at *
  refine ACall.of_body mixed Tryd.func95 rfl (by kernel_rfl) Tryd.ntmps95 (by kernel_rfl) rfl (by simp) (by simp) (by simp) fun σ N hp hpn hk hkn hfree => ?_
  repeat (first | apply go_nil | apply go_kreg | apply go_kreg0 | apply go_kreg1 | (apply go_kregT; · (first | (simp [addT, CF, CFy, Ind, DisjF]; done) | (simp only [addT, CF, CFy, Ind]; repeat' (first | exact trivial | apply And.intro | exact Or.inl (by decide +kernel) | (refine Or.inr ⟨?_, ?_⟩ <;> (simp; try omega)))))) | apply go_then | apply go_then_exit | apply go_then_ret | apply go_blk | apply go_blk_ret | apply go_blk_here | (apply go_blk_there; · rfl) | apply go_seq | (apply go_region; · (simp only [List.length_cons, List.length_nil, Nat.reduceAdd, Nat.add_assoc]; rfl)) | apply go_skip | apply go_block | apply go_scope | apply go_label | apply go_exit | (apply go_mut; (· assumption); · (simp (disch := omega) [go_sem, *, -List.reduceReplicate]; first | exact ⟨rfl, rfl⟩ | (simp [go_sem, *]; exact ⟨rfl, rfl⟩))) | (apply go_mutP; (· assumption); · (simp (disch := omega) [go_sem, *, -List.reduceReplicate]; try first | rfl | exact ⟨rfl, rfl⟩ | exact ⟨rfl, rfl, rfl⟩)) | (apply go_guard_in; (· rfl); · (simp (disch := omega) [go_sem, *, -List.reduceReplicate]; try first | rfl | omega)) | (apply go_guard_off; (· rfl); · (simp (disch := omega) [go_sem, *, -List.reduceReplicate]; try first | rfl | omega)) | (apply go_guard_no; (· rfl); · (simp (disch := omega) [go_sem, *, -List.reduceReplicate]; try rfl)) | ((first | apply go_move | apply go_assign | apply go_load | apply go_store | apply go_append | apply go_copy | apply go_copy0 | apply go_clear0 | apply go_slice3 | apply go_indexA); · (simp (disch := omega) [go_sem, *, -List.reduceReplicate]; try first | rfl | exact ⟨rfl, rfl⟩ | exact ⟨rfl, rfl, rfl⟩)) | ((first | apply go_loadv | apply go_append0 | apply go_beyond); · (simp (disch := omega) [go_sem, *, -List.reduceReplicate]; try first | rfl | exact ⟨rfl, rfl⟩ | exact ⟨rfl, rfl, rfl⟩)) | (apply go_appself; · (simp (disch := omega) [go_sem, *, -List.reduceReplicate]; try first | rfl | exact ⟨rfl, rfl⟩ | exact ⟨rfl, rfl, rfl⟩)) | ((first | (apply go_appendz; · rfl) | (apply go_new; · rfl) | (apply go_pure; · rfl)); · (simp (disch := omega) [go_sem, *, -List.reduceReplicate]; try first | rfl | exact ⟨rfl, rfl⟩ | exact ⟨rfl, rfl, rfl⟩)) | ((apply go_glob; · assumption); · (simp (disch := omega) [go_sem, *, -List.reduceReplicate]; try first | rfl | exact ⟨rfl, rfl⟩ | exact ⟨rfl, rfl, rfl⟩)) | (apply go_read1; (· rfl); · (simp (disch := omega) [go_sem, *, -List.reduceReplicate]; try first | rfl | exact ⟨rfl, rfl⟩ | exact ⟨rfl, rfl, rfl⟩)) | (apply go_rw1; (· rfl); · (simp (disch := omega) [go_sem, *, -List.reduceReplicate]; try first | rfl | exact ⟨rfl, rfl⟩ | exact ⟨rfl, rfl, rfl⟩)) | (apply go_new1; (· rfl); · (simp (disch := omega) [go_sem, *, -List.reduceReplicate]; try first | rfl | exact ⟨rfl, rfl⟩ | exact ⟨rfl, rfl, rfl⟩)) | (apply go_conv; · (simp (disch := omega) [go_sem, *, -List.reduceReplicate]; try first | rfl | exact ⟨rfl, rfl⟩ | exact ⟨rfl, rfl, rfl⟩)) | ((first | (apply go_new; · rfl) | (apply go_pure; · rfl)); · (simp (disch := omega) [go_sem, *, -List.reduceReplicate]; simp [go_sem, *]; try first | rfl | exact ⟨rfl, rfl⟩)) | (apply go_condT; · (simp (disch := omega) [go_sem, *, -List.reduceReplicate]; try first | rfl | omega; done)) | (apply go_condF; · (simp (disch := omega) [go_sem, *, -List.reduceReplicate]; try first | rfl | omega; done)) | (obtain ⟨hcall, hcs⟩ := hcs; refine go_callw (hcall _) (by simp (disch := omega) [go_sem, *, -List.reduceReplicate]; try rfl) (by simp (disch := omega) [go_sem, *, -List.reduceReplicate]; repeat' first | exact ALe.nil | exact AV.le_refl _ | exact AV.le_nils | exact AV.le_own _ _ | apply ALe.cons | apply AV.sub_agg) (by simp (disch := omega) [go_sem, *, -List.reduceReplicate]) ?_; clear hcall))
  refine go_freezeIn (N + 1) [0, 0] (r := N + 3 + 1) (ver := 2) (size := 1) (e := 5) (xs := nw.map byteAV) (k := nw.length) (by simp (disch := omega) [go_sem, *, -List.reduceReplicate]; exact ⟨rfl, rfl⟩) (by simp (disch := omega) [go_sem, *, -List.reduceReplicate]) (by simp (disch := omega) [go_sem, *, -List.reduceReplicate]) (by simp) ?_
  refine go_ret ?_; repeat (first | (refine go_then_ret ?_) | (refine go_blk_ret ?_))
  refine go_result (by simp (disch := omega) [go_sem, *, -List.reduceReplicate]; rfl) (by simp (disch := omega) [go_sem]; try rfl) (fun id hid => by simp (disch := omega) only [upd_ne, wr_cons, wr_nil]; try exact hlow id hid)

theorem write0_spec (d : Dv) (kept : Nat) (b : List UInt8) (hd : DvOk d) (hb : b.length ≤ 1000000) (hk : kept ≤ d.a0.length) (k : Nat) :
    ACall Tryd.prog 95 [devAV d, .lit (.int .i64 0), .lit (.int .i64 kept), .slice none (b.map byteAV)] k [] (.tup [devAV (writeS d 0 kept b).1, .lit (.int .i64 (writeS d 0 kept b).2)]) [] := by
  unfold writeS
  cases hoff : d.off with
  | true => rw [if_pos rfl]; exact write0_off d kept b hd hb hk hoff k
  | false =>
    rw [if_neg (by simp)]
    by_cases hc : d.cap < kept + b.length
    · rw [if_pos hc]; exact write0_full d kept b hd hb hk hoff hc k
    · rw [if_neg hc]
      by_cases hcut : d.wr + 1 = d.cutAt
      · rw [if_pos hcut]
        have hq := cutN_le d.torn b.length
        exact write0_cut d kept b hd hb hk hoff hc hcut.symm (b.take (cutN d.torn b.length)) (d.a0.take kept ++ b.take (cutN d.torn b.length)) _ (cutN_eq _ _) hq (by rw [List.map_take]) (by rw [List.length_take]; omega) (by simp [List.map_append, List.map_take]) (by simp; omega) k
      · rw [if_neg hcut]
        exact write0_ok d kept b hd hb hk hoff hc hcut (d.a0.take kept ++ b) (by simp [List.map_append, List.map_take]) (by simp; omega) k

theorem write1_off (d : Dv) (kept : Nat) (b : List UInt8) (hd : DvOk d) (hb : b.length ≤ 1000000) (hk : kept ≤ d.a1.length) (hoff : d.off = true) (k : Nat) :
    ACall Tryd.prog 95 [devAV d, .lit (.int .i64 1), .lit (.int .i64 kept), .slice none (b.map byteAV)] k [] (.tup [devAV d, .lit (.int .i64 27)]) [] := by
  have hcs := And.intro (CopiedM1_spec d hd.h0 hd.h1) True.intro
  obtain ⟨a0, a1, act, cap, wr_, cutAt, torn, off⟩ := d
  obtain ⟨h0, h1, hw0, hw1⟩ := hd
  simp only at hoff h0 h1 hw0 hw1 hk
  subst hoff
  simp only [devAV, devM, bAV] at *
  refine ACall.of_body mixed Tryd.func95 rfl (by kernel_rfl) Tryd.ntmps95 (by kernel_rfl) rfl (by simp) (by simp) (by simp) fun σ N hp hpn hk hkn hfree => ?_
  repeat (first | apply go_nil | apply go_kreg | apply go_kreg0 | apply go_kreg1 | (apply go_kregT; · (first | (simp [addT, CF, CFy, Ind, DisjF]; done) | (simp only [addT, CF, CFy, Ind]; repeat' (first | exact trivial | apply And.intro | exact Or.inl (by decide +kernel) | (refine Or.inr ⟨?_, ?_⟩ <;> (simp; try omega)))))) | apply go_then | apply go_then_exit | apply go_then_ret | apply go_blk | apply go_blk_ret | apply go_blk_here | (apply go_blk_there; · rfl) | apply go_seq | (apply go_region; · (simp only [List.length_cons, List.length_nil, Nat.reduceAdd, Nat.add_assoc]; rfl)) | apply go_skip | apply go_block | apply go_scope | apply go_label | apply go_exit | (apply go_mut; (· assumption); · (simp (disch := omega) [go_sem, *, -List.reduceReplicate]; first | exact ⟨rfl, rfl⟩ | (simp [go_sem, *]; exact ⟨rfl, rfl⟩))) | (apply go_mutP; (· assumption); · (simp (disch := omega) [go_sem, *, -List.reduceReplicate]; try first | rfl | exact ⟨rfl, rfl⟩ | exact ⟨rfl, rfl, rfl⟩)) | (apply go_guard_in; (· rfl); · (simp (disch := omega) [go_sem, *, -List.reduceReplicate]; try first | rfl | omega)) | (apply go_guard_off; (· rfl); · (simp (disch := omega) [go_sem, *, -List.reduceReplicate]; try first | rfl | omega)) | (apply go_guard_no; (· rfl); · (simp (disch := omega) [go_sem, *, -List.reduceReplicate]; try rfl)) | ((first | apply go_move | apply go_assign | apply go_load | apply go_store | apply go_append | apply go_copy | apply go_copy0 | apply go_clear0 | apply go_slice3 | apply go_indexA); · (simp (disch := omega) [go_sem, *, -List.reduceReplicate]; try first | rfl | exact ⟨rfl, rfl⟩ | exact ⟨rfl, rfl, rfl⟩)) | ((first | apply go_loadv | apply go_append0 | apply go_beyond); · (simp (disch := omega) [go_sem, *, -List.reduceReplicate]; try first | rfl | exact ⟨rfl, rfl⟩ | exact ⟨rfl, rfl, rfl⟩)) | (apply go_appself; · (simp (disch := omega) [go_sem, *, -List.reduceReplicate]; try first | rfl | exact ⟨rfl, rfl⟩ | exact ⟨rfl, rfl, rfl⟩)) | ((first | (apply go_appendz; · rfl) | (apply go_new; · rfl) | (apply go_pure; · rfl)); · (simp (disch := omega) [go_sem, *, -List.reduceReplicate]; try first | rfl | exact ⟨rfl, rfl⟩ | exact ⟨rfl, rfl, rfl⟩)) | ((apply go_glob; · assumption); · (simp (disch := omega) [go_sem, *, -List.reduceReplicate]; try first | rfl | exact ⟨rfl, rfl⟩ | exact ⟨rfl, rfl, rfl⟩)) | (apply go_read1; (· rfl); · (simp (disch := omega) [go_sem, *, -List.reduceReplicate]; try first | rfl | exact ⟨rfl, rfl⟩ | exact ⟨rfl, rfl, rfl⟩)) | (apply go_rw1; (· rfl); · (simp (disch := omega) [go_sem, *, -List.reduceReplicate]; try first | rfl | exact ⟨rfl, rfl⟩ | exact ⟨rfl, rfl, rfl⟩)) | (apply go_new1; (· rfl); · (simp (disch := omega) [go_sem, *, -List.reduceReplicate]; try first | rfl | exact ⟨rfl, rfl⟩ | exact ⟨rfl, rfl, rfl⟩)) | (apply go_conv; · (simp (disch := omega) [go_sem, *, -List.reduceReplicate]; try first | rfl | exact ⟨rfl, rfl⟩ | exact ⟨rfl, rfl, rfl⟩)) | ((first | (apply go_new; · rfl) | (apply go_pure; · rfl)); · (simp (disch := omega) [go_sem, *, -List.reduceReplicate]; simp [go_sem, *]; try first | rfl | exact ⟨rfl, rfl⟩)) | (apply go_condT; · (simp (disch := omega) [go_sem, *, -List.reduceReplicate]; try first | rfl | omega; done)) | (apply go_condF; · (simp (disch := omega) [go_sem, *, -List.reduceReplicate]; try first | rfl | omega; done)) | (obtain ⟨hcall, hcs⟩ := hcs; refine go_callw (hcall _) (by simp (disch := omega) [go_sem, *, -List.reduceReplicate]; try rfl) (by simp (disch := omega) [go_sem, *, -List.reduceReplicate]; repeat' first | exact ALe.nil | exact AV.le_refl _ | exact AV.le_nils | exact AV.le_own _ _ | apply ALe.cons | apply AV.sub_agg) (by simp (disch := omega) [go_sem, *, -List.reduceReplicate]) ?_; clear hcall))
  refine go_freezeIn (N + 1) [0, 1] (r := N + 3 + 1) (ver := 1) (size := 1) (e := 5) (xs := a1.map byteAV) (k := a1.length) (by simp (disch := omega) [go_sem, *, -List.reduceReplicate]; exact ⟨rfl, rfl⟩) (by simp (disch := omega) [go_sem, *, -List.reduceReplicate]) (by simp (disch := omega) [go_sem, *, -List.reduceReplicate]) (by simp) ?_
  refine go_ret ?_; repeat (first | (refine go_then_ret ?_) | (refine go_blk_ret ?_))
  refine go_result (by simp (disch := omega) [go_sem, *, -List.reduceReplicate]; rfl) (by simp (disch := omega) [go_sem]; try rfl) (fun id hid => by simp (disch := omega) only [upd_ne, wr_cons, wr_nil]; try exact hlow id hid)

theorem write1_full (d : Dv) (kept : Nat) (b : List UInt8) (hd : DvOk d) (hb : b.length ≤ 1000000) (hk : kept ≤ d.a1.length) (hoff : d.off = false) (hc : d.cap < kept + b.length) (k : Nat) :
    ACall Tryd.prog 95 [devAV d, .lit (.int .i64 1), .lit (.int .i64 kept), .slice none (b.map byteAV)] k [] (.tup [devAV d, .lit (.int .i64 26)]) [] := by
  have hcs := And.intro (CopiedM1_spec d hd.h0 hd.h1) True.intro
  obtain ⟨a0, a1, act, cap, wr_, cutAt, torn, off⟩ := d
  obtain ⟨h0, h1, hw0, hw1⟩ := hd
  simp only at hoff hc h0 h1 hw0 hw1 hk
  subst hoff
  simp only [devAV, devM, bAV] at *
  refine ACall.of_body mixed Tryd.func95 rfl (by kernel_rfl) Tryd.ntmps95 (by kernel_rfl) rfl (by simp) (by simp) (by simp) fun σ N hp hpn hk hkn hfree => ?_
  repeat (first | apply go_nil | apply go_kreg | apply go_kreg0 | apply go_kreg1 | (apply go_kregT; · (first | (simp [addT, CF, CFy, Ind, DisjF]; done) | (simp only [addT, CF, CFy, Ind]; repeat' (first | exact trivial | apply And.intro | exact Or.inl (by decide +kernel) | (refine Or.inr ⟨?_, ?_⟩ <;> (simp; try omega)))))) | apply go_then | apply go_then_exit | apply go_then_ret | apply go_blk | apply go_blk_ret | apply go_blk_here | (apply go_blk_there; · rfl) | apply go_seq | (apply go_region; · (simp only [List.length_cons, List.length_nil, Nat.reduceAdd, Nat.add_assoc]; rfl)) | apply go_skip | apply go_block | apply go_scope | apply go_label | apply go_exit | (apply go_mut; (· assumption); · (simp (disch := omega) [go_sem, *, -List.reduceReplicate]; first | exact ⟨rfl, rfl⟩ | (simp [go_sem, *]; exact ⟨rfl, rfl⟩))) | (apply go_mutP; (· assumption); · (simp (disch := omega) [go_sem, *, -List.reduceReplicate]; try first | rfl | exact ⟨rfl, rfl⟩ | exact ⟨rfl, rfl, rfl⟩)) | (apply go_guard_in; (· rfl); · (simp (disch := omega) [go_sem, *, -List.reduceReplicate]; try first | rfl | omega)) | (apply go_guard_off; (· rfl); · (simp (disch := omega) [go_sem, *, -List.reduceReplicate]; try first | rfl | omega)) | (apply go_guard_no; (· rfl); · (simp (disch := omega) [go_sem, *, -List.reduceReplicate]; try rfl)) | ((first | apply go_move | apply go_assign | apply go_load | apply go_store | apply go_append | apply go_copy | apply go_copy0 | apply go_clear0 | apply go_slice3 | apply go_indexA); · (simp (disch := omega) [go_sem, *, -List.reduceReplicate]; try first | rfl | exact ⟨rfl, rfl⟩ | exact ⟨rfl, rfl, rfl⟩)) | ((first | apply go_loadv | apply go_append0 | apply go_beyond); · (simp (disch := omega) [go_sem, *, -List.reduceReplicate]; try first | rfl | exact ⟨rfl, rfl⟩ | exact ⟨rfl, rfl, rfl⟩)) | (apply go_appself; · (simp (disch := omega) [go_sem, *, -List.reduceReplicate]; try first | rfl | exact ⟨rfl, rfl⟩ | exact ⟨rfl, rfl, rfl⟩)) | ((first | (apply go_appendz; · rfl) | (apply go_new; · rfl) | (apply go_pure; · rfl)); · (simp (disch := omega) [go_sem, *, -List.reduceReplicate]; try first | rfl | exact ⟨rfl, rfl⟩ | exact ⟨rfl, rfl, rfl⟩)) | ((apply go_glob; · assumption); · (simp (disch := omega) [go_sem, *, -List.reduceReplicate]; try first | rfl | exact ⟨rfl, rfl⟩ | exact ⟨rfl, rfl, rfl⟩)) | (apply go_read1; (· rfl); · (simp (disch := omega) [go_sem, *, -List.reduceReplicate]; try first | rfl | exact ⟨rfl, rfl⟩ | exact ⟨rfl, rfl, rfl⟩)) | (apply go_rw1; (· rfl); · (simp (disch := omega) [go_sem, *, -List.reduceReplicate]; try first | rfl | exact ⟨rfl, rfl⟩ | exact ⟨rfl, rfl, rfl⟩)) | (apply go_new1; (· rfl); · (simp (disch := omega) [go_sem, *, -List.reduceReplicate]; try first | rfl | exact ⟨rfl, rfl⟩ | exact ⟨rfl, rfl, rfl⟩)) | (apply go_conv; · (simp (disch := omega) [go_sem, *, -List.reduceReplicate]; try first | rfl | exact ⟨rfl, rfl⟩ | exact ⟨rfl, rfl, rfl⟩)) | ((first | (apply go_new; · rfl) | (apply go_pure; · rfl)); · (simp (disch := omega) [go_sem, *, -List.reduceReplicate]; simp [go_sem, *]; try first | rfl | exact ⟨rfl, rfl⟩)) | (apply go_condT; · (simp (disch := omega) [go_sem, *, -List.reduceReplicate]; try first | rfl | omega; done)) | (apply go_condF; · (simp (disch := omega) [go_sem, *, -List.reduceReplicate]; try first | rfl | omega; done)) | (obtain ⟨hcall, hcs⟩ := hcs; refine go_callw (hcall _) (by simp (disch := omega) [go_sem, *, -List.reduceReplicate]; try rfl) (by simp (disch := omega) [go_sem, *, -List.reduceReplicate]; repeat' first | exact ALe.nil | exact AV.le_refl _ | exact AV.le_nils | exact AV.le_own _ _ | apply ALe.cons | apply AV.sub_agg) (by simp (disch := omega) [go_sem, *, -List.reduceReplicate]) ?_; clear hcall))
  refine go_freezeIn (N + 1) [0, 1] (r := N + 3 + 1) (ver := 1) (size := 1) (e := 5) (xs := a1.map byteAV) (k := a1.length) (by simp (disch := omega) [go_sem, *, -List.reduceReplicate]; exact ⟨rfl, rfl⟩) (by simp (disch := omega) [go_sem, *, -List.reduceReplicate]) (by simp (disch := omega) [go_sem, *, -List.reduceReplicate]) (by simp) ?_
  refine go_ret ?_; repeat (first | (refine go_then_ret ?_) | (refine go_blk_ret ?_))
  refine go_result (by simp (disch := omega) [go_sem, *, -List.reduceReplicate]; rfl) (by simp (disch := omega) [go_sem]; try rfl) (fun id hid => by simp (disch := omega) only [upd_ne, wr_cons, wr_nil]; try exact hlow id hid)

theorem write1_cut (d : Dv) (kept : Nat) (b : List UInt8) (hd : DvOk d) (hb : b.length ≤ 1000000) (hk : kept ≤ d.a1.length) (hoff : d.off = false) (hc : ¬ d.cap < kept + b.length) (hcut : d.cutAt = d.wr + 1) (bq nw : List UInt8) (q : Nat) (hq : (if (b.length : Int) < if d.torn < 0 then 0 else d.torn then (b.length : Int) else if d.torn < 0 then 0 else d.torn) = (q : Int)) (hql : q ≤ b.length) (hbq : (b.map byteAV).take q = bq.map byteAV) (hbl : bq.length = q) (hnw : (d.a1.map byteAV).take kept ++ bq.map byteAV = nw.map byteAV) (hnl : nw.length = kept + q) (k : Nat) :
    ACall Tryd.prog 95 [devAV d, .lit (.int .i64 1), .lit (.int .i64 kept), .slice none (b.map byteAV)] k [] (.tup [devAV { d with a1 := nw, wr := d.wr + 1, off := true }, .lit (.int .i64 27)]) [] := by
  have hcs := And.intro (CopiedM1_spec d hd.h0 hd.h1) True.intro
  obtain ⟨a0, a1, act, cap, wr_, cutAt, torn, off⟩ := d
  obtain ⟨h0, h1, hw0, hw1⟩ := hd
  simp only at hoff hc hcut hq hnw h0 h1 hw0 hw1 hk
  subst hoff
  subst hcut
  simp only [devAV, devM, bAV] at *
  refine ACall.of_body mixed Tryd.func95 rfl (by kernel_rfl) Tryd.ntmps95 (by kernel_rfl) rfl (by simp) (by simp) (by simp) fun σ N hp hpn hk hkn hfree => ?_
  repeat (first | apply go_nil | apply go_kreg | apply go_kreg0 | apply go_kreg1 | (apply go_kregT; · (first | (simp [addT, CF, CFy, Ind, DisjF]; done) | (simp only [addT, CF, CFy, Ind]; repeat' (first | exact trivial | apply And.intro | exact Or.inl (by decide +kernel) | (refine Or.inr ⟨?_, ?_⟩ <;> (simp; try omega)))))) | apply go_then | apply go_then_exit | apply go_then_ret | apply go_blk | apply go_blk_ret | apply go_blk_here | (apply go_blk_there; · rfl) | apply go_seq | (apply go_region; · (simp only [List.length_cons, List.length_nil, Nat.reduceAdd, Nat.add_assoc]; rfl)) | apply go_skip | apply go_block | apply go_scope | apply go_label | apply go_exit | (apply go_mut; (· assumption); · (simp (disch := omega) [go_sem, *, -List.reduceReplicate]; first | exact ⟨rfl, rfl⟩ | (simp [go_sem, *]; exact ⟨rfl, rfl⟩))) | (apply go_mutP; (· assumption); · (simp (disch := omega) [go_sem, *, -List.reduceReplicate]; try first | rfl | exact ⟨rfl, rfl⟩ | exact ⟨rfl, rfl, rfl⟩)) | (apply go_guard_in; (· rfl); · (simp (disch := omega) [go_sem, *, -List.reduceReplicate]; try first | rfl | omega)) | (apply go_guard_off; (· rfl); · (simp (disch := omega) [go_sem, *, -List.reduceReplicate]; try first | rfl | omega)) | (apply go_guard_no; (· rfl); · (simp (disch := omega) [go_sem, *, -List.reduceReplicate]; try rfl)) | ((first | apply go_move | apply go_assign | apply go_load | apply go_store | apply go_append | apply go_copy | apply go_copy0 | apply go_clear0 | apply go_slice3 | apply go_indexA); · (simp (disch := omega) [go_sem, *, -List.reduceReplicate]; try first | rfl | exact ⟨rfl, rfl⟩ | exact ⟨rfl, rfl, rfl⟩)) | ((first | apply go_loadv | apply go_append0 | apply go_beyond); · (simp (disch := omega) [go_sem, *, -List.reduceReplicate]; try first | rfl | exact ⟨rfl, rfl⟩ | exact ⟨rfl, rfl, rfl⟩)) | (apply go_appself; · (simp (disch := omega) [go_sem, *, -List.reduceReplicate]; try first | rfl | exact ⟨rfl, rfl⟩ | exact ⟨rfl, rfl, rfl⟩)) | ((first | (apply go_appendz; · rfl) | (apply go_new; · rfl) | (apply go_pure; · rfl)); · (simp (disch := omega) [go_sem, *, -List.reduceReplicate]; try first | rfl | exact ⟨rfl, rfl⟩ | exact ⟨rfl, rfl, rfl⟩)) | ((apply go_glob; · assumption); · (simp (disch := omega) [go_sem, *, -List.reduceReplicate]; try first | rfl | exact ⟨rfl, rfl⟩ | exact ⟨rfl, rfl, rfl⟩)) | (apply go_read1; (· rfl); · (simp (disch := omega) [go_sem, *, -List.reduceReplicate]; try first | rfl | exact ⟨rfl, rfl⟩ | exact ⟨rfl, rfl, rfl⟩)) | (apply go_rw1; (· rfl); · (simp (disch := omega) [go_sem, *, -List.reduceReplicate]; try first | rfl | exact ⟨rfl, rfl⟩ | exact ⟨rfl, rfl, rfl⟩)) | (apply go_new1; (· rfl); · (simp (disch := omega) [go_sem, *, -List.reduceReplicate]; try first | rfl | exact ⟨rfl, rfl⟩ | exact ⟨rfl, rfl, rfl⟩)) | (apply go_conv; · (simp (disch := omega) [go_sem, *, -List.reduceReplicate]; try first | rfl | exact ⟨rfl, rfl⟩ | exact ⟨rfl, rfl, rfl⟩)) | ((first | (apply go_new; · rfl) | (apply go_pure; · rfl)); · (simp (disch := omega) [go_sem, *, -List.reduceReplicate]; simp [go_sem, *]; try first | rfl | exact ⟨rfl, rfl⟩)) | (apply go_condT; · (simp (disch := omega) [go_sem, *, -List.reduceReplicate]; try first | rfl | omega; done)) | (apply go_condF; · (simp (disch := omega) [go_sem, *, -List.reduceReplicate]; try first | rfl | omega; done)) | (obtain ⟨hcall, hcs⟩ := hcs; refine go_callw (hcall _) (by simp (disch := omega) [go_sem, *, -List.reduceReplicate]; try rfl) (by simp (disch := omega) [go_sem, *, -List.reduceReplicate]; repeat' first | exact ALe.nil | exact AV.le_refl _ | exact AV.le_nils | exact AV.le_own _ _ | apply ALe.cons | apply AV.sub_agg) (by simp (disch := omega) [go_sem, *, -List.reduceReplicate]) ?_; clear hcall))
  refine go_freezeIn (N + 1) [0, 1] (r := N + 3 + 1) (ver := 2) (size := 1) (e := 5) (xs := nw.map byteAV) (k := nw.length) (by simp (disch := omega) [go_sem, *, -List.reduceReplicate]; exact ⟨rfl, rfl⟩) (by simp (disch := omega) [go_sem, *, -List.reduceReplicate]) (by simp (disch := omega) [go_sem, *, -List.reduceReplicate]) (by simp) ?_
  refine go_ret ?_; repeat (first | (refine go_then_ret ?_) | (refine go_blk_ret ?_))
  refine go_result (by simp (disch := omega) [go_sem, *, -List.reduceReplicate]; rfl) (by simp (disch := omega) [go_sem]; try rfl) (fun id hid => by simp (disch := omega) only [upd_ne, wr_cons, wr_nil]; try exact hlow id hid)

theorem write1_ok (d : Dv) (kept : Nat) (b : List UInt8) (hd : DvOk d) (hb : b.length ≤ 1000000) (hk : kept ≤ d.a1.length) (hoff : d.off = false) (hc : ¬ d.cap < kept + b.length) (hcut : ¬ d.wr + 1 = d.cutAt) (nw : List UInt8) (hnw : (d.a1.map byteAV).take kept ++ b.map byteAV = nw.map byteAV) (hnl : nw.length = kept + b.length) (k : Nat) :
    ACall Tryd.prog 95 [devAV d, .lit (.int .i64 1), .lit (.int .i64 kept), .slice none (b.map byteAV)] k [] (.tup [devAV { d with a1 := nw, wr := d.wr + 1, act := 1 }, .lit (.int .i64 0)]) [] := by
  have hcs := And.intro (CopiedM1_spec d hd.h0 hd.h1) True.intro
  obtain ⟨a0, a1, act, cap, wr_, cutAt, torn, off⟩ := d
  obtain ⟨h0, h1, hw0, hw1⟩ := hd
  simp only at hoff hc hcut hnw h0 h1 hw0 hw1 hk
  subst hoff
  have hcb : (wr_ + 1 == cutAt) = false := by rw [beq_eq_false_iff_ne]; exact hcut
  simp only [devAV, devM, bAV] at *
  refine ACall.of_body mixed Tryd.func95 rfl (by kernel_rfl) Tryd.ntmps95 (by kernel_rfl) rfl (by simp) (by simp) (by simp) fun σ N hp hpn hk hkn hfree => ?_
  repeat (first | apply go_nil | apply go_kreg | apply go_kreg0 | apply go_kreg1 | (apply go_kregT; · (first | (simp [addT, CF, CFy, Ind, DisjF]; done) | (simp only [addT, CF, CFy, Ind]; repeat' (first | exact trivial | apply And.intro | exact Or.inl (by decide +kernel) | (refine Or.inr ⟨?_, ?_⟩ <;> (simp; try omega)))))) | apply go_then | apply go_then_exit | apply go_then_ret | apply go_blk | apply go_blk_ret | apply go_blk_here | (apply go_blk_there; · rfl) | apply go_seq | (apply go_region; · (simp only [List.length_cons, List.length_nil, Nat.reduceAdd, Nat.add_assoc]; rfl)) | apply go_skip | apply go_block | apply go_scope | apply go_label | apply go_exit | (apply go_mut; (· assumption); · (simp (disch := omega) [go_sem, *, -List.reduceReplicate]; first | exact ⟨rfl, rfl⟩ | (simp [go_sem, *]; exact ⟨rfl, rfl⟩))) | (apply go_mutP; (· assumption); · (simp (disch := omega) [go_sem, *, -List.reduceReplicate]; try first | rfl | exact ⟨rfl, rfl⟩ | exact ⟨rfl, rfl, rfl⟩)) | (apply go_guard_in; (· rfl); · (simp (disch := omega) [go_sem, *, -List.reduceReplicate]; try first | rfl | omega)) | (apply go_guard_off; (· rfl); · (simp (disch := omega) [go_sem, *, -List.reduceReplicate]; try first | rfl | omega)) | (apply go_guard_no; (· rfl); · (simp (disch := omega) [go_sem, *, -List.reduceReplicate]; try rfl)) | ((first | apply go_move | apply go_assign | apply go_load | apply go_store | apply go_append | apply go_copy | apply go_copy0 | apply go_clear0 | apply go_slice3 | apply go_indexA); · (simp (disch := omega) [go_sem, *, -List.reduceReplicate]; try first | rfl | exact ⟨rfl, rfl⟩ | exact ⟨rfl, rfl, rfl⟩)) | ((first | apply go_loadv | apply go_append0 | apply go_beyond); · (simp (disch := omega) [go_sem, *, -List.reduceReplicate]; try first | rfl | exact ⟨rfl, rfl⟩ | exact ⟨rfl, rfl, rfl⟩)) | (apply go_appself; · (simp (disch := omega) [go_sem, *, -List.reduceReplicate]; try first | rfl | exact ⟨rfl, rfl⟩ | exact ⟨rfl, rfl, rfl⟩)) | ((first | (apply go_appendz; · rfl) | (apply go_new; · rfl) | (apply go_pure; · rfl)); · (simp (disch := omega) [go_sem, *, -List.reduceReplicate]; try first | rfl | exact ⟨rfl, rfl⟩ | exact ⟨rfl, rfl, rfl⟩)) | ((apply go_glob; · assumption); · (simp (disch := omega) [go_sem, *, -List.reduceReplicate]; try first | rfl | exact ⟨rfl, rfl⟩ | exact ⟨rfl, rfl, rfl⟩)) | (apply go_read1; (· rfl); · (simp (disch := omega) [go_sem, *, -List.reduceReplicate]; try first | rfl | exact ⟨rfl, rfl⟩ | exact ⟨rfl, rfl, rfl⟩)) | (apply go_rw1; (· rfl); · (simp (disch := omega) [go_sem, *, -List.reduceReplicate]; try first | rfl | exact ⟨rfl, rfl⟩ | exact ⟨rfl, rfl, rfl⟩)) | (apply go_new1; (· rfl); · (simp (disch := omega) [go_sem, *, -List.reduceReplicate]; try first | rfl | exact ⟨rfl, rfl⟩ | exact ⟨rfl, rfl, rfl⟩)) | (apply go_conv; · (simp (disch := omega) [go_sem, *, -List.reduceReplicate]; try first | rfl | exact ⟨rfl, rfl⟩ | exact ⟨rfl, rfl, rfl⟩)) | ((first | (apply go_new; · rfl) | (apply go_pure; · rfl)); · (simp (disch := omega) [go_sem, *, -List.reduceReplicate]; simp [go_sem, *]; try first | rfl | exact ⟨rfl, rfl⟩)) | (apply go_condT; · (simp (disch := omega) [go_sem, *, -List.reduceReplicate]; try first | rfl | omega; done)) | (apply go_condF; · (simp (disch := omega) [go_sem, *, -List.reduceReplicate]; try first | rfl | omega; done)) | (obtain ⟨hcall, hcs⟩ := hcs; refine go_callw (hcall _) (by simp (disch := omega) [go_sem, *, -List.reduceReplicate]; try rfl) (by simp (disch := omega) [go_sem, *, -List.reduceReplicate]; repeat' first | exact ALe.nil | exact AV.le_refl _ | exact AV.le_nils | exact AV.le_own _ _ | apply ALe.cons | apply AV.sub_agg) (by simp (disch := omega) [go_sem, *, -List.reduceReplicate]) ?_; clear hcall))
  refine go_freezeIn (N + 1) [0, 1] (r := N + 3 + 1) (ver := 2) (size := 1) (e := 5) (xs := nw.map byteAV) (k := nw.length) (by simp (disch := omega) [go_sem, *, -List.reduceReplicate]; exact ⟨rfl, rfl⟩) (by simp (disch := omega) [go_sem, *, -List.reduceReplicate]) (by simp (disch := omega) [go_sem, *, -List.reduceReplicate]) (by simp) ?_
  refine go_ret ?_; repeat (first | (refine go_then_ret ?_) | (refine go_blk_ret ?_))
  refine go_result (by simp (disch := omega) [go_sem, *, -List.reduceReplicate]; rfl) (by simp (disch := omega) [go_sem]; try rfl) (fun id hid => by simp (disch := omega) only [upd_ne, wr_cons, wr_nil]; try exact hlow id hid)

theorem write1_spec (d : Dv) (kept : Nat) (b : List UInt8) (hd : DvOk d) (hb : b.length ≤ 1000000) (hk : kept ≤ d.a1.length) (k : Nat) :
    ACall Tryd.prog 95 [devAV d, .lit (.int .i64 1), .lit (.int .i64 kept), .slice none (b.map byteAV)] k [] (.tup [devAV (writeS d 1 kept b).1, .lit (.int .i64 (writeS d 1 kept b).2)]) [] := by
  unfold writeS
  cases hoff : d.off with
  | true => rw [if_pos rfl]; exact write1_off d kept b hd hb hk hoff k
  | false =>
    rw [if_neg (by simp)]
    by_cases hc : d.cap < kept + b.length
    · rw [if_pos hc]; exact write1_full d kept b hd hb hk hoff hc k
    · rw [if_neg hc]
      by_cases hcut : d.wr + 1 = d.cutAt
      · rw [if_pos hcut]
        have hq := cutN_le d.torn b.length
        exact write1_cut d kept b hd hb hk hoff hc hcut.symm (b.take (cutN d.torn b.length)) (d.a1.take kept ++ b.take (cutN d.torn b.length)) _ (cutN_eq _ _) hq (by rw [List.map_take]) (by rw [List.length_take]; omega) (by simp [List.map_append, List.map_take]) (by simp; omega) k
      · rw [if_neg hcut]
        exact write1_ok d kept b hd hb hk hoff hc hcut (d.a1.take kept ++ b) (by simp [List.map_append, List.map_take]) (by simp; omega) k

end Go.Proofs.YtaelnglalpiemaaDoor
