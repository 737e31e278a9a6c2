/- Texts X22, joined. -/
import Derived.Test.YtdmjpolnbmoehaaGreatDoorME4

namespace Go.Proofs.YtdmjpolnbmoehaaGreatDoor
open Go.Ab
attribute [local irreducible] Go.Ab.tyAV Go.Ab.aw Go.Ab.aops Go.Ab.kReg Go.Ab.aThen Go.Ab.aBlk Go.Ab.acond Go.Ab.aguard Go.Ab.astep Go.Ab.AStepX Go.Ab.aRet
attribute [local irreducible] shaG
theorem born_wf {b : Int} (h1 : -80000000 ≤ b) (h2 : b ≤ 80000000) : (Lit.int .i64 b).wf = true := by
 have e1 : IntKind.i64.min = -9223372036854775808 := by decide
 have e2 : IntKind.i64.max = 9223372036854775807 := by decide
 simp only [Lit.wf, Bool.and_eq_true, decide_eq_true_iff, e1, e2]; omega
theorem persD_wf {l : List Int} {nm : List (List UInt8)} : ∀ f u i, ∀ p ∈ (persD l nm f u i).1, (Lit.int .i64 p.born).wf = true
 | 0, _, _, p, hp => by cases hp
 | f + 1, u, i, p, hp => by
  unfold persD at hp
  split at hp
  ·rcases List.mem_cons.1 hp with rfl | hp
   ·have := nextD_lt l (nextD l i 5).2 100 (by omega)
    exact born_wf (by simp only; omega) (by simp only; omega)
   ·exact persD_wf f _ _ p hp
  ·cases hp
theorem concD_wf (l : List Int) (i : Nat) (t : Tg) : ∀ p ∈ (concD l i t).1.ps, (Lit.int .i64 p.born).wf = true := persD_wf _ _ _
theorem nameD_len (l : List Int) (i : Nat) : (nameD l i).1.length ≤ 50 := by
 have b1 := nextD_lt l i 8 (by omega)
 unfold nameD
 simp only
 generalize (nextD l i 8).1 = x at *
 obtain rfl | rfl | rfl | rfl | rfl | rfl | rfl | rfl : x = 0 ∨ x = 1 ∨ x = 2 ∨ x = 3 ∨ x = 4 ∨ x = 5 ∨ x = 6 ∨ x = 7 := by omega
 all_goals decide
section
variable [W : W32]
theorem blankS_lenG {a : Alg} {m : Nat} (_h : AlgIn a m) (c : Co) {t : Te} : (blankS a c t).2.1.ticket.length ≤ 1000 ∨ (teB t = true ∧ (blankS a c t).2.1.ticket = (sealS (keyS a).1 c.key (keyS a).1.fresh (plainT (keyS a).2.1 t)).2.1) := by
 unfold blankS
 split
 ·exact .inl (by simp [bl0])
 ·rename_i h1
  split
  ·split
   ·refine .inr ⟨?_, rfl⟩
    cases ht : teB t with
    | true => rfl
    | false => exact absurd (.inl ht) h1
   ·exact .inl (by simp [bl0])
  ·exact .inl (by simp [bl0])
theorem blankS_len2 {a : Alg} {m : Nat} (h : AlgIn a m) (ok : AlgOk a) (c : Co) (t : Te) : (blankS a c t).2.1.ticket.length ≤ 1000 := by
 rcases blankS_lenG h c (t := t) with h1 | ⟨h1, h2⟩
 ·exact h1
 ·rw [h2]
  by_cases h0 : (sealS (keyS a).1 c.key (keyS a).1.fresh (plainT (keyS a).2.1 t)).2.2 = 0
  ·have := sealS_box ok.key h0
   have := plainT_len (keyS a).2.1 t h1
   omega
  ·have h3 : (sealS (keyS a).1 c.key (keyS a).1.fresh (plainT (keyS a).2.1 t)).2.1 = [] := by
    revert h0
    unfold sealS
    split
    ·intro _; rfl
    ·split
     ·intro _; rfl
     ·split
      ·intro h; exact absurd rfl h
      ·split
       ·intro _; rfl
       ·intro h; exact absurd rfl h
   rw [h3]; simp
theorem grantS_small (a : Alg) (c : Co) (t holder : List UInt8) (minute : Int) : (grantS a c t holder minute).2.1.ticket.length ≤ t.length ∧ (grantS a c t holder minute).2.1.conds.length ≤ 1 := by
 unfold grantS
 split
 ·simp [di0]
 ·split
  ·simp [di0]
  ·split
   ·simp [di0]
   ·split
    ·simp [di0]
    ·split
     ·simp [di0]
     ·split
      ·exact restrS_small _ _ _
      ·simp [di0]
def GrQ (a : Alg) (c : Co) (t holder : List UInt8) (minute : Int) (g h : Nat) : Prop := ∃ r : Alg × Di × Nat,
 (∀ k, ACall Tryz.prog 53 [algAV a, concAV c, .slice none (t.map byteAV), strAV holder, .lit (.int .i64 minute)] k [(g, shaG), (h, bitsG)] (mdAV r) []) ∧
 (∀ k, ACall Tryz.prog 54 [algAV a, concAV c, .slice none (t.map byteAV), strAV holder, .lit (.int .i64 minute)] k [] (mdAV r) []) ∧
 (∀ k, ACall Tryz.prog 22 [algAV r.1, algAV r.1] k [] (.lit (.bool true)) []) ∧
 (∀ k, ACall Tryz.prog 23 [diAV r.2.1, diAV r.2.1] k [] (.lit (.bool true)) [])
theorem GrQ_ex {a : Alg} {m : Nat} (ha : AlgIn a m) (hm : m ≤ 100000) {c : Co} (hc : c.ps.length ≤ 5) (hcw : ∀ p ∈ c.ps, (Lit.int .i64 p.born).wf = true) {t holder : List UInt8} (ht : t.length ≤ 1000) (hh : holder.length ≤ 50) (minute : Int) {g h : Nat} (hgh : g ≠ h) : GrQ a c t holder minute g h := by
 obtain ⟨s1, s2⟩ := grantS_small a c t holder minute
 exact ⟨grantS a c t holder minute, Grant_spec a m ha (by omega) c (by omega) hcw t (by omega) holder (by omega) minute g h hgh, refGrant_spec a m ha (by omega) c (by omega) t (by omega) holder (by omega) minute, SameAlg_refl _ (m + 2) (grantS_in ha c t holder minute) (by omega), SameDis_refl _ (by omega) (by omega)⟩
set_option maxHeartbeats 16000000 in
theorem DischargeGrant_core (xs : List Int) (hx : xs.length ≤ 9223372036854775807) (raw0 hold0 : List UInt8) (_hh0 : hold0.length ≤ 9223372036854775807) (minute : Int) (t0 : Te) (g h : Nat) (hgh : g ≠ h) (k : Nat) :
  ACall Tryz.prog 9 [.slice none (xs.map intAV), .slice none (raw0.map byteAV), strAV hold0, .lit (.int .i64 minute), teAV t0] k [(g, shaG), (h, bitsG)] (.lit (.bool true)) [] := by
 have c9 := awake15_spec
 obtain ⟨m1, raw, q1, q2, q3, q4, q5⟩ := cutB0 100 raw0
 obtain ⟨m2, hold, p1, p2, p3, p4, p5⟩ := cutS0 50 hold0
 have q6 : (if (100 : Int) < (raw0.length : Int) then (100 : Int) else (raw0.length : Int)) = (m1 : Int) := q1
 have p6 : (if (50 : Int) < (hold0.length : Int) then (50 : Int) else (hold0.length : Int)) = (m2 : Int) := p1
 clear q1 p1
 have c1 := New_spec xs
 have hx0 : Dk xs 0 := ⟨hx, Nat.zero_le _⟩
 have c2 := Algebra_spec xs 0 hx0
 have hA := algD_in xs 0
 have hAo := algD_ok xs 0
 have hj0 := algD_dk (l := xs) (i := 0) hx0
 generalize algD xs 0 = X at *
 obtain ⟨A, j0⟩ := X
 simp only at *
 have c3 := Tag_spec xs j0 hj0
 have hj1 := tagD_dk hj0
 generalize tagD xs j0 = TD at *
 obtain ⟨T, j1⟩ := TD
 simp only at c3 hj1
 have c4 := Concession_spec xs j1 T hj1
 have hj2 := concD_dk (t := T) hj1
 have hcw := concD_wf xs j1 T
 have hcl := concD_len xs j1 T
 generalize concD xs j1 T = CD at *
 obtain ⟨C, j2⟩ := CD
 simp only at c4 hj2 hcw hcl
 have c5 := Next_spec xs j2 3 hj2 (by omega) (by omega)
 have hj3 := nextD_dk 3 hj2
 generalize nextD xs j2 3 = X3 at *
 obtain ⟨x3, j3⟩ := X3
 simp only at c5 hj3
 have c6 := Next_spec xs j3 40 hj3 (by omega) (by omega)
 have hj4 := nextD_dk 40 hj3
 have b4 := nextD_lt xs j3 40 (by omega)
 generalize nextD xs j3 40 = X4 at *
 obtain ⟨x4, j4⟩ := X4
 simp only at c6 hj4 b4
 have c7 := Next_spec xs j4 100 hj4 (by omega) (by omega)
 have hj5 := nextD_dk 100 hj4
 have b5 := nextD_lt xs j4 100 (by omega)
 generalize nextD xs j4 100 = X5 at *
 obtain ⟨x5, j5⟩ := X5
 simp only at c7 hj5 b5
 obtain ⟨t1, t2⟩ := t0
 obtain ⟨ta, tb, jt, hjt, ht0, ht1⟩ : ∃ (ta tb : Int) (jt : Nat), Dk xs jt ∧ (x3 = 0 → ta = t1 ∧ tb = t2 ∧ jt = j3) ∧ (x3 ≠ 0 → ta = x4 ∧ tb = 40 + (x5 : Int) ∧ jt = j5) := by
  by_cases h3 : x3 = 0
  ·exact ⟨t1, t2, j3, hj3, fun _ => ⟨rfl, rfl, rfl⟩, fun h => absurd h3 h⟩
  ·exact ⟨x4, 40 + (x5 : Int), j5, hj5, fun h => absurd h h3, fun _ => ⟨rfl, rfl, rfl⟩⟩
 have c8 := refBlank_spec A 5 hA (by decide) C ⟨ta, tb⟩
 have hB := blankS_in hA C ⟨ta, tb⟩
 have hBl := blankS_len2 hA hAo C ⟨ta, tb⟩
 generalize blankS A C ⟨ta, tb⟩ = B at *
 obtain ⟨BA, ⟨bp, bk, bt⟩, BE⟩ := B
 unfold mlAV at c8
 simp only at c8 hB hBl
 have hbA : blAV ⟨bp, bk, bt⟩ = .agg [.lit (.int .i64 bp), tagAV bk, .slice none (bt.map byteAV)] := rfl
 have htA : ∀ x y : Int, teAV ⟨x, y⟩ = .agg [.lit (.int .i64 x), .lit (.int .i64 y)] := fun _ _ => rfl
 have hsA : ∀ s : List UInt8, strAV s = .lit (.string ⟨s.toArray⟩) := fun _ => rfl
 rw [hbA, htA] at c8
 rw [hsA, htA]
 clear hx0 hx hj0 hj1 hj2 hj3 hj4 hj5 hbA hA hAo
 refine Bd Tryz.func9 Tryz.ntmps9 fun σ N hp hpn hk hkn hfree => ?_
 simp only [List.mem_cons, List.not_mem_nil, or_false, forall_eq_or_imp, forall_eq] at hp hpn; obtain ⟨hd1, hd2⟩ := hp; obtain ⟨hdn1, hdn2⟩ := hpn
 have hcs := And.intro c1 (And.intro (c2 (N + 14 + 1)) (And.intro (c3 (N + 14 + 1)) (And.intro (c4 (N + 14 + 1)) (And.intro (c5 (N + 14 + 1)) True.intro))))
 clear c1 c2 c3 c4 c5
 refine Wk ?_
 clear hcs
 refine go_if [44, 45, 46, 47, 48, 49] [N, N + 14 + 1] (fun σ' => σ' N = .box 104 (.agg [.lit (.int .i64 ta), .lit (.int .i64 tb)]) ∧ σ' (N + 14 + 1) = deckBox xs jt) (fun hs_0 hf_0 => ?_) (fun s0 σ0 m0 hs_1 hf_1 hn0 g7 => ?_)
 ·by_cases h3 : x3 = 0
  ·obtain ⟨rfl, rfl, rfl⟩ := ht0 h3
   subst h3
   refine Wk ?_
   exact ⟨WS, hf_0, WN, by (refine ⟨?_, ?_⟩) <;> simp (disch := omega) [go_sem, *, -List.reduceReplicate]⟩
  ·obtain ⟨rfl, rfl, rfl⟩ := ht1 h3
   have h3i : (0 : Int) < (x3 : Int) := by omega
   have hcs := And.intro (c6 (N + 14 + 1)) (And.intro (c7 (N + 14 + 1)) True.intro)
   clear c6 c7
   refine Wk ?_
   exact ⟨WS, by simp only [wr_cons, wr_nil]; exact EKeep.updL (by simp) (EKeep.updL (by simp) (EKeep.updL (by simp) hf_0)), WN, by (refine ⟨?_, ?_⟩) <;> simp (disch := omega) [go_sem, *, -List.reduceReplicate]⟩
 obtain ⟨g7a, g7b⟩ := g7
 have g1_1 := KS hs_1 1
 have g2_1 := KS hs_1 2
 have g3_1 := KS hs_1 3
 have g9_1 := KS hs_1 9
 have g10_1 := KS hs_1 10
 have g11_1 := KS hs_1 11
 have g12_1 := KS hs_1 12
 have g13_1 := KS hs_1 13
 have k1_1 := KE hf_1 (N + 17 + 2)
 have k2_1 := KE hf_1 (N + 21 + 4)
 have k3_1 := KE hf_1 g
 have k4_1 := KE hf_1 h
 have hlow := KL (N := N) (σ := σ) hf_1
 clear hs_1 hf_1 ht0 ht1 c6 c7
 have hcs := And.intro c8 True.intro
 clear c8
 refine Wk ?_
 clear hcs
 refine go_loopF mixed (by kernel_rfl) (2 :: 3 :: 10 :: 16 :: 17 :: 18 :: 19 :: 20 :: 21 :: 22 :: 58 :: 59 :: 60 :: 61 :: 62 :: 63 :: 64 :: 65 :: 66 :: 67 :: 68 :: 69 :: 70 :: 71 :: 72 :: 73 :: 74 :: 75 :: 76 :: 77 :: 78 :: 79 :: 80 :: 81 :: 82 :: 83 :: 84 :: 85 :: 86 :: 87 :: 88 :: 89 :: 90 :: 91 :: 92 :: 93 :: 94 :: 95 :: 96 :: 97 :: 98 :: 99 :: 100 :: 101 :: 102 :: 103 :: 104 :: 105 :: 106 :: 107 :: 108 :: []) [N+14+1, m0+8] (fun m_ s_ σ_ n_ => ∃ (i : Nat) (hl : List UInt8) (mi : Int) (tk : List UInt8) (jd : Nat), m_ = 4 - i ∧ s_ 16 = .lit (.int .i64 i) ∧ s_ 2 = .lit (.string ⟨hl.toArray⟩) ∧ s_ 3 = .lit (.int .i64 mi) ∧ σ_ (N+14+1) = deckBox xs jd ∧ σ_ (m0+8) = .box 108 (.agg [.lit (.int .i64 bp), tagAV bk, .slice none (tk.map byteAV)]) ∧ (i ≤ 4) ∧ (hl.length ≤ 50) ∧ (tk.length ≤ 1000) ∧ (Dk xs jd)) ⟨_, 0, hold, minute, bt, jt, rfl, WF, WF, WF, WF, WF, WC, WC, WC, WC⟩ ?_
 intro m_1 s_1 σ_1 n_1 hs_1 hf_1 hn_1 hI_1
 obtain ⟨i, hl, mi, tk, jd, hm_1, h1_16, h1_2, h1_3, e1_0, e1_1, hi, hhl, htk, hjd⟩ := hI_1
 have h1_1 := KS hs_1 1
 have h1_11 := KS hs_1 11
 have h1_12 := KS hs_1 12
 have h1_13 := KS hs_1 13
 have h1_14 := KS hs_1 14
 have k1_0 := KE hf_1 (N + 17 + 2)
 have k1_1 := KE hf_1 (N + 21 + 4)
 have k1_2 := KE hf_1 (g)
 have k1_3 := KE hf_1 (h)
 have hlow := KL (N := N) (σ := σ) hf_1
 clear hjt hBl
 obtain hi4 | hi4 : i = 4 ∨ i < 4 := by omega
 ·subst hi4
  have hcs := And.intro c9 True.intro
  clear c9 hB hcw hjd
  exact W0
 ·obtain ⟨⟨RA, RB, RE⟩, k1, k2, k3, k4⟩ := GrQ_ex hB (by decide) hcl hcw htk hhl mi hgh
  unfold mdAV at k1 k2
  rw [hsA] at k1 k2
  simp only at k1 k2 k3 k4
  have k5 := Name_spec0 xs jd hjd
  have hnl := nameD_len xs jd
  have d1 := nameD_dk hjd
  generalize nameD xs jd = X6 at *
  obtain ⟨nm, jd1⟩ := X6
  simp only at k5 hnl d1
  rw [hsA] at k5
  have k6 := Minute_spec xs jd1 d1
  have d2 := minuteD_dk d1
  generalize minuteD xs jd1 = X7 at *
  obtain ⟨mn, jd2⟩ := X7
  simp only at k6 d2
  clear hB hcw c9 hjd htA hsA
  obtain rfl | rfl | rfl | rfl : i = 0 ∨ i = 1 ∨ i = 2 ∨ i = 3 := by omega
  ·have hcs := And.intro k1 (And.intro k2 (And.intro k3 (And.intro k4 (And.intro (k5 (N + 14 + 1)) True.intro))))
   clear k1 k2 k3 k4 k5 k6
   refine Wk ?_
   clear hcs
   exact ⟨WS, WG, WN, _, (show 4 - (0 + 1) < m_1 by omega), 0 + 1, nm, mi, tk, jd1, rfl, WF, WF, WF, WF, WF, WC, WC, WC, WC⟩
  ·have hcs := And.intro k1 (And.intro k2 (And.intro k3 (And.intro k4 (And.intro (k5 (N + 14 + 1)) (And.intro (k6 (N + 14 + 1)) True.intro)))))
   clear k1 k2 k3 k4 k5 k6
   refine Wk ?_
   clear hcs
   exact ⟨WS, WG, WN, _, (show 4 - (1 + 1) < m_1 by omega), 1 + 1, nm, (mn : Int), tk, jd2, rfl, WF, WF, WF, WF, WF, WC, WC, WC, WC⟩
  ·have hcs := And.intro k1 (And.intro k2 (And.intro k3 (And.intro k4 (And.intro (k5 (N + 14 + 1)) True.intro))))
   clear k1 k2 k3 k4 k5 k6
   refine Wk ?_
   clear hcs
   exact ⟨WS, WG, WN, _, (show 4 - (2 + 1) < m_1 by omega), 2 + 1, nm, mi, raw, jd1, rfl, WF, WF, WF, WF, WF, WC, WC, WC, WC⟩
  ·have hcs := And.intro k1 (And.intro k2 (And.intro k3 (And.intro k4 (And.intro (k5 (N + 14 + 1)) True.intro))))
   clear k1 k2 k3 k4 k5 k6
   refine Wk ?_
   clear hcs
   exact ⟨WS, WG, WN, _, (show 4 - (3 + 1) < m_1 by omega), 3 + 1, nm, mi, tk, jd1, rfl, WF, WF, WF, WF, WF, WC, WC, WC, WC⟩
end
theorem DischargeGrant_spec (xs : List Int) (_ : ∀ n ∈ xs, (Lit.int .i64 n).wf = true) (hx : xs.length ≤ 9223372036854775807) (raw : List UInt8) (hold : List UInt8) (hh : hold.length ≤ 9223372036854775807) (minute : Int) (t : Te) (_ : True) (g h : Nat) (hgh : g ≠ h) (k : Nat) :
  ACall Tryz.prog 9 [.slice none (xs.map intAV), .slice none (raw.map byteAV), strAV hold, .lit (.int .i64 minute), teAV t] k [(g, shaG), (h, bitsG)] (.lit (.bool true)) [] :=
 @DischargeGrant_core w32 xs hx raw hold hh minute t g h hgh k
end Go.Proofs.YtdmjpolnbmoehaaGreatDoor
