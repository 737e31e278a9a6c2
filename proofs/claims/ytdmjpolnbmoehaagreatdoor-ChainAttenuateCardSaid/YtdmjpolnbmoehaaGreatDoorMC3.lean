/- Texts W2, Q6, W8, W9, W17, X13, X14, joined. -/
import Derived.Test.YtdmjpolnbmoehaaGreatDoorMC2

namespace Go.Proofs.YtdmjpolnbmoehaaGreatDoor
open Go.Ab
attribute [local irreducible] Go.Ab.tyAV Go.Ab.aw Go.Ab.aops Go.Ab.kReg Go.Ab.aThen Go.Ab.aBlk Go.Ab.acond Go.Ab.aguard Go.Ab.astep Go.Ab.AStepX Go.Ab.aRet
attribute [local irreducible] shaG
section
variable [W : W32]
end

section
variable [W : W32]
end

section
variable [W : W32]
end

section
variable [W : W32]
end
end Go.Proofs.YtdmjpolnbmoehaaGreatDoor

namespace Go.Proofs.YtdmjpolnbmoehaaGreatDoor
open Go.Ab
attribute [local irreducible] Go.Ab.tyAV Go.Ab.aw Go.Ab.aops Go.Ab.kReg Go.Ab.aThen Go.Ab.aBlk Go.Ab.acond Go.Ab.aguard Go.Ab.astep Go.Ab.AStepX Go.Ab.aRet
theorem u64W {a : Int} (h : (Lit.int .u64 a).wf = true) : 0 ≤ a ∧ a < 18446744073709551616 := by
 have hw : IntKind.u64.min ≤ a ∧ a ≤ IntKind.u64.max := by simpa [Lit.wf] using h
 have e1 : IntKind.u64.min = 0 := by decide
 have e2 : IntKind.u64.max = 18446744073709551615 := by decide
 omega
theorem predW {m : Nat} {x : AV} (h : tyAV Tryz.prog (m + 2) 25 x) : ∃ p : Pr, PrOk p ∧ x = prAV p := by
 obtain ⟨xs, rfl, h1, h2⟩ := ty_struct Tryz.underlying25 h
 obtain ⟨a, b, c, d, e, f, rfl⟩ : ∃ a b c d e f, xs = [a, b, c, d, e, f] := by
  match xs, h1 with
  | [a, b, c, d, e, f], _ => exact ⟨a, b, c, d, e, f, rfl⟩
 obtain ⟨v1, _, rfl⟩ := ty_int it3 (h2 0 _ _ rfl rfl)
 obtain ⟨v2, w2, rfl⟩ := ty_int it23 (h2 1 _ _ rfl rfl)
 obtain ⟨v3, _, rfl⟩ := ty_int it3 (h2 2 _ _ rfl rfl)
 obtain ⟨v4, _, rfl⟩ := ty_int it3 (h2 3 _ _ rfl rfl)
 obtain ⟨v5, w5, rfl⟩ := ty_str st9 (h2 4 _ _ rfl rfl)
 obtain ⟨v6, _, rfl⟩ := ty_int it3 (h2 5 _ _ rfl rfl)
 exact ⟨⟨v1, v2, v3, v4, v5, v6⟩, ⟨(u64W w2).1, (u64W w2).2, w5⟩, rfl⟩
structure DiW (d : Di) : Prop where
 tl : d.ticket.length ≤ 140737488351232
 cl : d.conds.length ≤ 9223372036854775807
 ok : ∀ p ∈ d.conds, PrOk p
def CaW (c : Ca) : Prop := PrOk c.first ∧ CaSm c
theorem caveatW {m : Nat} {x : AV} (h : tyAV Tryz.prog (m + 4) 76 x) : ∃ c : Ca, CaW c ∧ x = caAV c := by
 obtain ⟨ys, rfl, h3, h4⟩ := ty_struct Tryz.underlying76 h
 obtain ⟨a, b, c, d, e, rfl⟩ : ∃ a b c d e, ys = [a, b, c, d, e] := by
  match ys, h3 with
  | [a, b, c, d, e], _ => exact ⟨a, b, c, d, e, rfl⟩
 obtain ⟨v1, rfl⟩ := ty_bool bt4 (h4 0 _ _ rfl rfl)
 obtain ⟨v2, w2, rfl⟩ := predW (h4 1 _ _ rfl rfl)
 obtain ⟨v3, _, rfl⟩ := ty_int it3 (h4 2 _ _ rfl rfl)
 obtain ⟨v4, w4, rfl⟩ := ty_bytesW sl26 by5 (by kernel_rfl) (h4 3 _ _ rfl rfl)
 obtain ⟨v5, w5, rfl⟩ := ty_bytesW sl26 by5 (by kernel_rfl) (h4 4 _ _ rfl rfl)
 exact ⟨⟨v1, v2, v3, v4, v5⟩, ⟨w2, w4, w5⟩, rfl⟩
theorem caveatW_of {x : AV} (h : tyAV Tryz.prog 8 76 x) : ∃ c : Ca, CaW c ∧ x = caAV c := caveatW h
structure PaW (p : Pa) : Prop where
 cl : p.cavs.length ≤ 9223372036854775807
 ok : ∀ c ∈ p.cavs, CaW c
theorem passW_of {x : AV} (h : tyAV Tryz.prog 8 47 x) : ∃ p : Pa, PaW p ∧ x = paAV p := by
 obtain ⟨ys, rfl, h3, h4⟩ := ty_struct Tryz.underlying47 h
 obtain ⟨a, b, c, d, rfl⟩ : ∃ a b c d, ys = [a, b, c, d] := by
  match ys, h3 with
  | [a, b, c, d], _ => exact ⟨a, b, c, d, rfl⟩
 obtain ⟨v1, _, rfl⟩ := ty_int it3 (h4 0 _ _ rfl rfl)
 obtain ⟨v2, _, rfl⟩ := ty_int it3 (h4 1 _ _ rfl rfl)
 obtain ⟨v3, ⟨w3, w3'⟩, rfl⟩ := ty_list sl45 (fun y hy => caveatW hy) (h4 2 _ _ rfl rfl)
 obtain ⟨v4, _, rfl⟩ := ty_tag ar29 by5 (h4 3 _ _ rfl rfl)
 exact ⟨⟨v1, v2, v3, v4⟩, ⟨w3, w3'⟩, rfl⟩
end Go.Proofs.YtdmjpolnbmoehaaGreatDoor

namespace Go.Proofs.YtdmjpolnbmoehaaGreatDoor
open Go.Ab
attribute [local irreducible] Go.Ab.tyAV Go.Ab.aw Go.Ab.aops Go.Ab.kReg Go.Ab.aThen Go.Ab.aBlk Go.Ab.acond Go.Ab.aguard Go.Ab.astep Go.Ab.AStepX Go.Ab.aRet
attribute [local irreducible] shaG
theorem ALe_snoc {x y : AV} (h : AV.le x y) : ∀ xs : List AV, ALe (xs ++ [x]) (xs ++ [y])
 | [] => .cons h .nil
 | z :: r => .cons (AV.le_refl z) (ALe_snoc h r)
def c12 : Ca := ⟨true, zeroPr, 0, [1], [2]⟩
theorem c12_le (C : List Ca) (r x y : Nat) : AV.le (.slice (some r) (C.map caAV ++ [.agg [.lit (.bool true), .agg [.lit (.int .i64 0), .lit (.int .u64 0), .lit (.int .i64 0), .lit (.int .i64 0), .lit (.string ByteArray.empty), .lit (.int .i64 0)], .lit (.int .i64 0), .slice (some x) [.lit (.int .u8 1)], .slice (some y) [.lit (.int .u8 2)]]])) (.slice none ((C ++ [c12]).map caAV)) := by
 rw [List.map_append]
 intro g0 v0 hv0
 refine AV.le_own _ _ g0 v0 (AV.le_sliceS (some r) (ALe_snoc ?_ _) g0 v0 hv0)
 exact AV.sub_agg (.cons (AV.le_refl _) (.cons (AV.le_refl _) (.cons (AV.le_refl _) (.cons (AV.le_own _ _) (.cons (AV.le_own _ _) .nil)))))
section
variable [W : W32]
end

def c34 : Ca := ⟨true, zeroPr, 0, [3], [4]⟩
theorem ride_le (C : List Ca) (r : Nat) : AV.le (.slice (some r) (C.map caAV ++ [caAV (ridesC 1)])) (.slice none ((C ++ [ridesC 1]).map caAV)) := by
 rw [List.map_append]
 exact AV.le_own _ _
theorem c34_le (c d : Ca) (r x y : Nat) : AV.le (.slice (some r) [caAV c, caAV d, .agg [.lit (.bool true), .agg [.lit (.int .i64 0), .lit (.int .u64 0), .lit (.int .i64 0), .lit (.int .i64 0), .lit (.string ByteArray.empty), .lit (.int .i64 0)], .lit (.int .i64 0), .slice (some x) [.lit (.int .u8 3)], .slice (some y) [.lit (.int .u8 4)]]]) (.slice none ([c, d, c34].map caAV)) := by
 intro g0 v0 hv0
 refine AV.le_own _ _ g0 v0 (AV.le_sliceS (some r) (.cons (AV.le_refl _) (.cons (AV.le_refl _) (.cons ?_ .nil))) g0 v0 hv0)
 exact AV.sub_agg (.cons (AV.le_refl _) (.cons (AV.le_refl _) (.cons (AV.le_refl _) (.cons (AV.le_own _ _) (.cons (AV.le_own _ _) .nil)))))
section
variable [W : W32]
theorem attS_cavs (a : Alg) (p : Pa) (c : Ca) : (attS a p c).2.1.cavs = [] ∨ (attS a p c).2.1.cavs = p.cavs ++ [c] := by
 unfold attS
 repeat' split
 ·exact .inl rfl
 ·exact .inl rfl
 ·exact .inr rfl
 ·exact .inl rfl
def AtQ (a : Alg) (p : Pa) (c : Ca) (g h : Nat) : Prop := ∃ r : Alg × Pa × Nat, (∀ k, ACall Tryz.prog 36 [algAV a, paAV p, caAV c] k [(g, shaG), (h, bitsG)] (mpAV r) []) ∧
 (∀ k, ACall Tryz.prog 37 [algAV a, paAV p, caAV c] k [] (mpAV r) []) ∧
 (∀ k, ACall Tryz.prog 22 [algAV r.1, algAV r.1] k [] (.lit (.bool true)) []) ∧
 (∀ k, ACall Tryz.prog 38 [paAV r.2.1, paAV r.2.1] k [] (.lit (.bool true)) [])
theorem AtQ_ex {a : Alg} {m : Nat} (ha : AlgIn a m) (hm : m ≤ 100000) {p : Pa} (hl : p.cavs.length ≤ 100) (hc : ∀ x ∈ p.cavs, CaSm x) {c : Ca} (hs : CaSm c) (hp : PrOk c.first) {g h : Nat} (hgh : g ≠ h) : AtQ a p c g h := by
 have hq := attS_cavs a p c
 refine ⟨attS a p c, Att_spec a m ha (by omega) p (by omega) hc c hs hp g h hgh, refAtt_spec a m ha (by omega) p (by omega) c hp, SameAlg_refl _ (m + 2) (attS_in ha p c) (by omega), SamePass_refl _ ?_ fun x hx => ?_⟩
 ·rcases hq with hq | hq
  ·rw [hq]; simp
  ·rw [hq]; simp; omega
 ·rcases hq with hq | hq
  ·rw [hq] at hx; cases hx
  ·rw [hq] at hx
   rcases List.mem_append.1 hx with hx | hx
   ·exact hc x hx
   ·rw [List.mem_singleton.1 hx]; exact hs
set_option maxHeartbeats 16000000 in
theorem ChainAttenuate_core (xs : List Int) (hx : xs.length ≤ 9223372036854775807) (c : Ca) (hc : CaW c) (raw : Pa) (hr : PaW raw) (n : Nat) (hn : n ≤ 255) (g h : Nat) (hgh : g ≠ h) (k : Nat) :
  ACall Tryz.prog 5 [.slice none (xs.map intAV), caAV c, paAV raw, .lit (.int .u8 n)] k [(g, shaG), (h, bitsG)] (.lit (.bool true)) [] := by
 have c9 := awake13_spec g h hgh
 obtain ⟨hc1, hc2⟩ := hc
 obtain ⟨hr1, hr2⟩ := hr
 obtain ⟨ct, cf, cp, ck, cb⟩ := c
 obtain ⟨re, rs, rc, rt⟩ := raw
 simp only at hc1 hr1 hr2
 have hl1 : ck.length ≤ 140737488351232 := hc2.1
 have hl2 : cb.length ≤ 140737488351232 := hc2.2
 have hcA : caAV ⟨ct, cf, cp, ck, cb⟩ = .agg [.lit (.bool ct), prAV cf, .lit (.int .i64 cp), .slice none (ck.map byteAV), .slice none (cb.map byteAV)] := rfl
 have hrA : paAV ⟨re, rs, rc, rt⟩ = .agg [.lit (.int .i64 re), .lit (.int .i64 rs), .slice none (rc.map caAV), tagAV rt] := rfl
 by_cases h1 : 80 < rc.length
 ·have h1i : (80 : Int) < (rc.length : Int) := by omega
  rw [hcA, hrA]
  clear hcA hrA hc1 hc2 hr2
  refine Bd Tryz.func5 Tryz.ntmps5 fun σ N hp hpn hk hkn hfree => ?_
  simp only [List.mem_cons, List.not_mem_nil, or_false, forall_eq_or_imp, forall_eq] at hp hpn; obtain ⟨hd1, hd2⟩ := hp; obtain ⟨hdn1, hdn2⟩ := hpn
  have hcs := And.intro c9 True.intro
  clear c9
  exact W0
 ·have h1i : ¬ (80 : Int) < (rc.length : Int) := by omega
  by_cases h2 : 1100 < ck.length
  ·have h2i : (1100 : Int) < (ck.length : Int) := by omega
   rw [hcA, hrA]
   clear hcA hrA hc1 hc2 hr2
   refine Bd Tryz.func5 Tryz.ntmps5 fun σ N hp hpn hk hkn hfree => ?_
   simp only [List.mem_cons, List.not_mem_nil, or_false, forall_eq_or_imp, forall_eq] at hp hpn; obtain ⟨hd1, hd2⟩ := hp; obtain ⟨hdn1, hdn2⟩ := hpn
   have hcs := And.intro c9 True.intro
   clear c9
   exact W0
  ·have h2i : ¬ (1100 : Int) < (ck.length : Int) := by omega
   by_cases h3 : 1100 < cb.length
   ·have h3i : (1100 : Int) < (cb.length : Int) := by omega
    rw [hcA, hrA]
    clear hcA hrA hc1 hc2 hr2
    refine Bd Tryz.func5 Tryz.ntmps5 fun σ N hp hpn hk hkn hfree => ?_
    simp only [List.mem_cons, List.not_mem_nil, or_false, forall_eq_or_imp, forall_eq] at hp hpn; obtain ⟨hd1, hd2⟩ := hp; obtain ⟨hdn1, hdn2⟩ := hpn
    have hcs := And.intro c9 True.intro
    clear c9
    exact W0
   ·have h3i : ¬ (1100 : Int) < (cb.length : Int) := by omega
    have c1 := New_spec xs
    obtain ⟨s, j, hs, hj, c2⟩ := Scene_ex xs 0 ⟨hx, Nat.zero_le _⟩
    obtain ⟨x, j2, _, hxo, hxm, hj2, c4⟩ := Caveat_ex xs j hj
    have c3 := rides13_spec 1
    obtain ⟨se, hG, s1, s2⟩ := hs.good
    have hin := hG.ain
    have hcl := hG.cl
    have hcv := hG.cv
    simp only at hcl hcv hin
    obtain ⟨sa, sr, sc, ⟨pe, ps, pc, pt⟩, sg, sq, sh, sm⟩ := s
    simp only at *
    have hcs2 : ∀ x ∈ pc, CaSm x := fun x hx => by have := hcv x hx; exact ⟨by omega, by omega⟩
    have hrs2 : ∀ x ∈ rc, CaSm x := fun x hx => (hr2 x hx).2
    have hsA : scAV ⟨sa, sr, sc, ⟨pe, ps, pc, pt⟩, sg, sq, sh, sm⟩ = .agg [algAV sa, rgAV sr, concAV sc, .agg [.lit (.int .i64 pe), .lit (.int .i64 ps), .slice none (pc.map caAV), tagAV pt], .slice none (sg.map diAV), rqAV sq, .lit (.string ⟨sh.toArray⟩), .lit (.int .i64 sm)] := rfl
    rw [hsA] at c2
    have hn1 : ((n : Nat) : Int).tmod 5 = ((n % 5 : Nat) : Int) := by rw [Int.tmod_eq_emod_of_nonneg (by omega)]; omega
    have hn2 : n % 5 ≤ 4 := by omega
    generalize n % 5 = n5 at *
    clear hs hG hcv hj hj2 hsA s1 s2 hr2
    rw [hcA, hrA]
    refine Bd Tryz.func5 Tryz.ntmps5 fun σ N hp hpn hk hkn hfree => ?_
    simp only [List.mem_cons, List.not_mem_nil, or_false, forall_eq_or_imp, forall_eq] at hp hpn; obtain ⟨hd1, hd2⟩ := hp; obtain ⟨hdn1, hdn2⟩ := hpn
    have hcs := And.intro c1 (And.intro (c2 (N + 19 + 1)) True.intro)
    clear c1 c2
    refine Wk ?_
    clear hcs
    refine go_loopF mixed (by kernel_rfl) [12, 49, 50, 51, 52, 53, 54, 55, 56, 57, 58, 59, 60, 61, 62, 63, 64, 65, 66, 67, 68] [N+26+2] (fun m_ s_ σ_ n_ => ∃ (i : Nat) (C : List Ca), m_ = 60 + n5 - i ∧ s_ 12 = .lit (.int .i64 i) ∧ σ_ (N+26+2) = .box 47 (.agg [.lit (.int .i64 pe), .lit (.int .i64 ps), .slice none (C.map caAV), tagAV pt]) ∧ (i ≤ 60 + n5) ∧ (C.length ≤ 10 + i) ∧ (∀ x ∈ C, CaSm x)) ⟨_, 0, pc, rfl, WF, WF, WC, WC, WC⟩ ?_
    intro m_1 s_1 σ_1 n_1 hs_1 hf_1 hn_1 hI_1
    obtain ⟨i, C, hm_1, h1_12, e1_0, hi, hC, hS⟩ := hI_1
    have h1_3 := KS hs_1 3
    have h1_5 := KS hs_1 5
    have h1_6 := KS hs_1 6
    have h1_8 := KS hs_1 8
    have h1_9 := KS hs_1 9
    have h1_10 := KS hs_1 10
    have h1_11 := KS hs_1 11
    have k1_0 := KE hf_1 (N)
    have k1_1 := KE hf_1 (N + 1)
    have k1_2 := KE hf_1 (N + 19 + 1)
    have k1_3 := KE hf_1 (N + 22 + 2)
    have k1_4 := KE hf_1 (g)
    have k1_5 := KE hf_1 (h)
    have hlow := KL (N := N) (σ := σ) hf_1
    by_cases hgo : i < 60 + n5 ∧ 99 < n
    ·obtain ⟨hi1, hi2⟩ := hgo
     have hi3 : (i : Int) < 60 + (n5 : Int) := by omega
     have hi4 : (99 : Int) < (n : Int) := by omega
     have hcs := And.intro c3 True.intro
     refine Wm ?_
     iterate 2 refine Wz ?_
     have hS1 : ∀ x, x ∈ C ∨ x = ridesC 1 → CaSm x := fun x hx => by
      rcases hx with hx | hx
      ·exact hS x hx
      ·rw [hx]; exact ⟨by decide, by decide⟩
     have hC1 : C.length + 1 ≤ 10 + (i + 1) := by omega
     refine go_lessIn (bt := 47) (N + 26 + 2) [2] (.slice none ((C ++ [ridesC 1]).map caAV)) (c := .agg [.lit (.int .i64 pe), .lit (.int .i64 ps), .slice (some (n_1 + 10)) (C.map caAV ++ [caAV (ridesC 1)]), tagAV pt]) (by simp (disch := omega) [go_sem, *, -List.reduceReplicate]; try first | done | rfl | exact ⟨rfl, rfl⟩) (by rfl) (ride_le C _) (by rfl) (by rfl) ?_
     refine Wk ?_
     exact ⟨WS, WG, WN, _, (show 60 + n5 - (i + 1) < m_1 by omega), i + 1, C ++ [ridesC 1], rfl, WF, WF, WC, WC, WC⟩
    ·have hCl : C.length ≤ 74 := by omega
     have hout : ¬ (i : Int) < 60 + (n5 : Int) ∨ ((i : Int) < 60 + (n5 : Int) ∧ ¬ (99 : Int) < (n : Int)) := by omega
     clear hgo hi c3
     rcases hout with hi3 | ⟨hi3, hi4⟩
     all_goals
      have hcs := True.intro
      refine Wk ?_
      clear hcs
      refine go_loopF mixed (by kernel_rfl) [14, 71, 72, 73, 74, 75, 76, 77, 78, 79, 80, 81, 82, 83, 84, 85, 86, 87, 88] [n_1+10+2] (fun m_ s_ σ_ n_ => ∃ (l : Nat) (D : List Ca), m_ = 5 + n5 - l ∧ s_ 14 = .lit (.int .i64 l) ∧ σ_ (n_1+10+2) = .box 47 (.agg [.lit (.int .i64 pe), .lit (.int .i64 ps), .slice none (D.map caAV), tagAV pt]) ∧ (l ≤ 5 + n5) ∧ (D.length ≤ 10 + l) ∧ (∀ x ∈ D, CaSm x)) ⟨_, 0, pc, rfl, WF, WF, WC, WC, WC⟩ ?_
      intro m_2 s_2 σ_2 n_2 hs_2 hf_2 hn_2 hI_2
      obtain ⟨l, D, hm_2, h2_14, e2_0, hl, hD, hE⟩ := hI_2
      have h2_3 := KS hs_2 3
      have h2_5 := KS hs_2 5
      have h2_6 := KS hs_2 6
      have h2_8 := KS hs_2 8
      have h2_9 := KS hs_2 9
      have h2_10 := KS hs_2 10
      have h2_11 := KS hs_2 11
      have h2_13 := KS hs_2 13
      have k2_0 := KE hf_2 (N)
      have k2_1 := KE hf_2 (N + 1)
      have k2_2 := KE hf_2 (N + 19 + 1)
      have k2_3 := KE hf_2 (N + 22 + 2)
      have k2_4 := KE hf_2 (N + 26 + 2)
      have k2_5 := KE hf_2 (g)
      have k2_6 := KE hf_2 (h)
      have hlow := KL (N := N) (σ := σ) hf_2
      by_cases hgo : l < 5 + n5
      ·have hl3 : (l : Int) < 5 + (n5 : Int) := by omega
       have hcs := True.intro
       refine Wm ?_
       iterate 2 refine Wz ?_
       have hE1 : ∀ x, x ∈ D ∨ x = c12 → CaSm x := fun x hx => by
        rcases hx with hx | hx
        ·exact hE x hx
        ·rw [hx]; exact ⟨by decide, by decide⟩
       have hD1 : D.length + 1 ≤ 10 + (l + 1) := by omega
       refine go_lessIn (bt := 47) (n_1 + 10 + 2) [2] (.slice none ((D ++ [c12]).map caAV)) (c := .agg [.lit (.int .i64 pe), .lit (.int .i64 ps), .slice (some (n_2 + 6)) (D.map caAV ++ [.agg [.lit (.bool true), .agg [.lit (.int .i64 0), .lit (.int .u64 0), .lit (.int .i64 0), .lit (.int .i64 0), .lit (.string ByteArray.empty), .lit (.int .i64 0)], .lit (.int .i64 0), .slice (some (n_2 + 6 + 4)) [.lit (.int .u8 1)], .slice (some (n_2 + 6 + 5)) [.lit (.int .u8 2)]]]), tagAV pt]) (by simp (disch := omega) [go_sem, *, -List.reduceReplicate]; try first | done | rfl | exact ⟨rfl, rfl⟩) (by rfl) (c12_le D _ _ _) (by rfl) (by rfl) ?_
       refine Wk ?_
       exact ⟨WS, WG, WN, _, (show 5 + n5 - (l + 1) < m_2 by omega), l + 1, D ++ [c12], rfl, WF, WF, WC, WC, WC⟩
      ·have hl3 : ¬ (l : Int) < 5 + (n5 : Int) := by omega
       obtain ⟨PL, hPL⟩ : ∃ PL : List Pa, PL = [⟨pe, ps, pc, pt⟩, ⟨re, rs, rc, rt⟩, ⟨pe, ps, C, pt⟩, ⟨pe, ps, D, pt⟩] := ⟨_, rfl⟩
       obtain ⟨CL, hCL⟩ : ∃ CL : List Ca, CL = [⟨ct, cf, cp, ck, cb⟩, x, c34] := ⟨_, rfl⟩
       have hq1 : ∀ r : Nat, AV.le (.slice (some r) [.agg [.lit (.int .i64 pe), .lit (.int .i64 ps), .slice none (pc.map caAV), tagAV pt], .agg [.lit (.int .i64 re), .lit (.int .i64 rs), .slice none (rc.map caAV), tagAV rt], .agg [.lit (.int .i64 pe), .lit (.int .i64 ps), .slice none (C.map caAV), tagAV pt], .agg [.lit (.int .i64 pe), .lit (.int .i64 ps), .slice none (D.map caAV), tagAV pt]]) (.slice none (PL.map paAV)) := fun r => by rw [hPL]; exact AV.le_own _ _
       have hq2 : ∀ r x1 y1 : Nat, AV.le (.slice (some r) [.agg [.lit (.bool ct), prAV cf, .lit (.int .i64 cp), .slice none (ck.map byteAV), .slice none (cb.map byteAV)], caAV x, .agg [.lit (.bool true), .agg [.lit (.int .i64 0), .lit (.int .u64 0), .lit (.int .i64 0), .lit (.int .i64 0), .lit (.string ByteArray.empty), .lit (.int .i64 0)], .lit (.int .i64 0), .slice (some x1) [.lit (.int .u8 3)], .slice (some y1) [.lit (.int .u8 4)]]]) (.slice none (CL.map caAV)) := fun r x1 y1 => by rw [hCL]; exact c34_le ⟨ct, cf, cp, ck, cb⟩ x r x1 y1
       have hP4 : PL.length = 4 := by rw [hPL]; rfl
       have hC3 : CL.length = 3 := by rw [hCL]; rfl
       have hPu : ∀ u : Nat, u < 4 → ∃ p, (PL.map paAV)[u]? = some (paAV p) ∧ p.cavs.length ≤ 100 ∧ ∀ z ∈ p.cavs, CaSm z := fun u hu => by
        rw [hPL]
        obtain rfl | rfl | rfl | rfl : u = 0 ∨ u = 1 ∨ u = 2 ∨ u = 3 := by omega
        ·exact ⟨_, rfl, by simp only; omega, hcs2⟩
        ·exact ⟨_, rfl, by simp only; omega, hrs2⟩
        ·exact ⟨_, rfl, by simp only; omega, hS⟩
        ·exact ⟨_, rfl, by simp only; omega, hE⟩
       have hCv : ∀ v : Nat, v < 3 → ∃ y, (CL.map caAV)[v]? = some (caAV y) ∧ CaSm y ∧ PrOk y.first := fun v hv => by
        rw [hCL]
        obtain rfl | rfl | rfl : v = 0 ∨ v = 1 ∨ v = 2 := by omega
        ·exact ⟨_, rfl, hc2, hc1⟩
        ·exact ⟨_, rfl, hxm, hxo⟩
        ·exact ⟨_, rfl, ⟨by decide, by decide⟩, ⟨by decide, by decide, by decide⟩⟩
       clear hPL hCL hS hE hcs2 hrs2 hc1 hc2 hxm hxo hl hD hgo
       have hcs := And.intro (c4 (N + 19 + 1)) True.intro
       clear c4
       refine Wk ?_
       clear hcs
       refine go_less 96 (by simp (disch := omega) [go_sem, *, -List.reduceReplicate]; try rfl) (hq1 _) ?_
       clear hq1
       refine go_loopF mixed (by kernel_rfl) (8 :: 17 :: 19 :: 20 :: 21 :: 22 :: 23 :: 24 :: 25 :: 98 :: 99 :: 100 :: 101 :: 102 :: 103 :: 104 :: 105 :: 106 :: 107 :: 108 :: 109 :: 110 :: 111 :: 112 :: 113 :: 114 :: 115 :: 116 :: 117 :: 118 :: 119 :: 120 :: 121 :: 122 :: 123 :: 124 :: 125 :: 126 :: 127 :: 128 :: 129 :: 130 :: 131 :: 132 :: 133 :: 134 :: 135 :: 136 :: 137 :: 138 :: 139 :: 140 :: 141 :: 142 :: 143 :: 144 :: 145 :: 146 :: 147 :: []) [] (fun m_ s_ σ_ n_ => ∃ (u : Nat), m_ = 4 - u ∧ s_ 98 = .lit (.int .i64 u) ∧ (u ≤ 4)) ⟨_, 0, rfl, WF, WC⟩ ?_
       intro m_3 s_3 σ_3 n_3 hs_3 hf_3 hn_3 hI_3
       obtain ⟨u, hm_3, h3_98, hu⟩ := hI_3
       have h3_5 := KS hs_3 5
       have h3_10 := KS hs_3 10
       have h3_15 := KS hs_3 15
       have h3_96 := KS hs_3 96
       have h3_97 := KS hs_3 97
       have k3_0 := KE hf_3 (N)
       have k3_1 := KE hf_3 (N + 1)
       have k3_2 := KE hf_3 (N + 22 + 2)
       have k3_3 := KE hf_3 (N + 26 + 2)
       have k3_4 := KE hf_3 (n_1 + 10 + 2)
       have k3_5 := KE hf_3 (n_2 + 6 + 2)
       have k3_6 := KE hf_3 (g)
       have k3_7 := KE hf_3 (h)
       have hlow := KL (N := N) (σ := σ) hf_3
       by_cases hul : u = 4
       ·subst hul
        clear hPu hCv hq2
        have hcs := And.intro c9 True.intro
        exact W0
       ·have hu1 : u < 4 := by omega
        have hu2 : (u : Int) < 4 := by omega
        obtain ⟨p, hpm, hp1, hp2⟩ := hPu u hu1
        clear hPu c9
        have hcs := True.intro
        refine Wk ?_
        clear hcs
        refine go_less 107 (by simp (disch := omega) [go_sem, *]; try exact ⟨rfl, rfl, rfl⟩) (hq2 _ _ _) ?_
        clear hq2
        refine go_loopF mixed (by kernel_rfl) [8, 19, 20, 21, 22, 23, 24, 25, 109, 110, 111, 112, 113, 114, 115, 116, 117, 118, 119, 120, 121, 122, 123, 124, 125, 126, 127, 128, 129, 130, 131, 132, 133, 134, 135, 136, 137, 138, 139, 140, 141, 142, 143, 144, 145, 146] [] (fun m_ s_ σ_ n_ => ∃ (v : Nat), m_ = 3 - v ∧ s_ 109 = .lit (.int .i64 v) ∧ (v ≤ 3)) ⟨_, 0, rfl, WF, WC⟩ ?_
        intro m_4 s_4 σ_4 n_4 hs_4 hf_4 hn_4 hI_4
        obtain ⟨v, hm_4, h4_109, hv⟩ := hI_4
        have h4_5 := KS hs_4 5
        have h4_10 := KS hs_4 10
        have h4_15 := KS hs_4 15
        have h4_17 := KS hs_4 17
        have h4_96 := KS hs_4 96
        have h4_97 := KS hs_4 97
        have h4_98 := KS hs_4 98
        have h4_99 := KS hs_4 99
        have h4_100 := KS hs_4 100
        have h4_101 := KS hs_4 101
        have h4_102 := KS hs_4 102
        have h4_103 := KS hs_4 103
        have h4_104 := KS hs_4 104
        have h4_105 := KS hs_4 105
        have h4_106 := KS hs_4 106
        have h4_107 := KS hs_4 107
        have h4_108 := KS hs_4 108
        have k4_0 := KE hf_4 (N)
        have k4_1 := KE hf_4 (N + 1)
        have k4_2 := KE hf_4 (N + 22 + 2)
        have k4_3 := KE hf_4 (N + 26 + 2)
        have k4_4 := KE hf_4 (n_1 + 10 + 2)
        have k4_5 := KE hf_4 (n_2 + 6 + 2)
        have k4_6 := KE hf_4 (n_3 + 1 + 2)
        have k4_7 := KE hf_4 (g)
        have k4_8 := KE hf_4 (h)
        have hlow := KL (N := N) (σ := σ) hf_4
        by_cases hvl : v = 3
        ·subst hvl
         clear hCv
         have hcs := True.intro
         refine Wk ?_
         exact ⟨WS, WG, WN, _, (show 4 - (u + 1) < m_3 by omega), u + 1, rfl, WF, WC⟩
        ·have hv1 : v < 3 := by omega
         have hv2 : (v : Int) < 3 := by omega
         obtain ⟨y, hym, hy1, hy2⟩ := hCv v hv1
         obtain ⟨⟨b, q, e⟩, k1, k2, k3, k4⟩ := AtQ_ex hin (by decide) hp1 hp2 hy1 hy2 hgh
         clear hCv hp2 hy1 hy2
         unfold mpAV at k1 k2
         simp only at k1 k2 k3 k4
         have hcs := And.intro k1 (And.intro k2 (And.intro k3 (And.intro k4 True.intro)))
         clear k1 k2 k3 k4
         refine Wk ?_
         exact ⟨WS, WG, WN, _, (show 3 - (v + 1) < m_4 by omega), v + 1, rfl, WF, WC⟩
end
theorem ChainAttenuate_spec (xs : List Int) (_ : ∀ n ∈ xs, (Lit.int .i64 n).wf = true) (hx : xs.length ≤ 9223372036854775807) (c : Ca) (hc : CaW c) (raw : Pa) (hr : PaW raw) (n : Int) (w : (Lit.int .u8 n).wf = true) (g h : Nat) (hgh : g ≠ h) (k : Nat) :
  ACall Tryz.prog 5 [.slice none (xs.map intAV), caAV c, paAV raw, .lit (.int .u8 n)] k [(g, shaG), (h, bitsG)] (.lit (.bool true)) [] := by
 obtain ⟨b, _, rfl⟩ := byte_of_wf w
 exact @ChainAttenuate_core w32 xs hx c hc raw hr b.toNat (by have := b.toNat_lt; omega) g h hgh k
end Go.Proofs.YtdmjpolnbmoehaaGreatDoor
