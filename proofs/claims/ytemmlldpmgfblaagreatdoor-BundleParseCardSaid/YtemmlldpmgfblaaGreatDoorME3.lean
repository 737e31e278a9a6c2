/- Texts Y12, joined. -/
import Derived.Test.YtemmlldpmgfblaaGreatDoorME2

namespace Go.Proofs.YtemmlldpmgfblaaGreatDoor
open Go.Ab
attribute [local irreducible] Go.Ab.tyAV Go.Ab.aw Go.Ab.aops Go.Ab.kReg Go.Ab.aThen Go.Ab.aBlk Go.Ab.acond Go.Ab.aguard Go.Ab.astep Go.Ab.AStepX Go.Ab.aRet
attribute [local irreducible] shaG
def PAsks (d : Nat) (x : List UInt8) : Prop := ∃ (B : Bu) (e : Nat),
 (∀ k, ACall Tryz.prog 46 [.lit (.string ⟨x.toArray⟩)] k [(d, bitsG)] (.tup [buAV B, .lit (.int .i64 (e : Nat))]) []) ∧
 (∀ k, ACall Tryz.prog 47 [.lit (.string ⟨x.toArray⟩)] k [] (.tup [buAV B, .lit (.int .i64 (e : Nat))]) []) ∧
 (∀ k, ACall Tryz.prog 41 [buAV B, buAV B] k [] (.lit (.bool true)) [])
theorem pasks (d : Nat) (x : List UInt8) (hx : x.length ≤ 9223372036854775807) : PAsks d x := ⟨(parB x).1, (parB x).2, BParse_spec x hx d, RParse_spec x hx, SameBu_refl _ (parB_sm x)⟩
theorem encBu_ge (z : Bu) : 32 ≤ (encBu z).length := by
 unfold encBu
 simp only [List.length_append, z.proof.2]; omega
section
variable [W : W32]
set_option maxHeartbeats 8000000 in
theorem BundleParse_core (s0 s : List UInt8) (m1 : Nat) (h1 : (if (600 : Int) < (s0.length : Int) then (600 : Int) else (s0.length : Int)) = (m1 : Int)) (h2 : m1 ≤ s0.length) (h3 : s.length = m1) (h4 : s0.take m1 = s) (h5 : m1 ≤ 600)
  (deck : List Int) (hd : deck.length ≤ 9223372036854775807) (at_ cut : Int) (xb : UInt8) (d k : Nat) :
  ACall Tryz.prog 9 [.lit (.string ⟨s0.toArray⟩), .slice none (deck.map intAV), .lit (.int .i64 at_), byteAV xb, .lit (.int .i64 cut)] k [(d, bitsG)] (.lit (.bool true)) [] := by
 obtain ⟨sc, j0, hs, hj0, c2⟩ := made_spec deck hd
 obtain ⟨_, _, hin, hck, _⟩ := bunS_ok hs
 have c3 := RText_spec (bunS sc).2 hin
 have hbl := (chk_valid hin hck).2
 have hbp := encBu_ge (bunS sc).2
 have hT : txtB (bunS sc).2 = (textS (encBu (bunS sc).2), 0) := by
  have hE : encBS (bunS sc).2 = (encBu (bunS sc).2, 0) := by unfold encBS; rw [if_pos hck]
  unfold txtB; rw [hE, if_pos rfl]; unfold encT; rw [if_neg (by simp only; omega)]
 rw [hT] at c3
 simp only at c3
 have htl := textS_len_eq (encBu (bunS sc).2)
 clear hT hck hin hs hj0
 generalize textS (encBu (bunS sc).2) = t at *
 have ht1 : 0 < t.length ∧ t.length ≤ 6000 := by omega
 clear hbl hbp htl
 have hst : strAV t = .lit (.string ⟨t.toArray⟩) := rfl
 rw [hst] at c3
 clear hst
 generalize (bunS sc).2 = B0 at *
 generalize ({ sc with alg := (bunS sc).1 } : Sc) = s1 at *
 have g1 := Int.emod_nonneg at_ (show (t.length : Int) ≠ 0 by omega)
 have g2 := Int.emod_lt_of_pos at_ (show (0 : Int) < (t.length : Int) by omega)
 obtain ⟨j, hj⟩ := Int.eq_ofNat_of_zero_le g1
 have hj2 : j < t.length := by omega
 have g3 := Int.emod_nonneg cut (show (t.length : Int) ≠ 0 by omega)
 have g4 := Int.emod_lt_of_pos cut (show (0 : Int) < (t.length : Int) by omega)
 obtain ⟨jc, hjc⟩ := Int.eq_ofNat_of_zero_le g3
 have a8 := Within_spec at_ t.length (by omega) (by omega)
 rw [hj] at a8
 have a9 := Within_spec cut t.length (by omega) (by omega)
 rw [hjc] at a9
 have hjc2 : jc < t.length := by omega
 obtain ⟨y, hy⟩ : ∃ y, t.take j ++ xb :: t.drop (j + 1) = y := ⟨_, rfl⟩
 have hyl : y.length ≤ 6000 := by rw [← hy]; simp; omega
 obtain ⟨z, hz⟩ : ∃ z, t.take jc = z := ⟨_, rfl⟩
 have hzl : z.length ≤ 6000 := by rw [← hz, List.length_take]; omega
 have d0 := pasks d s (by omega)
 have d1 := pasks d t (by omega)
 have d2 := pasks d y (by omega)
 have d3 := pasks d z (by omega)
 have c9 := awake16_spec d
 clear g1 g2 g3 g4 hj hjc
 refine Bd Tryz.func9 Tryz.ntmps9 fun σ N hp hpn hk hkn hfree => ?_
 obtain ⟨hd, hdn⟩ := HD0 hp hpn; clear hp hpn
 have hcs := And.intro c2 (And.intro c3 (And.intro a8 (And.intro a9 True.intro)))
 clear c2 c3 a8 a9
 refine Wk ?_
 clear hcs
 refine go_loopF mixed (by kernel_rfl) [10, 18, 19, 20, 21, 22, 66, 67, 68, 69, 70, 71, 72, 73, 74, 75, 76, 77, 78, 79, 80, 81, 82, 83, 84, 85, 86, 87, 88, 89, 90, 91, 92, 93, 94, 95, 96] [] (fun m_ s_ σ_ n_ => ∃ (i : Nat), m_ = 4 - i ∧ s_ 18 = .lit (.int .i64 i) ∧ (i ≤ 4)) ⟨_, 0, rfl, WF, WC⟩ ?_
 intro m_1 s_1 σ_1 n_1 hs_1 hf_1 hn_1 hI_1
 obtain ⟨i, hm_1, h1_18, hi⟩ := hI_1
 have h1_17 := KS hs_1 17
 have k1_0 := KE hf_1 (d)
 have hlow := KL (N := N) (σ := σ) hf_1
 have hcase : i = 4 ∨ i = 0 ∨ i = 1 ∨ i = 2 ∨ i = 3 := by omega
 rcases hcase with rfl | rfl | rfl | rfl | rfl
 ·have hcs := And.intro c9 True.intro
  clear c9 d0 d1 d2 d3
  exact W0
 ·obtain ⟨B, e, q1, q2, q3⟩ := d0
  have hcs := And.intro q1 (And.intro q2 (And.intro q3 True.intro))
  clear q1 q2 q3 d1 d2 d3 c9
  refine Wk ?_
  exact ⟨WS, WG, WN, _, (show 4 - (0 + 1) < m_1 by omega), 0 + 1, rfl, WF, WC⟩
 ·obtain ⟨B, e, q1, q2, q3⟩ := d1
  have hcs := And.intro q1 (And.intro q2 (And.intro q3 True.intro))
  clear q1 q2 q3 d0 d2 d3 c9
  refine Wk ?_
  exact ⟨WS, WG, WN, _, (show 4 - (1 + 1) < m_1 by omega), 1 + 1, rfl, WF, WC⟩
 ·obtain ⟨B, e, q1, q2, q3⟩ := d2
  have hcs := And.intro q1 (And.intro q2 (And.intro q3 True.intro))
  clear q1 q2 q3 d0 d1 d3 c9
  refine Wk ?_
  exact ⟨WS, WG, WN, _, (show 4 - (2 + 1) < m_1 by omega), 2 + 1, rfl, WF, WC⟩
 ·obtain ⟨B, e, q1, q2, q3⟩ := d3
  have hcs := And.intro q1 (And.intro q2 (And.intro q3 True.intro))
  clear q1 q2 q3 d0 d1 d2 c9
  refine Wk ?_
  exact ⟨WS, WG, WN, _, (show 4 - (3 + 1) < m_1 by omega), 3 + 1, rfl, WF, WC⟩
end
theorem BundleParse_spec (s : List UInt8) (_hs : s.length ≤ 9223372036854775807) (deck : List Int) (_ : ∀ n ∈ deck, (Lit.int .i64 n).wf = true) (hd : deck.length ≤ 9223372036854775807) (at_ : Int) (x : Int) (w : (Lit.int .u8 x).wf = true) (cut : Int) (d k : Nat) :
  ACall Tryz.prog 9 [strAV s, .slice none (deck.map intAV), .lit (.int .i64 at_), .lit (.int .u8 x), .lit (.int .i64 cut)] k [(d, bitsG)] (.lit (.bool true)) [] := by
 obtain ⟨xb, hx, _⟩ := byte_of_wf w
 rw [hx]
 obtain ⟨m1, t1, h1, h2, h5, h3, h4⟩ := cutStr 600 s
 exact @BundleParse_core w32 s t1 m1 h1 h2 h3 h4 h5 deck hd at_ cut xb d k
end Go.Proofs.YtemmlldpmgfblaaGreatDoor
