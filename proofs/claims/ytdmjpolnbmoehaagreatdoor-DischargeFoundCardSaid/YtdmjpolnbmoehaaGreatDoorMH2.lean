/- Texts P3, P2, V1p, Q5, W1, W12, O0, O4, O5, O7, O8, C13, joined. -/
import Derived.Test.YtdmjpolnbmoehaaGreatDoorMH1

namespace Go.Proofs.YtdmjpolnbmoehaaGreatDoor
open Go.Ab
attribute [local irreducible] Go.Ab.tyAV Go.Ab.aw Go.Ab.aops Go.Ab.kReg Go.Ab.aThen Go.Ab.aBlk Go.Ab.acond Go.Ab.aguard Go.Ab.astep Go.Ab.AStepX Go.Ab.aRet
attribute [local irreducible] shaG
theorem w3P_eq : prAV w3P = .agg [.lit (.int .i64 4), .lit (.int .u64 0), .lit (.int .i64 0), .lit (.int .i64 3000), .lit (.string ⟨#[]⟩), .lit (.int .i64 0)] := rfl
section
variable [W : W32]
theorem SoW.tickW {con : Co} {S : Ss} {n m : Nat} (h : SoW S n m) (c0 : 0 ≤ con.party) (c7 : con.party ≤ 7) (hm : m ≤ 50000) : (BL S con).2.1.ticket.length ≤ 1000 := by
 obtain ⟨hk, hb2, hB⟩ := blankS_ok h.ain (by omega) (c := con) (t := ⟨0, 150⟩) rfl c0 c7
 have hBL : BL S con = _ := hB
 have hpl := plainT_len (keyS S.A).2.1 ⟨0, 150⟩ rfl
 have htl := sealS_box h.ok.key hb2
 rw [hBL]
 simp only
 omega
set_option maxRecDepth 100000 in
set_option maxHeartbeats 16000000 in
theorem Scene_walkW (l : List Int) (i : Nat) (h : Dk l i) (q0 j0 : Nat) (sd : Tg) (j1 mi j2 pt j3 bo j4 ga j5 no j6 se j7 K j8 : Nat) (a1 a2 a3 : Alg) (k1 k2 : Tg) (e1' e2' e3' : Nat) (pa : Pa) (con : Co)
  (h0 : nextD l i 2 = (q0, j0)) (h1 : tagD l j0 = (sd, j1)) (h2 : keyS ⟨decide (q0 = 0), sd, 0, [], []⟩ = (a1, k1, e1')) (h3 : keyS a1 = (a2, k2, e2')) (h4 : nextD l j1 3000 = (mi, j2)) (h5 : nextD l j2 8 = (pt, j3)) (h6 : nextD l j3 60 = (bo, j4)) (h7 : nextD l j4 8 = (ga, j5)) (h8 : rangeD l j5 1 100 = (no, j6)) (h9 : rangeD l j6 1 50 = (se, j7))
  (h10 : mintS a2 2 k2 (se : Nat) = (a3, pa, e3')) (h11 : nextD l j7 6 = (K, j8)) (hcon : con = ⟨pt, k1, [⟨ann, -(bo : Int) * 365 * 1440⟩, ⟨[98, 111, 98], 0⟩]⟩) (hpt : pt ≤ 7) (hbo : bo ≤ 59) (_hmi : mi ≤ 2999) (hK : K ≤ 5)
  (hG0 : SoW ⟨a3, pa, []⟩ 0 10) (R1 : Ss) (R2 : Nat) (hrun0 : wRun l con (mi : Nat) K j8 ⟨a3, pa, []⟩ (R1, R2)) (d k : Nat) :
  ACall Tryz.prog 16 [.ptr d [] 0, .lit (.bool true)] k [(d, deckBox l i)] (scAV ⟨R1.A, ⟨[⟨2, k2⟩], 3⟩, con, R1.p, R1.gs, ⟨ga, no⟩, ann, mi⟩) [(d, deckBox l R2)] := by
 have d0 : Dk l j0 := by have := nextD_dk 2 h; rw [h0] at this; exact this
 have d1 : Dk l j1 := by have := tagD_dk d0; rw [h1] at this; exact this
 have d2 : Dk l j2 := by have := nextD_dk 3000 d1; rw [h4] at this; exact this
 have d3 : Dk l j3 := by have := nextD_dk 8 d2; rw [h5] at this; exact this
 have d4 : Dk l j4 := by have := nextD_dk 60 d3; rw [h6] at this; exact this
 have d5 : Dk l j5 := by have := nextD_dk 8 d4; rw [h7] at this; exact this
 have d6 : Dk l j6 := by have := rangeD_dk (lo := 1) (n := 100) d5; rw [h8] at this; exact this
 have d7 : Dk l j7 := by have := rangeD_dk (lo := 1) (n := 50) d6; rw [h9] at this; exact this
 have d8 : Dk l j8 := by have := nextD_dk 6 d7; rw [h11] at this; exact this
 have c1 := Next_spec l i 2 h (by omega) (by omega)
 have c2 := Tag_spec l j0 d0
 have c3 := refNew_spec (decide (q0 = 0)) sd
 have i0 : AlgIn ⟨decide (q0 = 0), sd, 0, [], []⟩ 0 := ⟨by simp, by simp, by simp, by simp, fun e he => by simp at he, fun e he => by simp at he⟩
 have c4 := Key_spec ⟨decide (q0 = 0), sd, 0, [], []⟩ (by simp)
 have i1 : AlgIn a1 1 := by have := keyS_in i0; rw [h2] at this; exact this
 have c5 := Key_spec a1 i1.f0
 have i2 : AlgIn a2 2 := by have := keyS_in i1; rw [h3] at this; exact this
 have c6 := Next_spec l j1 3000 d1 (by omega) (by omega)
 have c7 := Next_spec l j2 8 d2 (by omega) (by omega)
 have c8 := Next_spec l j3 60 d3 (by omega) (by omega)
 have c9 := Next_spec l j4 8 d4 (by omega) (by omega)
 have c10 := Range_spec l j5 1 100 100 d5 (by omega) (by omega) (by omega) (by omega)
 have c11 := Range_spec l j6 1 50 50 d6 (by omega) (by omega) (by omega) (by omega)
 have c12 := refMint_spec a2 2 i2 (by omega) 2 (se : Nat) k2
 have c13 := Next_spec l j7 6 d7 (by omega) (by omega)
 rw [h0] at c1
 rw [h1] at c2
 rw [h2] at c4
 rw [h3] at c5
 rw [h4] at c6
 rw [h5] at c7
 rw [h6] at c8
 rw [h7] at c9
 rw [h8] at c10
 rw [h9] at c11
 rw [h10] at c12
 rw [h11] at c13
 unfold mkAV at c4 c5
 unfold mpAV at c12
 simp only at c1 c2 c4 c5 c6 c7 c8 c9 c10 c11 c12 c13
 clear h0 h1 h2 h3 h4 h5 h6 h7 h8 h9 h10 h11 i0 i1 i2 d0 d1 d2 d3 d4 d5 d6 d7 h
 have hq0 : ((q0 : Int) == 0) = decide (q0 = 0) := by
  by_cases hq : q0 = 0
  ·subst hq; rfl
  ·rw [decide_eq_false hq, beq_eq_false_iff_ne]; omega
 have hq1 : decide ((q0 : Int) = 0) = decide (q0 = 0) := by congr 1; exact propext (by omega)
 generalize decide (q0 = 0) = fr at *
 have hc0 : 0 ≤ con.party := by rw [hcon]; simp
 have hc7 : con.party ≤ 7 := by rw [hcon]; simp only; omega
 obtain ⟨bon, hbon⟩ : ∃ x : Int, -(bo : Int) * 365 * 1440 = x := ⟨_, rfl⟩
 have hb0 : -60000000 ≤ bon := by omega
 have hb1 : bon ≤ 0 := by omega
 rw [hbon] at hcon
 have hfp : findP con.ps ann = (⟨ann, bon⟩, true) := by rw [hcon]; rfl
 have hcA : concAV con = .agg [.lit (.int .i64 (pt : Int)), tagAV k1, .slice none [.agg [.lit (.string ⟨#[97, 110, 110]⟩), .lit (.int .i64 bon)], .agg [.lit (.string ⟨#[98, 111, 98]⟩), .lit (.int .i64 0)]]] := by rw [hcon]; rfl
 have hcps : con.ps.length = 2 := by rw [hcon]; rfl
 have hres : scAV ⟨R1.A, ⟨[⟨2, k2⟩], 3⟩, con, R1.p, R1.gs, ⟨ga, no⟩, ann, mi⟩ = .agg [algAV R1.A, .agg [.slice none [.agg [.lit (.int .i64 2), tagAV k2]], .lit (.int .i64 3)], .agg [.lit (.int .i64 (pt : Int)), tagAV k1, .slice none [.agg [.lit (.string ⟨#[97, 110, 110]⟩), .lit (.int .i64 bon)], .agg [.lit (.string ⟨#[98, 111, 98]⟩), .lit (.int .i64 0)]]], paAV R1.p, .slice none (R1.gs.map diAV), .agg [.lit (.int .i64 (ga : Int)), .lit (.int .i64 (no : Int))], .lit (.string ⟨#[97, 110, 110]⟩), .lit (.int .i64 (mi : Int))] := by
  unfold scAV; simp only; rw [hcA]; rfl
 rw [hres]
 clear hres hcon
 refine Bd Tryz.func16 Tryz.ntmps16 fun σ N hp hpn hk hkn hfree => ?_
 obtain ⟨hd, hdn⟩ := HD0 hp hpn; clear hp hpn
 have hcs := And.intro (c1 d) (And.intro (c2 d) (And.intro c3 (And.intro c4 (And.intro c5 (And.intro (c6 d) (And.intro (c7 d) (And.intro (c8 d) (And.intro (c9 d) (And.intro (c10 d) (And.intro (c11 d) (And.intro c12 (And.intro (c13 d) True.intro))))))))))))
 clear c1 c2 c3 c4 c5 c6 c7 c8 c9 c10 c11 c12 c13
 refine Wm ?_
 iterate 6 refine Wz ?_
 replace hcs := hcs.2.2.2.2.2
 iterate 7 refine Wz ?_
 clear hcs
 refine go_lessIn (N + 1) [1, 0] (.slice none [.agg [.lit (.int .i64 2), tagAV k2]]) (bt := 52) (c := .agg [algAV a3, .agg [.slice (some (N + 32 + 2)) [.agg [.lit (.int .i64 2), tagAV k2]], .lit (.int .i64 3)], .agg [.lit (.int .i64 (pt : Int)), tagAV k1, .slice (some (N + 44 + 10)) [.agg [.lit (.string ⟨#[97, 110, 110]⟩), .lit (.int .i64 bon)], .agg [.lit (.string ⟨#[98, 111, 98]⟩), .lit (.int .i64 0)]]], paAV pa, .nils, .agg [.lit (.int .i64 (ga : Int)), .lit (.int .i64 (no : Int))], .lit (.string ⟨#[97, 110, 110]⟩), .lit (.int .i64 (mi : Int))]) (by simp (disch := omega) [go_sem, *, -List.reduceReplicate]) rfl (AV.le_own _ _) rfl rfl ?_
 refine go_lessIn (N + 1) [2, 2] (.slice none [.agg [.lit (.string ⟨#[97, 110, 110]⟩), .lit (.int .i64 bon)], .agg [.lit (.string ⟨#[98, 111, 98]⟩), .lit (.int .i64 0)]]) (bt := 52) (c := .agg [algAV a3, .agg [.slice none [.agg [.lit (.int .i64 2), tagAV k2]], .lit (.int .i64 3)], .agg [.lit (.int .i64 (pt : Int)), tagAV k1, .slice (some (N + 44 + 10)) [.agg [.lit (.string ⟨#[97, 110, 110]⟩), .lit (.int .i64 bon)], .agg [.lit (.string ⟨#[98, 111, 98]⟩), .lit (.int .i64 0)]]], paAV pa, .nils, .agg [.lit (.int .i64 (ga : Int)), .lit (.int .i64 (no : Int))], .lit (.string ⟨#[97, 110, 110]⟩), .lit (.int .i64 (mi : Int))]) (by simp (disch := omega) [go_sem, *, -List.reduceReplicate]; try rfl) rfl (AV.le_own _ _) rfl rfl ?_
 refine go_nilrowIn (N + 1) [4] 31 34 (bt := 52) (c := .agg [algAV a3, .agg [.slice none [.agg [.lit (.int .i64 2), tagAV k2]], .lit (.int .i64 3)], .agg [.lit (.int .i64 (pt : Int)), tagAV k1, .slice none [.agg [.lit (.string ⟨#[97, 110, 110]⟩), .lit (.int .i64 bon)], .agg [.lit (.string ⟨#[98, 111, 98]⟩), .lit (.int .i64 0)]]], paAV pa, .nils, .agg [.lit (.int .i64 (ga : Int)), .lit (.int .i64 (no : Int))], .lit (.string ⟨#[97, 110, 110]⟩), .lit (.int .i64 (mi : Int))]) (by simp (disch := omega) [go_sem, *, -List.reduceReplicate]; try rfl) rfl ?_
 refine go_loopF mixed (by kernel_rfl) (8 :: 9 :: 10 :: 11 :: 12 :: 13 :: 83 :: 84 :: 85 :: 86 :: 87 :: 88 :: 89 :: 90 :: 91 :: 92 :: 93 :: 94 :: 95 :: 96 :: 97 :: 98 :: 99 :: 100 :: 101 :: 102 :: 103 :: 104 :: 105 :: 106 :: 107 :: 108 :: 109 :: 110 :: 111 :: 112 :: 113 :: 114 :: 115 :: 116 :: 117 :: 118 :: 119 :: 120 :: 121 :: 122 :: 123 :: 124 :: 125 :: 126 :: 127 :: 128 :: 129 :: 130 :: 131 :: 132 :: 133 :: 134 :: 135 :: 136 :: 137 :: 138 :: 139 :: 140 :: 141 :: 142 :: 143 :: 144 :: 145 :: 146 :: 147 :: 148 :: 149 :: 150 :: 151 :: 152 :: 153 :: 154 :: 155 :: 156 :: 157 :: 158 :: 159 :: 160 :: 161 :: 162 :: 163 :: 164 :: 165 :: 166 :: 167 :: 168 :: 169 :: 170 :: 171 :: 172 :: 173 :: 174 :: []) [d, N+1, N+86] (fun m_ s_ σ_ n_ => ∃ (f : Nat) (j' : Nat) (S : Ss) (n1 : Nat) (m1 : Nat), m_ = f ∧ s_ 8 = .lit (.int .i64 f) ∧ σ_ (d) = deckBox l j' ∧ σ_ (N+1) = .box 52 (.agg [algAV S.A, .agg [.slice none [.agg [.lit (.int .i64 2), tagAV k2]], .lit (.int .i64 3)], .agg [.lit (.int .i64 (pt : Int)), tagAV k1, .slice none [.agg [.lit (.string ⟨#[97, 110, 110]⟩), .lit (.int .i64 bon)], .agg [.lit (.string ⟨#[98, 111, 98]⟩), .lit (.int .i64 0)]]], paAV S.p, .slice (some (N + 86)) (S.gs.map diAV), .agg [.lit (.int .i64 (ga : Int)), .lit (.int .i64 (no : Int))], .lit (.string ⟨#[97, 110, 110]⟩), .lit (.int .i64 (mi : Int))]) ∧ σ_ (N+86) = .row 31 34 S.gs.length ∧ (f + n1 ≤ 6) ∧ (m1 + 12 * f ≤ 1000) ∧ (Dk l j') ∧ (SoW S n1 m1) ∧ (wRun l con (mi : Nat) f j' S (R1, R2))) ⟨_, K, j8, ⟨a3, pa, []⟩, 0, 10, rfl, WF, WF, WF, WF, WC, WC, WC, WC, WC⟩ ?_
 intro m_1 s_1 σ_1 n_1 hs_1 hf_1 hn_1 hI_1
 obtain ⟨f, j', S, n1, m1, hm_1, h1_8, e1_0, e1_1, e1_2, hfn, hfm, hj, hG, hrun⟩ := hI_1
 have h1_0 := KS hs_1 0
 have h1_1 := KS hs_1 1
 have h1_4 := KS hs_1 4
 have h1_5 := KS hs_1 5
 have k1_0 := KE hf_1 (N)
 have hlow := KD (N := N) (d := d) (σ := σ) hf_1
 clear hG0 hrun0 d8
 cases f with
 | zero =>
  have hrun : (R1, R2) = (S, j') := hrun
  simp only [Prod.mk.injEq] at hrun
  obtain ⟨rfl, rfl⟩ := hrun
  clear hG hj
  refine Wk ?_
  exact RV (d) (deckBox l R2)
 | succ f =>
  obtain ⟨hr1, hr2⟩ := hrun
  have t1 := Next_spec l j' 4 hj (by omega) (by omega)
  have e1x := nextD_dk 4 hj
  have b1x := nextD_lt l j' 4 (by omega)
  have hgs := hG.gl
  have hb24 : (S.gs.length + 1) * 80 ≤ 140737488355328 := by omega
  have hb25 : S.gs.length ≤ 140737488355327 := by omega
  by_cases hx : (nextD l j' 4).1 = 0
  ·as_aux_lemma =>
    obtain ⟨X2, hX2, hrun⟩ := hr2 hx
    clear hr1 hr2
    have e2x := nextD_dk 3 e1x
    have b2x := nextD_lt l (nextD l j' 4).2 3 (by omega)
    obtain ⟨hd2, hG2⟩ := hG.thd e2x (by omega) hX2
    have t2 := refBlank_spec S.A m1 hG.ain (by omega) con ⟨0, 150⟩
    have htk : (BL S con).2.1.ticket.length ≤ 1000 := hG.tickW hc0 hc7 (by omega)
    have iB : AlgIn (BL S con).1 (m1 + 2) := blankS_in hG.ain con ⟨0, 150⟩
    have hcl := hG.cl
    have t3 := refAdd_spec (BL S con).1 (m1 + 2) iB (by omega) S.p (by omega) (BL S con).2.1 (by omega)
    have iA : AlgIn (AD S con).1 (m1 + 6) := addS_in iB S.p (BL S con).2.1
    have t4 := refGrant_spec (AD S con).1 (m1 + 6) iA (by omega) con (by omega) (BL S con).2.1.ticket (by omega) ann (by decide) (mi : Nat)
    have iG : AlgIn (GR S con (mi : Nat)).1 (m1 + 8) := grantS_in iA con (BL S con).2.1.ticket ann (mi : Nat)
    have hcG := grantS_conds (a := (AD S con).1) (c := con) (t := (BL S con).2.1.ticket) (holder := ann) (mi := (mi : Nat))
    have t5 := Next_spec l (nextD l j' 4).2 3 e1x (by omega) (by omega)
    have hBL : blankS S.A con ⟨0, 150⟩ = BL S con := rfl
    have hAD : addS (BL S con).1 S.p (BL S con).2.1 = AD S con := rfl
    have hGR : grantS (AD S con).1 con (BL S con).2.1.ticket ann (mi : Nat) = GR S con (mi : Nat) := rfl
    simp only [hBL] at t2
    simp only [hAD] at t3
    simp only [hGR] at t4 iG hcG
    clear hBL hAD hGR iA iB hG
    generalize hBL : BL S con = B at *
    generalize hAD : AD S con = D at *
    generalize hGR : GR S con (mi : Nat) = G at *
    obtain ⟨aB, bl, eB⟩ := B
    obtain ⟨aD, pD, eD⟩ := D
    obtain ⟨aG, gG, eG⟩ := G
    clear hBL hAD hGR
    have hG3 := hG2
    clear hG2
    generalize nextD l (nextD l j' 4).2 3 = Y at *
    generalize nextD l j' 4 = X at *
    obtain ⟨x, jx⟩ := X
    obtain ⟨y, jy⟩ := Y
    obtain ⟨Q1, Q2, Q3⟩ := X2
    unfold mlAV at t2
    unfold mpAV at t3
    unfold mdAV at t4
    obtain ⟨bp, bk, bt⟩ := bl
    unfold strAV ann at t4
    simp only at *
    subst hx
    have hblA : blAV ⟨bp, bk, bt⟩ = .agg [.lit (.int .i64 bp), tagAV bk, .slice none (bt.map byteAV)] := rfl
    have hte : teAV ⟨0, 150⟩ = .agg [.lit (.int .i64 0), .lit (.int .i64 150)] := rfl
    have iG2 : AlgIn aG (1100 - y) := iG.more (by omega)
    have hcG2 : gG.conds.length + y ≤ 10 := by omega
    have hy2 : y ≤ 2 := by omega
    have hcs := And.intro (t1 d) (And.intro t2 (And.intro t3 (And.intro t4 (And.intro (t5 d) True.intro))))
    clear t1 t2 t3 t4 t5 e1x hj
    refine Wk ?_
    clear hcs hblA hte
    refine go_loopF mixed (by kernel_rfl) [12, 13, 151, 152, 153, 154, 155, 156, 157, 158, 159, 160, 161, 162, 163, 164, 165, 166, 167, 168] [d, N+1, n_1+33] (fun m_ s_ σ_ n_ => ∃ (f2 : Nat) (j2' : Nat) (A2 : Alg) (g2 : Di), m_ = f2 ∧ s_ 12 = .lit (.int .i64 f2) ∧ σ_ (d) = deckBox l j2' ∧ σ_ (N+1) = .box 52 (.agg [algAV A2, .agg [.slice none [.agg [.lit (.int .i64 2), tagAV k2]], .lit (.int .i64 3)], .agg [.lit (.int .i64 (pt : Int)), tagAV k1, .slice none [.agg [.lit (.string ⟨#[97, 110, 110]⟩), .lit (.int .i64 bon)], .agg [.lit (.string ⟨#[98, 111, 98]⟩), .lit (.int .i64 0)]]], paAV pD, .slice (some (N + 86)) (S.gs.map diAV), .agg [.lit (.int .i64 (ga : Int)), .lit (.int .i64 (no : Int))], .lit (.string ⟨#[97, 110, 110]⟩), .lit (.int .i64 (mi : Int))]) ∧ σ_ (n_1+33) = .box 31 (diAV g2) ∧ (f2 ≤ 2) ∧ (Dk l j2') ∧ (AlgIn A2 (1100 - f2)) ∧ (g2.conds.length + f2 ≤ 10) ∧ (rRunW l f2 j2' A2 g2 (Q1, Q2, Q3))) ⟨_, y, jy, aG, gG, rfl, WF, WF, WF, WF, WC, WC, WC, WC, WC⟩ ?_
    intro m_2 s_2 σ_2 n_2 hs_2 hf_2 hn_2 hI_2
    obtain ⟨f2, j2', A2, g2, hm_2, h2_12, e2_0, e2_1, e2_2, hf2, hj2, hA2, hg2, hrr⟩ := hI_2
    have h2_0 := KS hs_2 0
    have h2_1 := KS hs_2 1
    have h2_4 := KS hs_2 4
    have h2_5 := KS hs_2 5
    have h2_8 := KS hs_2 8
    have h2_9 := KS hs_2 9
    have h2_10 := KS hs_2 10
    have h2_11 := KS hs_2 11
    have h2_83 := KS hs_2 83
    have h2_84 := KS hs_2 84
    have h2_87 := KS hs_2 87
    have h2_88 := KS hs_2 88
    have h2_89 := KS hs_2 89
    have h2_90 := KS hs_2 90
    have h2_91 := KS hs_2 91
    have h2_92 := KS hs_2 92
    have h2_93 := KS hs_2 93
    have h2_94 := KS hs_2 94
    have h2_95 := KS hs_2 95
    have h2_96 := KS hs_2 96
    have h2_97 := KS hs_2 97
    have h2_98 := KS hs_2 98
    have h2_99 := KS hs_2 99
    have h2_100 := KS hs_2 100
    have h2_101 := KS hs_2 101
    have h2_102 := KS hs_2 102
    have h2_103 := KS hs_2 103
    have h2_104 := KS hs_2 104
    have h2_105 := KS hs_2 105
    have h2_106 := KS hs_2 106
    have h2_108 := KS hs_2 108
    have h2_109 := KS hs_2 109
    have h2_110 := KS hs_2 110
    have h2_111 := KS hs_2 111
    have h2_112 := KS hs_2 112
    have h2_113 := KS hs_2 113
    have h2_114 := KS hs_2 114
    have h2_115 := KS hs_2 115
    have h2_116 := KS hs_2 116
    have h2_117 := KS hs_2 117
    have h2_118 := KS hs_2 118
    have h2_120 := KS hs_2 120
    have h2_121 := KS hs_2 121
    have h2_122 := KS hs_2 122
    have h2_123 := KS hs_2 123
    have h2_124 := KS hs_2 124
    have h2_125 := KS hs_2 125
    have h2_126 := KS hs_2 126
    have h2_127 := KS hs_2 127
    have h2_128 := KS hs_2 128
    have h2_129 := KS hs_2 129
    have h2_131 := KS hs_2 131
    have h2_132 := KS hs_2 132
    have h2_133 := KS hs_2 133
    have h2_134 := KS hs_2 134
    have h2_135 := KS hs_2 135
    have h2_136 := KS hs_2 136
    have h2_137 := KS hs_2 137
    have h2_138 := KS hs_2 138
    have h2_139 := KS hs_2 139
    have h2_140 := KS hs_2 140
    have h2_141 := KS hs_2 141
    have h2_142 := KS hs_2 142
    have h2_143 := KS hs_2 143
    have h2_144 := KS hs_2 144
    have h2_145 := KS hs_2 145
    have h2_146 := KS hs_2 146
    have h2_148 := KS hs_2 148
    have h2_149 := KS hs_2 149
    have h2_150 := KS hs_2 150
    have k2_0 := KE hf_2 (N)
    have k2_1 := KE hf_2 (N + 86)
    have hlow := KD (N := N) (d := d) (σ := σ) hf_2
    clear hX2 iG hcG e2x iG2 hcG2 hy2
    cases f2 with
    | zero =>
     have hrr : (Q1, Q2, Q3) = (A2, g2, j2') := hrr
     simp only [Prod.mk.injEq] at hrr
     obtain ⟨rfl, rfl, rfl⟩ := hrr
     have hmm : S.gs.map diAV ++ [diAV Q2] = (S.gs ++ [Q2]).map diAV := by simp
     have hll : S.gs.length + 1 = (S.gs ++ [Q2]).length := by simp
     generalize S.gs ++ [Q2] = L at *
     clear hA2 hj2
     refine Wk ?_
     exact ⟨WS, WG, WN, _, (show (f) < m_1 by omega), f, Q3, ⟨Q1, pD, L⟩, n1 + 1, m1 + 12, rfl, WF, WF, WF, WF, WC, WC, WC, WC, WC⟩
    | succ f2 =>
     obtain ⟨p, jp, ⟨p1, p2, p3, p4, p5⟩, hrr⟩ := hrr
     have u1 := refRestr_spec A2 (1100 - (f2 + 1)) hA2 (by omega) g2 (by omega) w3P ⟨by decide, by decide, by decide⟩
     have iR := restrS_in hA2 g2 w3P
     have hcR := restrS_conds (a := A2) (d := g2) (p := w3P)
     generalize restrS A2 g2 w3P = Z at *
     obtain ⟨aR, gR, eR⟩ := Z
     unfold mdAV at u1
     rw [w3P_eq] at u1
     simp only at *
     have iR2 : AlgIn aR (1100 - f2) := iR.more (by omega)
     have hcR2 : gR.conds.length + f2 ≤ 10 := by omega
     have hcs := And.intro (p5 d) (And.intro u1 True.intro)
     clear u1 p5 iR hA2 hj2 hcR p1 p2 p3 hrun hG3
     refine Wk ?_
     exact ⟨WS, WG, WN, _, (show (f2) < m_2 by omega), f2, jp, aR, gR, rfl, WF, WF, WF, WF, WC, WC, WC, WC, WC⟩
  ·as_aux_lemma =>
    obtain ⟨p, jp, L, jp2, ⟨p1, p2, p3, p4, p5⟩, ⟨w1, w2, w3, w4⟩, hrun⟩ := hr1 hx
    clear hr1 hr2
    have hG3 := hG.nar w1
    have hcl := hG.cl
    have t2 := Narrow_spec S.A m1 hG.ain S.p L (by omega) (by omega) w2
    clear hG
    generalize nextD l j' 4 = X at *
    obtain ⟨x, jx⟩ := X
    generalize narS S.A S.p L = Z at *
    obtain ⟨aZ, pZ, eZ⟩ := Z
    unfold mpAV at t2
    simp only at *
    have hx0 : (0 : Int) < (x : Int) := by omega
    have hcs := And.intro (t1 d) (And.intro (p5 d) (And.intro (w4 d) (And.intro t2 True.intro)))
    clear t1 t2 p5 w4 e1x hj p1 p2 p3 w1 w2
    refine Wk ?_
    exact ⟨WS, WG, WN, _, (show (f) < m_1 by omega), f, jp2, ⟨aZ, pZ, S.gs⟩, n1 + 1, m1 + 12, rfl, WF, WF, WF, WF, WC, WC, WC, WC, WC⟩
end
end Go.Proofs.YtdmjpolnbmoehaaGreatDoor

namespace Go.Proofs.YtdmjpolnbmoehaaGreatDoor
open Go.Ab
attribute [local irreducible] Go.Ab.tyAV Go.Ab.aw Go.Ab.aops Go.Ab.kReg Go.Ab.aThen Go.Ab.aBlk Go.Ab.acond Go.Ab.aguard Go.Ab.astep Go.Ab.AStepX Go.Ab.aRet
def wSt (l : List Int) (j : Nat) (p : Pr) (j1 : Nat) : Prop := PrOk p ∧ Dk l j1 ∧
 (((nextD l j 6).1 = 0 ∧ p = ⟨1, 7, 0, 0, [], 0⟩ ∧ j1 = (nextD l j 6).2) ∨
  ((nextD l j 6).1 = 1 ∧ p = ⟨4, 0, 0, 100 + ((nextD l (nextD l j 6).2 5000).1 : Nat), [], 0⟩ ∧ j1 = (nextD l (nextD l j 6).2 5000).2) ∨
  ((nextD l j 6).1 = 2 ∧ p = ⟨6, 0, 0, 0, ann, 0⟩ ∧ j1 = (nextD l j 6).2) ∨
  (((nextD l j 6).1 = 3 ∨ (nextD l j 6).1 = 4) ∧ p = ⟨7, 0, 0, 0, [], ((nextD l (nextD l j 6).2 4).1 : Nat)⟩ ∧ j1 = (nextD l (nextD l j 6).2 4).2) ∨
  ((nextD l j 6).1 = 5 ∧ PRD l (nextD l j 6).2 true p j1))
theorem wSt_ex {l : List Int} {j : Nat} (h : Dk l j) : ∃ p j1, wSt l j p j1 := by
 have d1 := nextD_dk 6 h
 have b1 := nextD_lt l j 6 (by omega)
 obtain h0 | h0 | h0 | h0 | h0 : (nextD l j 6).1 = 0 ∨ (nextD l j 6).1 = 1 ∨ (nextD l j 6).1 = 2 ∨ ((nextD l j 6).1 = 3 ∨ (nextD l j 6).1 = 4) ∨ (nextD l j 6).1 = 5 := by omega
 ·exact ⟨_, _, ⟨by simp, by simp, by simp⟩, d1, .inl ⟨h0, rfl, rfl⟩⟩
 ·exact ⟨_, _, ⟨by simp, by simp, by simp⟩, nextD_dk 5000 d1, .inr (.inl ⟨h0, rfl, rfl⟩)⟩
 ·exact ⟨_, _, ⟨by decide, by decide, by decide⟩, d1, .inr (.inr (.inl ⟨h0, rfl, rfl⟩))⟩
 ·exact ⟨_, _, ⟨by simp, by simp, by simp⟩, nextD_dk 4 d1, .inr (.inr (.inr (.inl ⟨h0, rfl, rfl⟩)))⟩
 ·obtain ⟨p, j1, hp⟩ := PRD_ex d1 true
  exact ⟨p, j1, hp.2.1, hp.2.2.2.1, .inr (.inr (.inr (.inr ⟨h0, hp⟩)))⟩
def wDr (l : List Int) : Nat → Nat → List Pr → (List Pr × Nat) → Prop
 | 0, j, acc, R => R = (acc, j)
 | f + 1, j, acc, R => ∃ p j1, wSt l j p j1 ∧ wDr l f j1 (acc ++ [p]) R
theorem wDr_ex {l : List Int} : ∀ (f j : Nat) (acc : List Pr), Dk l j → (∀ p ∈ acc, PrOk p) → ∃ R, wDr l f j acc R ∧ Dk l R.2 ∧ (∀ p ∈ R.1, PrOk p) ∧ R.1.length = acc.length + f
 | 0, j, acc, h, ha => ⟨_, rfl, h, ha, rfl⟩
 | f + 1, j, acc, h, ha => by
  obtain ⟨p, j1, hp⟩ := wSt_ex h
  obtain ⟨R, hR, h1, h2, h3⟩ := wDr_ex f j1 (acc ++ [p]) hp.2.1 (fun q hq => by
   rcases List.mem_append.1 hq with hq | hq
   ·exact ha q hq
   ·rw [List.mem_singleton.1 hq]; exact hp.1)
  exact ⟨R, ⟨p, j1, hp, hR⟩, h1, h2, by rw [h3]; simp; omega⟩
set_option maxHeartbeats 4000000 in
theorem Wide_core (l : List Int) (i : Nat) (h : Dk l i) (R : List Pr) (j : Nat) (hR : wDr l (nextD l i 2).1 (nextD l i 2).2 [] (R, j)) (d k : Nat) :
  ACall Tryz.prog 75 [.ptr d [] 0, .lit (.int .i64 1), .lit (.string ⟨#[97, 110, 110]⟩)] k [(d, deckBox l i)] (.slice none (R.map prAV)) [(d, deckBox l j)] := by
 have c1 := Next_spec l i 2 h (by omega) (by omega)
 have h1 := nextD_dk 2 h
 have h2 := nextD_lt l i 2 (by omega)
 clear h
 generalize nextD l i 2 = X at *
 obtain ⟨f0, j0⟩ := X
 simp only at *
 refine Bd Tryz.func75 Tryz.ntmps75 fun σ N hp hpn hk hkn hfree => ?_
 obtain ⟨hd, hdn⟩ := HD0 hp hpn; clear hp hpn
 have hcs := And.intro (c1 d) True.intro
 clear c1
 refine Wk ?_
 clear hcs
 refine ALoop.nilrow 7 25 6 (by simp (disch := omega) [go_sem, *, -List.reduceReplicate]) ?_
 refine go_loopB (N) mixed (by kernel_rfl) [7, 8, 13, 14, 15, 16, 17, 18, 19, 20, 21, 22, 23, 24, 25, 26, 27, 28, 29, 30, 31, 32, 33, 34, 35, 36, 37, 38, 39, 40, 41, 42, 43, 44, 45, 46, 47, 48, 49, 50, 51, 52, 53, 54, 55, 56] [d] (fun m_ s_ σ_ n_ => ∃ (f : Nat) (q : Nat) (acc : List Pr) (j' : Nat), m_ = f ∧ s_ 8 = .lit (.int .i64 f) ∧ s_ 7 = .slice (some q) (acc.map prAV) ∧ σ_ (d) = deckBox l j' ∧ σ_ (q) = .row 25 6 acc.length ∧ (N ≤ q) ∧ (q < n_) ∧ (acc.length + f ≤ 1000) ∧ (Dk l j') ∧ (wDr l f j' acc (R, j))) ⟨_, f0, _, [], j0, rfl, WF, WF, WF, WF, WC, WC, WC, WC, WC⟩ ?_
 intro m_1 s_1 σ_1 n_1 hs_1 hf_1 hn_1 hI_1
 obtain ⟨f, q, acc, j', hm_1, h1_8, h1_7, e1_0, e1_1, hq, hqn, hal, hj, hrun⟩ := hI_1
 have h1_0 := KS hs_1 0
 have h1_2 := KS hs_1 2
 have h1_6 := KS hs_1 6
 have hlow := KD (N := N) (d := d) (σ := σ) hf_1
 clear hR
 cases f with
 | zero =>
  have hrun : (R, j) = (acc, j') := hrun
  simp only [Prod.mk.injEq] at hrun
  obtain ⟨rfl, rfl⟩ := hrun
  clear hj
  refine Wk ?_
  exact RV (d) (deckBox l j)
 | succ f =>
  obtain ⟨p, j1, ⟨p0, hj1, hst⟩, hrun⟩ := hrun
  have c1 := Next_spec l j' 6 hj (by omega) (by omega)
  have e1x := nextD_dk 6 hj
  have b1x := nextD_lt l j' 6 (by omega)
  have c5 := Next_spec l (nextD l j' 6).2 5000 e1x (by omega) (by omega)
  have c4 := Next_spec l (nextD l j' 6).2 4 e1x (by omega) (by omega)
  have b5x := nextD_lt l (nextD l j' 6).2 5000 (by omega)
  clear p0 hj
  generalize nextD l (nextD l j' 6).2 5000 = Y5 at *
  generalize nextD l (nextD l j' 6).2 4 = Y4 at *
  generalize nextD l j' 6 = X at *
  obtain ⟨x, jx⟩ := X
  obtain ⟨y5, jy5⟩ := Y5
  obtain ⟨y4, jy4⟩ := Y4
  simp only at *
  rcases hst with ⟨h0, rfl, rfl⟩ | ⟨h0, rfl, rfl⟩ | ⟨h0, rfl, rfl⟩ | ⟨h0, rfl, rfl⟩ | ⟨h0, hp⟩
  ·subst h0
   have hcs := And.intro (c1 d) True.intro
   clear c1 c4 c5 e1x
   refine Wk ?_
   exact ⟨WS, WG, WN, _, (show (f) < m_1 by omega), f, q, acc ++ [⟨1, 7, 0, 0, [], 0⟩], j1, rfl, WF, WF, WF, WF, WC, WC, WC, WC, WC⟩
  ·subst h0
   have hcs := And.intro (c1 d) (And.intro (c5 d) True.intro)
   clear c1 c4 c5 e1x
   refine Wk ?_
   exact ⟨WS, WG, WN, _, (show (f) < m_1 by omega), f, q, acc ++ [⟨4, 0, 0, 100 + (y5 : Int), [], 0⟩], j1, rfl, WF, WF, WF, WF, WC, WC, WC, WC, WC⟩
  ·subst h0
   have hcs := And.intro (c1 d) True.intro
   clear c1 c4 c5 e1x
   refine Wk ?_
   exact ⟨WS, WG, WN, _, (show (f) < m_1 by omega), f, q, acc ++ [⟨6, 0, 0, 0, ann, 0⟩], j1, rfl, WF, WF, WF, WF, WC, WC, WC, WC, WC⟩
  ·have hcs := And.intro (c1 d) (And.intro (c4 d) True.intro)
   clear c1 c4 c5 e1x
   rcases h0 with rfl | rfl
   ·refine Wk ?_
    exact ⟨WS, WG, WN, _, (show (f) < m_1 by omega), f, q, acc ++ [⟨7, 0, 0, 0, [], (y4 : Int)⟩], j1, rfl, WF, WF, WF, WF, WC, WC, WC, WC, WC⟩
   ·refine Wk ?_
    exact ⟨WS, WG, WN, _, (show (f) < m_1 by omega), f, q, acc ++ [⟨7, 0, 0, 0, [], (y4 : Int)⟩], j1, rfl, WF, WF, WF, WF, WC, WC, WC, WC, WC⟩
  ·subst h0
   obtain ⟨_, _, _, _, p5⟩ := hp
   have hcs := And.intro (c1 d) (And.intro (p5 d) True.intro)
   clear c1 c4 c5 e1x p5
   refine Wk ?_
   exact ⟨WS, WG, WN, _, (show (f) < m_1 by omega), f, q, acc ++ [p], j1, rfl, WF, WF, WF, WF, WC, WC, WC, WC, WC⟩
theorem Wide_ex (l : List Int) (i : Nat) (h : Dk l i) : ∃ (L : List Pr) (j : Nat), WID l i L j := by
 obtain ⟨⟨R, j⟩, hR, h1, h2, h3⟩ := wDr_ex (nextD l i 2).1 (nextD l i 2).2 [] (nextD_dk _ h) (fun p hp => by cases hp)
 have := nextD_lt l i 2 (by omega)
 exact ⟨R, j, by simp only [List.length_nil] at h3; omega, h2, h1, fun d k => Wide_core l i h R j hR d k⟩

theorem CloneM_spec (b : List UInt8) (hl : b.length ≤ 140737488351232) (k : Nat) :
  ACall Tryz.prog 133 [.slice none (b.map byteAV)] k [] (.ms k 1 1 0 b.length) [(k, .mrow 1 5 1 (b.map byteAV))] := by
 cases b with
 | cons x r => exact CloneM_cons (x :: r) rfl hl k
 | nil =>
  refine ACall.empty fun A c => ?_
  cases A with
  | none => exact ACall.nilM (by decide) (Clone_nil c k)
  | some A => exact CloneM_empty A c k
end Go.Proofs.YtdmjpolnbmoehaaGreatDoor

namespace Go.Proofs.YtdmjpolnbmoehaaGreatDoor
open Go.Ab
attribute [local irreducible] Go.Ab.tyAV Go.Ab.aw Go.Ab.aops Go.Ab.kReg Go.Ab.aThen Go.Ab.aBlk Go.Ab.acond Go.Ab.aguard Go.Ab.astep Go.Ab.AStepX Go.Ab.aRet
attribute [local irreducible] shaG
section
variable [W : W32]
end

theorem bitsG_nbx {t : TypeId} {x : AV} (h : bitsG = .box t x) : False := by unfold bitsG at h; cases h
theorem bitsG_nrw {t : TypeId} {n m : Nat} (h : bitsG = .row t n m) : False := by unfold bitsG at h; cases h
section
variable [W : W32]
end

theorem pEncS_spec (p : Pr) (hp0 : PrOk p) (d k : Nat) : ACall Tryz.prog 96 [prAV p] k [(d, bitsG)] (encAV (encPS p)) [] := by
 unfold encPS
 split
 ·rename_i h; exact Enc_spec p hp0 h d k
 ·rename_i h
  exact (Enc_bad p hp0 (by simpa using h) d k).result (AV.sub_tup (.cons AV.le_nils0 (.cons (AV.le_refl _) .nil)))
theorem ClipP_spec (l : List Pr) (_hl : l.length ≤ 1000000) (k : Nat) :
  ACall Tryz.prog 152 [.slice none (l.map prAV)] k [] (.clip (l.map prAV)) [] := by
 refine Bd Tryz.func152 Tryz.ntmps152 fun σ N hp hpn hk hkn hfree => ?_
 exact W0
section
variable [W : W32]
def condP (a : Alg) (e : Nat) (d : Di) (p : Pr) : Alg × Nat × Di :=
 ((mMac a (if e = 0 then (encPS p).2 else e) d.tag (condM p)).1, (mMac a (if e = 0 then (encPS p).2 else e) d.tag (condM p)).2.1, ⟨d.ticket, d.conds ++ [p], (mMac a (if e = 0 then (encPS p).2 else e) d.tag (condM p)).2.2⟩)
set_option maxHeartbeats 4000000 in
theorem dCond_spec (a : Alg) (m : Nat) (ha : AlgIn a m) (hm : m ≤ 900000) (e : Nat) (d : Di) (hdt : d.ticket.length ≤ 100000) (hdc : d.conds.length ≤ 10000) (p : Pr) (hp0 : PrOk p) (q r1 r2 g h k : Nat) :
  ACall Tryz.prog 83 [.ptr q [] 0, diAV d, prAV p] k (makE a e q r1 r2 ++ [(g, shaG), (h, bitsG)]) (diAV (condP a e d p).2.2) [(q, makB (condP a e d p).1 (condP a e d p).2.1 r1 r2), (r1, rowM (condP a e d p).1.macs.length)] := by
 have c1 := pEncS_spec p hp0 h
 have hM : [99, 111, 110, 100, 105, 116, 105, 111, 110] ++ (encPS p).1 = condM p := rfl
 have hMl := condM_len p
 have hEl := encPS_len p
 have c2 := Message_spec [99, 111, 110, 100, 105, 116, 105, 111, 110] (encPS p).1 (by decide) (by omega)
 rw [hM] at c2
 have hM0 : 0 < (condM p).length := by simp [condM]
 have f1 := Fail_spec a e (encPS p).2 q r1 r2
 have c3 := mMac_spec a (if e = 0 then (encPS p).2 else e) d.tag (condM p) (by have := ha.ml; omega) ha.mm (fun _ => hM0) (by omega) q r1 r2 g
 have hbx := mMac_boxes a (if e = 0 then (encPS p).2 else e) d.tag (condM p)
 have c4 := Clone_spec d.ticket (by omega)
 have c5 := ClipP_spec d.conds (by omega)
 unfold condP
 generalize encPS p = X at *
 obtain ⟨B, E⟩ := X
 simp only at *
 generalize condM p = M at *
 generalize (if e = 0 then E else e) = e1 at *
 obtain ⟨ti, L, tg⟩ := d
 simp only at *
 generalize mMac a e1 tg M = Y at *
 obtain ⟨a2, e3, t2⟩ := Y
 simp only at c3 hbx ⊢
 have hdA : diAV ⟨ti, L, tg⟩ = .agg [.slice none (ti.map byteAV), .slice none (L.map prAV), tagAV tg] := rfl
 have hdB : diAV ⟨ti, L ++ [p], t2⟩ = .agg [.slice none (ti.map byteAV), .slice none (L.map prAV ++ [prAV p]), tagAV t2] := by simp [diAV]
 rw [hdA, hdB]
 unfold encAV at c1
 simp only at c1
 have hb : (L.length + 1) * 56 ≤ 140737488355328 := by omega
 unfold makE at *
 simp only [List.cons_append, List.nil_append] at *
 simp only [makB_def, rowM_eq, rowB_eq, hbx] at *
 clear ha hp0 hM hMl hEl hM0 hbx hdA hdB
 refine Bd Tryz.func83 Tryz.ntmps83 fun σ N hp hpn hk hkn hfree => ?_
 simp only [List.mem_cons, List.not_mem_nil, or_false, forall_eq_or_imp, forall_eq] at hp hpn
 obtain ⟨hd1, hd2, hd3, hd4, hd5⟩ := hp
 obtain ⟨hdn1, hdn2, hdn3, hdn4, hdn5⟩ := hpn
 have hne : q ≠ r1 := by rintro rfl; rw [hd1] at hd2; cases hd2
 have hne3 : q ≠ r2 := by rintro rfl; rw [hd1] at hd3; cases hd3
 have hneg : g ≠ q := by rintro rfl; rw [hd4] at hd1; exact shaG_nbox hd1
 have hneg1 : g ≠ r1 := by rintro rfl; rw [hd4] at hd2; exact shaG_nrow hd2
 have hneh : h ≠ q := by rintro rfl; rw [hd5] at hd1; exact bitsG_nbx hd1
 have hneh1 : h ≠ r1 := by rintro rfl; rw [hd5] at hd2; exact bitsG_nrw hd2
 have hne23 : r1 ≠ r2 := by rintro rfl; rw [hd2] at hd3; simp at hd3
 have hcs := And.intro c1 (And.intro f1 (And.intro c4 (And.intro c5 (And.intro c2 (And.intro c3 True.intro)))))
 clear c1 f1 c2 c3 c4 c5
 refine Wk ?_
 refine go_resultWI [(q, (.box 203 (.agg [.agg [.lit (.bool a2.free), tagAV a2.seed, .lit (.int .i64 a2.fresh), .slice (some r1) (a2.macs.map macAV), .slice (some r2) (a.boxes.map sealAV)], .lit (.int .i64 (e3 : Int))]))), (r1, (.row 149 65 a2.macs.length))] (by simp (disch := omega) [go_sem, *, -List.reduceReplicate]; rfl) (by first | exact AV.le_refl _ | ((first | apply AV.le_slices | apply AV.le_nilsE | apply AV.le_clipE); first | rfl | (simp (disch := omega) [go_sem, *, -List.reduceReplicate]; done)) | (apply AV.sub_tup; repeat' first | exact ALe.nil | exact AV.le_refl _ | apply ALe.cons | ((first | apply AV.le_slices | apply AV.le_nilsE | apply AV.le_clipE); first | rfl | (simp (disch := omega) [go_sem, *, -List.reduceReplicate]; done))) | (apply AV.sub_agg; repeat' first | exact ALe.nil | exact AV.le_refl _ | apply ALe.cons | ((first | apply AV.le_slices | apply AV.le_nilsE | apply AV.le_clipE); first | rfl | (simp (disch := omega) [go_sem, *, -List.reduceReplicate]; done)))) (by first | rfl | (simp (disch := omega) [go_sem]; done) | (simp (disch := omega) [go_sem, *]; done) | simp (disch := omega) [go_sem]) (fun id hid => by simp only [wr_cons, wr_nil]; (by_cases hdd : id = q; (· (subst hdd; simp (disch := omega) [go_sem, *])); (· (by_cases hdd2 : id = r1; (· (subst hdd2; simp (disch := omega) [go_sem, *])); (· (simp (disch := omega) only [upd_ne]; try (first | exact hlow id hid hdd hdd2 | exact hlow id hid))))))) (by simp) (by simp (disch := omega) [go_sem, *])
omit W in
theorem dDone_ok (a : Alg) (d : Di) (q r1 r2 k : Nat) :
  ACall Tryz.prog 82 [.ptr q [] 0, diAV d] k (makE a 0 q r1 r2) (mdAV (a, d, 0)) [] := by
 have cd := Done_ok a q r1 r2
 unfold mdAV
 simp only
 unfold makE at *
 simp only [makB_def, rowM_eq, rowB_eq] at *
 refine Bd Tryz.func82 Tryz.ntmps82 fun σ N hp hpn hk hkn hfree => ?_
 simp only [List.mem_cons, List.not_mem_nil, or_false, forall_eq_or_imp, forall_eq] at hp hpn; obtain ⟨hd1, hd2, hd3⟩ := hp; obtain ⟨hdn1, hdn2, hdn3⟩ := hpn
 have hcs := And.intro cd True.intro
 clear cd
 refine Wk ?_
 exact WD
omit W in
theorem dDone_bad (a : Alg) (e : Nat) (he : e ≠ 0) (d : Di) (q r1 r2 k : Nat) :
  ACall Tryz.prog 82 [.ptr q [] 0, diAV d] k (makE a e q r1 r2) (mdAV (alg0, di0, e)) [] := by
 have cd := Done_bad a e he q r1 r2
 have h1i : ((e : Int) != 0) = true := by simp; omega
 unfold mdAV di0
 simp only [diAV, alg0_eq, List.map_nil]
 unfold makE at *
 simp only [makB_def, rowM_eq, rowB_eq, alg0_eq] at *
 obtain ⟨ti, L, tg⟩ := d
 simp only
 refine Bd Tryz.func82 Tryz.ntmps82 fun σ N hp hpn hk hkn hfree => ?_
 simp only [List.mem_cons, List.not_mem_nil, or_false, forall_eq_or_imp, forall_eq] at hp hpn; obtain ⟨hd1, hd2, hd3⟩ := hp; obtain ⟨hdn1, hdn2, hdn3⟩ := hpn
 have hcs := And.intro cd True.intro
 clear cd
 refine Wk ?_
 exact WD
def resE (d : Di) (p : Pr) : Nat := if predB p = false then 5 else if p.kind = 7 then 6 else if 8 ≤ d.conds.length then 2 else 0
theorem restrS_cond (a : Alg) (d : Di) (p : Pr) : restrS a d p = if (condP a (resE d p) d p).2.1 = 0 then ((condP a (resE d p) d p).1, (condP a (resE d p) d p).2.2, 0) else (alg0, di0, (condP a (resE d p) d p).2.1) := by
 have bad : ∀ e : Nat, e ≠ 0 → (condP a e d p).2.1 = e := fun e he => by
  unfold condP
  simp only
  rw [if_neg he, mMac_err he]
 unfold restrS resE
 by_cases h1 : predB p = false
 ·rw [if_pos h1, if_pos h1, bad 5 (by omega), if_neg (show ¬ (5 : Nat) = 0 by omega)]
 ·rw [if_neg h1, if_neg h1]
  by_cases h2 : p.kind = 7
  ·rw [if_pos h2, if_pos h2, bad 6 (by omega), if_neg (show ¬ (6 : Nat) = 0 by omega)]
  ·rw [if_neg h2, if_neg h2]
   by_cases h3 : 8 ≤ d.conds.length
   ·rw [if_pos h3, if_pos h3, bad 2 (by omega), if_neg (show ¬ (2 : Nat) = 0 by omega)]
   ·rw [if_neg h3, if_neg h3]
    have he : (encPS p).2 = 0 := by unfold encPS; rw [if_pos (by simpa using h1)]
    unfold condP
    simp only [he, if_true]
    by_cases hm : (macS a d.tag (condM p)).2.2 = 0
    ·have hM : mMac a 0 d.tag (condM p) = ((macS a d.tag (condM p)).1, 0, (macS a d.tag (condM p)).2.1) := by unfold mMac; rw [if_neg (by simp), if_pos hm]
     rw [hM, if_pos hm]; rfl
    ·have hM : mMac a 0 d.tag (condM p) = (a, (macS a d.tag (condM p)).2.2, zeroTag) := by unfold mMac; rw [if_neg (by simp), if_neg hm]
     rw [hM, if_neg hm]; simp only; rw [if_neg hm]
set_option maxHeartbeats 8000000 in
theorem Restr_spec (a : Alg) (m : Nat) (ha : AlgIn a m) (hm : m ≤ 900000) (d : Di) (hdt : d.ticket.length ≤ 100000) (hdc : d.conds.length ≤ 10000) (p : Pr) (hp0 : PrOk p) (g h : Nat) (_hgh : g ≠ h) (k : Nat) :
  ACall Tryz.prog 20 [algAV a, diAV d, prAV p] k [(g, shaG), (h, bitsG)] (mdAV (restrS a d p)) [] := by
 have cb := Begin_spec a (by have := ha.ml; omega) (by have := ha.bl; omega)
 have c1 := fun q r1 r2 => dCond_spec a m ha hm (resE d p) d hdt hdc p hp0 q r1 r2 g h
 have hbx : (condP a (resE d p) d p).1.boxes = a.boxes := mMac_boxes _ _ _ _
 have c0 := predValid_spec p hp0 h
 rw [restrS_cond]
 obtain ⟨e, he⟩ : ∃ e, resE d p = e := ⟨_, rfl⟩
 rw [he] at c1 hbx ⊢
 have cf := fun q r1 r2 => Fail_spec a 0 e q r1 r2
 generalize condP a e d p = X at *
 obtain ⟨a1, e1, d1⟩ := X
 obtain ⟨v, hv, hvi⟩ : ∃ v, (if e1 = 0 then (a1, d1, 0) else (alg0, di0, e1)) = v ∧ ∀ q r1 r2 k, ACall Tryz.prog 82 [.ptr q [] 0, diAV d1] k (makE a1 e1 q r1 r2) (mdAV v) [] := by
  by_cases h1 : e1 = 0
  ·subst h1
   exact ⟨_, if_pos rfl, fun q r1 r2 k => dDone_ok a1 d1 q r1 r2 k⟩
  ·exact ⟨_, if_neg h1, fun q r1 r2 k => dDone_bad a1 e1 h1 d1 q r1 r2 k⟩
 simp only at c1 hbx ⊢
 rw [hv]
 clear hv ha hdt hdc hp0
 obtain ⟨av, dv, ev⟩ := v
 unfold mdAV at hvi ⊢
 simp only at hvi ⊢
 obtain ⟨ti, L, tg⟩ := d
 have hdA : diAV ⟨ti, L, tg⟩ = .agg [.slice none (ti.map byteAV), .slice none (L.map prAV), tagAV tg] := rfl
 rw [hdA] at c1 ⊢
 obtain ⟨pk, pm, pf, pt, pn, px⟩ := p
 have hpA : prAV ⟨pk, pm, pf, pt, pn, px⟩ = .agg [.lit (.int .i64 pk), .lit (.int .u64 pm), .lit (.int .i64 pf), .lit (.int .i64 pt), .lit (.string ⟨pn.toArray⟩), .lit (.int .i64 px)] := rfl
 rw [hpA] at c0 c1 ⊢
 unfold resE at he
 simp only at he
 unfold makAV at cb
 unfold makE at c1 cf hvi
 simp only [List.cons_append, List.nil_append] at *
 simp only [makB_def, rowM_eq, rowB_eq, hbx, if_true] at *
 clear hbx hdA hpA
 have e05 : ((5 : Nat) : Int) = 5 := rfl
 have e06 : ((6 : Nat) : Int) = 6 := rfl
 have e02 : ((2 : Nat) : Int) = 2 := rfl
 have e00 : ((0 : Nat) : Int) = 0 := rfl
 cases hpv : predB ⟨pk, pm, pf, pt, pn, px⟩ with
 | false =>
  rw [if_pos hpv] at he
  rw [hpv] at c0
  subst he
  simp only [e00, e05] at cb c1 cf
  clear hpv
  refine Bd Tryz.func20 Tryz.ntmps20 fun σ N hp hpn hk hkn hfree => ?_
  simp only [List.mem_cons, List.not_mem_nil, or_false, forall_eq_or_imp, forall_eq] at hp hpn; obtain ⟨hd1, hd2⟩ := hp; obtain ⟨hdn1, hdn2⟩ := hpn
  have hcs := And.intro cb True.intro
  refine Wm ?_
  iterate 2 refine Wz ?_
  clear hcs
  refine go_cliprowIn (N + 6 + 1) [0, 3] 149 65 (bt := 203) (c := .agg [.agg [.lit (.bool a.free), tagAV a.seed, .lit (.int .i64 a.fresh), .clip (a.macs.map macAV), .clip (a.boxes.map sealAV)], .lit (.int .i64 ((0 : Nat) : Int))]) (xs := a.macs.map macAV) (by simp (disch := omega) [go_sem, *, -List.reduceReplicate]) rfl (all_macs1 _) ?_; refine go_cliprowIn (N + 6 + 1) [0, 4] 151 35 (bt := 203) (c := .agg [.agg [.lit (.bool a.free), tagAV a.seed, .lit (.int .i64 a.fresh), .slice (some (N + 6 + 3)) (a.macs.map macAV), .clip (a.boxes.map sealAV)], .lit (.int .i64 ((0 : Nat) : Int))]) (xs := a.boxes.map sealAV) (by simp (disch := omega) [go_sem, *, -List.reduceReplicate]) rfl (all_boxes1 _) ?_
  have hcs := And.intro c0 (And.intro (cf (N + 6 + 1) (N + 6 + 3) (N + 6 + 3 + 1)) (And.intro (c1 (N + 6 + 1) (N + 6 + 3) (N + 6 + 3 + 1)) (And.intro (hvi (N + 6 + 1) (N + 6 + 3) (N + 6 + 3 + 1)) True.intro)))
  clear c0 cb c1 cf hvi
  refine Wk ?_
  exact WD
 | true =>
  rw [if_neg (by rw [hpv]; simp)] at he
  rw [hpv] at c0
  clear hpv
  by_cases hk : pk = 7
  ·rw [if_pos hk] at he
   subst he
   simp only [e00, e06] at cb c1 cf
   refine Bd Tryz.func20 Tryz.ntmps20 fun σ N hp hpn hk hkn hfree => ?_
   simp only [List.mem_cons, List.not_mem_nil, or_false, forall_eq_or_imp, forall_eq] at hp hpn; obtain ⟨hd1, hd2⟩ := hp; obtain ⟨hdn1, hdn2⟩ := hpn
   have hcs := And.intro cb True.intro
   refine Wm ?_
   iterate 2 refine Wz ?_
   clear hcs
   refine go_cliprowIn (N + 6 + 1) [0, 3] 149 65 (bt := 203) (c := .agg [.agg [.lit (.bool a.free), tagAV a.seed, .lit (.int .i64 a.fresh), .clip (a.macs.map macAV), .clip (a.boxes.map sealAV)], .lit (.int .i64 ((0 : Nat) : Int))]) (xs := a.macs.map macAV) (by simp (disch := omega) [go_sem, *, -List.reduceReplicate]) rfl (all_macs1 _) ?_; refine go_cliprowIn (N + 6 + 1) [0, 4] 151 35 (bt := 203) (c := .agg [.agg [.lit (.bool a.free), tagAV a.seed, .lit (.int .i64 a.fresh), .slice (some (N + 6 + 3)) (a.macs.map macAV), .clip (a.boxes.map sealAV)], .lit (.int .i64 ((0 : Nat) : Int))]) (xs := a.boxes.map sealAV) (by simp (disch := omega) [go_sem, *, -List.reduceReplicate]) rfl (all_boxes1 _) ?_
   have hcs := And.intro c0 (And.intro (cf (N + 6 + 1) (N + 6 + 3) (N + 6 + 3 + 1)) (And.intro (c1 (N + 6 + 1) (N + 6 + 3) (N + 6 + 3 + 1)) (And.intro (hvi (N + 6 + 1) (N + 6 + 3) (N + 6 + 3 + 1)) True.intro)))
   clear c0 cb c1 cf hvi
   refine Wk ?_
   exact WD
  ·rw [if_neg hk] at he
   by_cases h8 : 8 ≤ L.length
   ·have h8i : (8 : Int) ≤ (L.length : Int) := by omega
    rw [if_pos h8] at he
    subst he
    simp only [e00, e02] at cb c1 cf
    refine Bd Tryz.func20 Tryz.ntmps20 fun σ N hp hpn hk hkn hfree => ?_
    simp only [List.mem_cons, List.not_mem_nil, or_false, forall_eq_or_imp, forall_eq] at hp hpn; obtain ⟨hd1, hd2⟩ := hp; obtain ⟨hdn1, hdn2⟩ := hpn
    have hcs := And.intro cb True.intro
    refine Wm ?_
    iterate 2 refine Wz ?_
    clear hcs
    refine go_cliprowIn (N + 6 + 1) [0, 3] 149 65 (bt := 203) (c := .agg [.agg [.lit (.bool a.free), tagAV a.seed, .lit (.int .i64 a.fresh), .clip (a.macs.map macAV), .clip (a.boxes.map sealAV)], .lit (.int .i64 ((0 : Nat) : Int))]) (xs := a.macs.map macAV) (by simp (disch := omega) [go_sem, *, -List.reduceReplicate]) rfl (all_macs1 _) ?_; refine go_cliprowIn (N + 6 + 1) [0, 4] 151 35 (bt := 203) (c := .agg [.agg [.lit (.bool a.free), tagAV a.seed, .lit (.int .i64 a.fresh), .slice (some (N + 6 + 3)) (a.macs.map macAV), .clip (a.boxes.map sealAV)], .lit (.int .i64 ((0 : Nat) : Int))]) (xs := a.boxes.map sealAV) (by simp (disch := omega) [go_sem, *, -List.reduceReplicate]) rfl (all_boxes1 _) ?_
    have hcs := And.intro c0 (And.intro (cf (N + 6 + 1) (N + 6 + 3) (N + 6 + 3 + 1)) (And.intro (c1 (N + 6 + 1) (N + 6 + 3) (N + 6 + 3 + 1)) (And.intro (hvi (N + 6 + 1) (N + 6 + 3) (N + 6 + 3 + 1)) True.intro)))
    clear c0 cb c1 cf hvi
    refine Wk ?_
    exact WD
   ·have h8i : ¬ (8 : Int) ≤ (L.length : Int) := by omega
    rw [if_neg h8] at he
    subst he
    simp only [e00] at cb c1 cf
    refine Bd Tryz.func20 Tryz.ntmps20 fun σ N hp hpn hk hkn hfree => ?_
    simp only [List.mem_cons, List.not_mem_nil, or_false, forall_eq_or_imp, forall_eq] at hp hpn; obtain ⟨hd1, hd2⟩ := hp; obtain ⟨hdn1, hdn2⟩ := hpn
    have hcs := And.intro cb True.intro
    refine Wm ?_
    iterate 2 refine Wz ?_
    clear hcs
    refine go_cliprowIn (N + 6 + 1) [0, 3] 149 65 (bt := 203) (c := .agg [.agg [.lit (.bool a.free), tagAV a.seed, .lit (.int .i64 a.fresh), .clip (a.macs.map macAV), .clip (a.boxes.map sealAV)], .lit (.int .i64 ((0 : Nat) : Int))]) (xs := a.macs.map macAV) (by simp (disch := omega) [go_sem, *, -List.reduceReplicate]) rfl (all_macs1 _) ?_; refine go_cliprowIn (N + 6 + 1) [0, 4] 151 35 (bt := 203) (c := .agg [.agg [.lit (.bool a.free), tagAV a.seed, .lit (.int .i64 a.fresh), .slice (some (N + 6 + 3)) (a.macs.map macAV), .clip (a.boxes.map sealAV)], .lit (.int .i64 ((0 : Nat) : Int))]) (xs := a.boxes.map sealAV) (by simp (disch := omega) [go_sem, *, -List.reduceReplicate]) rfl (all_boxes1 _) ?_
    have hcs := And.intro c0 (And.intro (c1 (N + 6 + 1) (N + 6 + 3) (N + 6 + 3 + 1)) (And.intro (hvi (N + 6 + 1) (N + 6 + 3) (N + 6 + 3 + 1)) True.intro))
    clear c0 cb c1 cf hvi
    refine Wk ?_
    exact WD
end
end Go.Proofs.YtdmjpolnbmoehaaGreatDoor

namespace Go.Proofs.YtdmjpolnbmoehaaGreatDoor
open Go.Ab
attribute [local irreducible] Go.Ab.tyAV Go.Ab.aw Go.Ab.aops Go.Ab.kReg Go.Ab.aThen Go.Ab.aBlk Go.Ab.acond Go.Ab.aguard Go.Ab.astep Go.Ab.AStepX Go.Ab.aRet

theorem Req_spec (r : Rq) (k : Nat) : ACall Tryz.prog 92 [rqAV r] k [] (.lit (.bool (rqB r))) [] := by
 obtain ⟨x, y⟩ := r
 unfold rqAV
 by_cases h1 : 0 ≤ x
 ·by_cases h2 : x < 8
  ·by_cases h3 : 1 ≤ y
   ·by_cases h4 : y ≤ 281474976710656
    ·have hr : rqB ⟨x, y⟩ = true := by simp [rqB, *]
     rw [hr]
     refine Bd Tryz.func92 Tryz.ntmps92 fun σ N hp hpn hk hkn hfree => ?_
     exact W0
    ·have hr : rqB ⟨x, y⟩ = false := by simp [rqB, *]
     rw [hr]
     refine Bd Tryz.func92 Tryz.ntmps92 fun σ N hp hpn hk hkn hfree => ?_
     exact W0
   ·have hr : rqB ⟨x, y⟩ = false := by simp [rqB, *]
    rw [hr]
    refine Bd Tryz.func92 Tryz.ntmps92 fun σ N hp hpn hk hkn hfree => ?_
    exact W0
  ·have hr : rqB ⟨x, y⟩ = false := by simp [rqB, *]
   rw [hr]
   refine Bd Tryz.func92 Tryz.ntmps92 fun σ N hp hpn hk hkn hfree => ?_
   exact W0
 ·have hr : rqB ⟨x, y⟩ = false := by simp [rqB, *]
  rw [hr]
  refine Bd Tryz.func92 Tryz.ntmps92 fun σ N hp hpn hk hkn hfree => ?_
  exact W0
structure BoIn (d : Bo) : Prop where
 tl : d.ticket.length ≤ 9223372036854775807
 cl : d.conds.length ≤ 9223372036854775807
 ok : ∀ p ∈ d.conds, PrOk p
structure BuIn (b : Bu) : Prop where
 cl : b.cavs.length ≤ 1000
 dl : b.dis.length ≤ 1000
 ok : ∀ c ∈ b.cavs, PrOk c.first
 di : ∀ d ∈ b.dis, BoIn d





end Go.Proofs.YtdmjpolnbmoehaaGreatDoor

namespace Go.Ab
open Go.RowKit
attribute [local irreducible] Go.Ab.tyAV Go.Ab.aw Go.Ab.aops Go.Ab.kReg Go.Ab.aThen Go.Ab.aBlk Go.Ab.acond Go.Ab.aguard Go.Ab.astep Go.Ab.AStepX Go.Ab.aRet
mutual
def AV.shut : AV → Bool
 | .any => true
 | .lit _ => true
 | .nils => true
 | .slice none xs => AV.shutl xs
 | .slice (some _) _ => false
 | .agg xs => AV.shutl xs
 | .ptr _ _ _ => false
 | .view x => AV.shut x
 | .fn _ xs => AV.shutl xs
 | .tup xs => AV.shutl xs
 | .clip xs => AV.shutl xs
 | .ms _ _ _ _ _ => false
 | .mp _ _ _ _ => false
 | .bs _ _ _ _ _ => false
 | .iface _ x => AV.shut x
def AV.shutl : List AV → Bool
 | [] => true
 | x :: r => AV.shut x && AV.shutl r
end
theorem AV.shutl_at {xs : List AV} (h : AV.shutl xs = true) : ∀ {i : Nat} {x : AV}, xs[i]? = some x → x.shut = true := by
 induction xs with
 | nil => intro i x hx; simp at hx
 | cons y r ih =>
  intro i x hx
  simp only [AV.shutl, Bool.and_eq_true] at h
  cases i with
  | zero => simp at hx; subst hx; exact h.1
  | succ i => exact ih h.2 (by simpa using hx)
theorem AV.shutl_map {α : Type} (f : α → AV) (hf : ∀ x, (f x).shut = true) : ∀ l : List α, AV.shutl (l.map f) = true
 | [] => rfl
 | x :: r => by simp only [List.map_cons, AV.shutl, hf x, AV.shutl_map f hf r, Bool.and_self]
theorem Rep.shut {g g' : Ghost} (hG : ∀ b o u, g.G b o = some u → g'.G b o = some u) {x : AV} {v : Value} (h : Rep g x v) : x.shut = true → Rep g' x v := by
 induction h with
 | any v h => exact fun _ => .any v h
 | lit v h => exact fun _ => .lit v h
 | nils => exact fun _ => .nils
 | slice own xs vs A c size hl hc hm h hs hcell hown ih =>
  intro hx
  cases own with
  | some o => simp [AV.shut] at hx
  | none =>
   simp only [AV.shut] at hx
   exact .slice none xs vs A c size hl hc hm (fun i x v h1 h2 => ih i x v h1 h2 (AV.shutl_at hx h1)) hs (hcell.imp (fun h => h) (fun ⟨b, o, h1, h2⟩ => ⟨b, o, h1, fun j u hu => hG _ _ _ (h2 j u hu)⟩)) (fun id hid => by cases hid)
 | agg xs vs hl h ih => exact fun hx => .agg xs vs hl fun i x v h1 h2 => ih i x v h1 h2 (AV.shutl_at (by simpa only [AV.shut] using hx) h1)
 | ptr id path off b h => intro hx; simp [AV.shut] at hx
 | view x v b o h hc ih => exact fun hx => .view x v b o (ih (by simpa only [AV.shut] using hx)) fun j u hu => hG _ _ _ (hc j u hu)
 | fn f xs vs hl h ih => exact fun hx => .fn f xs vs hl fun i x v h1 h2 => ih i x v h1 h2 (AV.shutl_at (by simpa only [AV.shut] using hx) h1)
 | tup xs vs hl h ih => exact fun hx => .tup xs vs hl fun i x v h1 h2 => ih i x v h1 h2 (AV.shutl_at (by simpa only [AV.shut] using hx) h1)
 | clip xs A n h ih => exact fun hx => .clip xs A n (ih (by simpa only [AV.shut] using hx))
 | ms id ver size lo len ver' u A c hm hv hl hc h => intro hx; simp [AV.shut] at hx
 | mp id ver path off ver' u a hm hv h => intro hx; simp [AV.shut] at hx
 | bs id path lo off len b c h hl hc => intro hx; simp [AV.shut] at hx
 | iface t x v h ih => exact fun hx => .iface t x v (ih (by simpa only [AV.shut] using hx))
theorem Sim.grown {W0 : World} {g : Ghost} {σ : Nat → Ent} {n : Nat} {w w' : World} (h : Sim W0 g σ n w) (hb : Below w.heap.size w w') : Sim W0 g σ n w' := by
 refine ⟨h.below.trans (hb.mono h.below.size), fun b o v hv => ?_, h.bound, fun id => (h.ents id).same g.le_refl rfl rfl rfl rfl fun b hbk => ⟨hb.block b (h.fresh id b hbk).2, fun _ => rfl⟩, h.sep, fun i b hbk => ⟨(h.fresh i b hbk).1, Nat.lt_of_lt_of_le (h.fresh i b hbk).2 hb.size⟩⟩
 have hc := h.imm b o v hv
 have hlt : b < w.heap.size := World.block_lt_of_cell? w ⟨b, o, none⟩ hc
 unfold World.cell? at hc ⊢
 rw [hb.block b hlt]
 exact hc
mutual
inductive Lend (pre : Foot) : AV → AV → Prop where
 | shut {x y : AV} : AV.le x y → y.shut = true → Lend pre x y
 | ms {r ver size k : Nat} {e : TypeId} {xs : List AV} : (r, Ent.mrow ver e size xs) ∈ pre → k = xs.length → AV.shutl xs = true → Lend pre (.ms r ver size 0 k) (.slice none xs)
 | agg {xs ys : List AV} : LendL pre xs ys → Lend pre (.agg xs) (.agg ys)
inductive LendL (pre : Foot) : List AV → List AV → Prop where
 | nil : LendL pre [] []
 | cons {x y : AV} {xs ys : List AV} : Lend pre x y → LendL pre xs ys → LendL pre (x :: xs) (y :: ys)
end
section
variable {P : Program} {o : Oper} {s : Slots} {id : Nat}
end
section
variable {P : Program} {ops : Array Oper} {m i n : Nat} {T : Trace} {k : Cfg → Trace → Prop} {ty : TypeId} {pos : String} {after : Array Edge} {r : List Oper} {s : Slots} {σ : Nat → Ent}
end
attribute [go_sem] AV.shut AV.shutl
end Go.Ab
