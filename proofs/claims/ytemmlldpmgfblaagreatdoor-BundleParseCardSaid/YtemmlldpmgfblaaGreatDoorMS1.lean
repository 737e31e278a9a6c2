/- Texts U8, U10, U11, U12, U13, M9, U14, U16, O1, O2, O3, O6, joined. -/
import Derived.Test.YtemmlldpmgfblaaGreatDoorM9
namespace Go.Proofs.YtemmlldpmgfblaaGreatDoor
open Go.Ab
attribute [local irreducible] Go.Ab.tyAV Go.Ab.aw Go.Ab.aops Go.Ab.kReg Go.Ab.aThen Go.Ab.aBlk Go.Ab.acond Go.Ab.aguard Go.Ab.astep Go.Ab.AStepX Go.Ab.aRet
attribute [local irreducible] shaG

section
variable [W : W32]
theorem Good.tick {con : Co} {se : Int} {S : Ss} {n m : Nat} (h : Good con se S n m) (hm : m ≤ 1000) (c0 : 0 ≤ con.party) (c7 : con.party ≤ 7) : (BL S con).2.1.ticket.length ≤ 1000 := by
 obtain ⟨hk, hb2, hB⟩ := blankS_ok h.ain (by omega) (c := con) (t := ⟨0, 150⟩) rfl c0 c7
 have hBL : BL S con = _ := hB
 have hpl := plainT_len (keyS S.A).2.1 ⟨0, 150⟩ rfl
 have htl := sealS_box h.ok.key hb2
 rw [hBL]
 simp only
 omega
theorem grantS_conds {a : Alg} {c : Co} {t holder : List UInt8} {mi : Int} : (grantS a c t holder mi).2.1.conds.length ≤ 1 := by
 unfold grantS
 repeat' split
 all_goals first | (simp [di0]; done) | skip
 unfold restrS
 repeat' split
 all_goals simp [di0]
theorem restrS_conds {a : Alg} {d : Di} {p : Pr} : (restrS a d p).2.1.conds.length ≤ d.conds.length + 1 := by
 unfold restrS
 repeat' split
 all_goals simp [di0]
set_option maxHeartbeats 16000000 in
theorem Scene_walk (l : List Int) (i : Nat) (h : Dk l i) (q0 j0 : Nat) (sd : Tg) (j1 mi j2 pt j3 bo j4 ga j5 no j6 se j7 K j8 : Nat) (a1 a2 a3 : Alg) (k1 k2 : Tg) (e1' e2' e3' : Nat) (pa : Pa) (con : Co)
  (h0 : nextD l i 2 = (q0, j0)) (h1 : tagD l j0 = (sd, j1)) (h2 : keyS ⟨decide (q0 = 0), sd, 0, [], []⟩ = (a1, k1, e1')) (h3 : keyS a1 = (a2, k2, e2')) (h4 : nextD l j1 3000 = (mi, j2)) (h5 : nextD l j2 8 = (pt, j3)) (h6 : nextD l j3 60 = (bo, j4)) (h7 : nextD l j4 8 = (ga, j5)) (h8 : rangeD l j5 1 100 = (no, j6)) (h9 : rangeD l j6 1 50 = (se, j7))
  (h10 : mintS a2 2 k2 (se : Nat) = (a3, pa, e3')) (h11 : nextD l j7 6 = (K, j8)) (hcon : con = ⟨pt, k1, [⟨ann, -(bo : Int) * 365 * 1440⟩, ⟨[98, 111, 98], 0⟩]⟩) (hpt : pt ≤ 7) (hbo : bo ≤ 59) (hmi : mi ≤ 2999) (hK : K ≤ 5)
  (hG0 : Good con (se : Nat) ⟨a3, pa, []⟩ 0 10) (R1 : Ss) (R2 : Nat) (hrun0 : sRun l con (mi : Nat) K j8 ⟨a3, pa, []⟩ (R1, R2)) (d k : Nat) :
  ACall Tryz.prog 42 [.ptr d [] 0, .lit (.bool false)] k [(d, deckBox l i)] (scAV ⟨R1.A, ⟨[⟨2, k2⟩], 3⟩, con, R1.p, R1.gs, ⟨ga, no⟩, ann, mi⟩) [(d, deckBox l R2)] := by
 have d0 : Dk l j0 := by have := nextD_dk 2 h; rw [h0] at this; exact this
 have d1 : Dk l j1 := by have := tagD_dk d0; rw [h1] at this; exact this
 have d2 : Dk l j2 := by have := nextD_dk 3000 d1; rw [h4] at this; exact this
 have d3 : Dk l j3 := by have := nextD_dk 8 d2; rw [h5] at this; exact this
 have d4 : Dk l j4 := by have := nextD_dk 60 d3; rw [h6] at this; exact this
 have d5 : Dk l j5 := by have := nextD_dk 8 d4; rw [h7] at this; exact this
 have d6 : Dk l j6 := by have := rangeD_dk (lo := 1) (n := 100) d5; rw [h8] at this; exact this
 have d7 : Dk l j7 := by have := rangeD_dk (lo := 1) (n := 50) d6; rw [h9] at this; exact this
 have d8 : Dk l j8 := by have := nextD_dk 6 d7; rw [h11] at this; exact this
 have c1 := Next_spec l i 2 h (by omega) (by omega)
 have c2 := Tag_spec l j0 d0
 have c3 := refNew_spec (decide (q0 = 0)) sd
 have i0 : AlgIn ⟨decide (q0 = 0), sd, 0, [], []⟩ 0 := ⟨by simp, by simp, by simp, by simp, fun e he => by simp at he, fun e he => by simp at he⟩
 have c4 := Key_spec ⟨decide (q0 = 0), sd, 0, [], []⟩ (by simp)
 have i1 : AlgIn a1 1 := by have := keyS_in i0; rw [h2] at this; exact this
 have c5 := Key_spec a1 i1.f0
 have i2 : AlgIn a2 2 := by have := keyS_in i1; rw [h3] at this; exact this
 have c6 := Next_spec l j1 3000 d1 (by omega) (by omega)
 have c7 := Next_spec l j2 8 d2 (by omega) (by omega)
 have c8 := Next_spec l j3 60 d3 (by omega) (by omega)
 have c9 := Next_spec l j4 8 d4 (by omega) (by omega)
 have c10 := Range_spec l j5 1 100 100 d5 (by omega) (by omega) (by omega) (by omega)
 have c11 := Range_spec l j6 1 50 50 d6 (by omega) (by omega) (by omega) (by omega)
 have c12 := refMint_spec a2 2 i2 (by omega) 2 (se : Nat) k2
 have c13 := Next_spec l j7 6 d7 (by omega) (by omega)
 rw [h0] at c1
 rw [h1] at c2
 rw [h2] at c4
 rw [h3] at c5
 rw [h4] at c6
 rw [h5] at c7
 rw [h6] at c8
 rw [h7] at c9
 rw [h8] at c10
 rw [h9] at c11
 rw [h10] at c12
 rw [h11] at c13
 unfold mkAV at c4 c5
 unfold mpAV at c12
 simp only at c1 c2 c4 c5 c6 c7 c8 c9 c10 c11 c12 c13
 clear h0 h1 h2 h3 h4 h5 h6 h7 h8 h9 h10 h11 i0 i1 i2 d0 d1 d2 d3 d4 d5 d6 d7 h
 have hq0 : ((q0 : Int) == 0) = decide (q0 = 0) := by
  by_cases hq : q0 = 0
  ·subst hq; rfl
  ·rw [decide_eq_false hq, beq_eq_false_iff_ne]; omega
 have hq1 : decide ((q0 : Int) = 0) = decide (q0 = 0) := by congr 1; exact propext (by omega)
 generalize decide (q0 = 0) = fr at *
 have hc0 : 0 ≤ con.party := by rw [hcon]; simp
 have hc7 : con.party ≤ 7 := by rw [hcon]; simp only; omega
 obtain ⟨bon, hbon⟩ : ∃ x : Int, -(bo : Int) * 365 * 1440 = x := ⟨_, rfl⟩
 have hb0 : -60000000 ≤ bon := by omega
 have hb1 : bon ≤ 0 := by omega
 rw [hbon] at hcon
 have hfp : findP con.ps ann = (⟨ann, bon⟩, true) := by rw [hcon]; rfl
 have hcA : concAV con = .agg [.lit (.int .i64 (pt : Int)), tagAV k1, .slice none [.agg [.lit (.string ⟨#[97, 110, 110]⟩), .lit (.int .i64 bon)], .agg [.lit (.string ⟨#[98, 111, 98]⟩), .lit (.int .i64 0)]]] := by rw [hcon]; rfl
 have hcps : con.ps.length = 2 := by rw [hcon]; rfl
 have hres : scAV ⟨R1.A, ⟨[⟨2, k2⟩], 3⟩, con, R1.p, R1.gs, ⟨ga, no⟩, ann, mi⟩ = .agg [algAV R1.A, .agg [.slice none [.agg [.lit (.int .i64 2), tagAV k2]], .lit (.int .i64 3)], .agg [.lit (.int .i64 (pt : Int)), tagAV k1, .slice none [.agg [.lit (.string ⟨#[97, 110, 110]⟩), .lit (.int .i64 bon)], .agg [.lit (.string ⟨#[98, 111, 98]⟩), .lit (.int .i64 0)]]], paAV R1.p, .slice none (R1.gs.map diAV), .agg [.lit (.int .i64 (ga : Int)), .lit (.int .i64 (no : Int))], .lit (.string ⟨#[97, 110, 110]⟩), .lit (.int .i64 (mi : Int))] := by
  unfold scAV; simp only; rw [hcA]; rfl
 rw [hres]
 clear hres hcon
 refine Bd Tryz.func42 Tryz.ntmps42 fun σ N hp hpn hk hkn hfree => ?_
 obtain ⟨hd, hdn⟩ := HD0 hp hpn; clear hp hpn
 have hcs := And.intro (c1 d) (And.intro (c2 d) (And.intro c3 (And.intro c4 (And.intro c5 (And.intro (c6 d) (And.intro (c7 d) (And.intro (c8 d) (And.intro (c9 d) (And.intro (c10 d) (And.intro (c11 d) (And.intro c12 (And.intro (c13 d) True.intro))))))))))))
 clear c1 c2 c3 c4 c5 c6 c7 c8 c9 c10 c11 c12 c13
 refine Wm ?_
 iterate 6 refine Wz ?_
 replace hcs := hcs.2.2.2.2.2
 iterate 7 refine Wz ?_
 clear hcs
 refine go_lessIn (N + 1) [1, 0] (.slice none [.agg [.lit (.int .i64 2), tagAV k2]]) (bt := 47) (c := .agg [algAV a3, .agg [.slice (some (N + 32 + 2)) [.agg [.lit (.int .i64 2), tagAV k2]], .lit (.int .i64 3)], .agg [.lit (.int .i64 (pt : Int)), tagAV k1, .slice (some (N + 44 + 10)) [.agg [.lit (.string ⟨#[97, 110, 110]⟩), .lit (.int .i64 bon)], .agg [.lit (.string ⟨#[98, 111, 98]⟩), .lit (.int .i64 0)]]], paAV pa, .nils, .agg [.lit (.int .i64 (ga : Int)), .lit (.int .i64 (no : Int))], .lit (.string ⟨#[97, 110, 110]⟩), .lit (.int .i64 (mi : Int))]) (by simp (disch := omega) [go_sem, *, -List.reduceReplicate]) rfl (AV.le_own _ _) rfl rfl ?_
 refine go_lessIn (N + 1) [2, 2] (.slice none [.agg [.lit (.string ⟨#[97, 110, 110]⟩), .lit (.int .i64 bon)], .agg [.lit (.string ⟨#[98, 111, 98]⟩), .lit (.int .i64 0)]]) (bt := 47) (c := .agg [algAV a3, .agg [.slice none [.agg [.lit (.int .i64 2), tagAV k2]], .lit (.int .i64 3)], .agg [.lit (.int .i64 (pt : Int)), tagAV k1, .slice (some (N + 44 + 10)) [.agg [.lit (.string ⟨#[97, 110, 110]⟩), .lit (.int .i64 bon)], .agg [.lit (.string ⟨#[98, 111, 98]⟩), .lit (.int .i64 0)]]], paAV pa, .nils, .agg [.lit (.int .i64 (ga : Int)), .lit (.int .i64 (no : Int))], .lit (.string ⟨#[97, 110, 110]⟩), .lit (.int .i64 (mi : Int))]) (by simp (disch := omega) [go_sem, *, -List.reduceReplicate]; try rfl) rfl (AV.le_own _ _) rfl rfl ?_
 refine go_nilrowIn (N + 1) [4] 66 34 (bt := 47) (c := .agg [algAV a3, .agg [.slice none [.agg [.lit (.int .i64 2), tagAV k2]], .lit (.int .i64 3)], .agg [.lit (.int .i64 (pt : Int)), tagAV k1, .slice none [.agg [.lit (.string ⟨#[97, 110, 110]⟩), .lit (.int .i64 bon)], .agg [.lit (.string ⟨#[98, 111, 98]⟩), .lit (.int .i64 0)]]], paAV pa, .nils, .agg [.lit (.int .i64 (ga : Int)), .lit (.int .i64 (no : Int))], .lit (.string ⟨#[97, 110, 110]⟩), .lit (.int .i64 (mi : Int))]) (by simp (disch := omega) [go_sem, *, -List.reduceReplicate]; try rfl) rfl ?_
 refine go_loopF mixed (by kernel_rfl) (8 :: 9 :: 10 :: 11 :: 12 :: 13 :: 83 :: 84 :: 85 :: 86 :: 87 :: 88 :: 89 :: 90 :: 91 :: 92 :: 93 :: 94 :: 95 :: 96 :: 97 :: 98 :: 99 :: 100 :: 101 :: 102 :: 103 :: 104 :: 105 :: 106 :: 107 :: 108 :: 109 :: 110 :: 111 :: 112 :: 113 :: 114 :: 115 :: 116 :: 117 :: 118 :: 119 :: 120 :: 121 :: 122 :: 123 :: 124 :: 125 :: 126 :: 127 :: 128 :: 129 :: 130 :: 131 :: 132 :: 133 :: 134 :: 135 :: 136 :: 137 :: 138 :: 139 :: 140 :: 141 :: 142 :: 143 :: 144 :: 145 :: 146 :: 147 :: 148 :: 149 :: 150 :: 151 :: 152 :: 153 :: 154 :: 155 :: 156 :: 157 :: 158 :: 159 :: 160 :: 161 :: 162 :: 163 :: 164 :: 165 :: 166 :: 167 :: 168 :: 169 :: 170 :: 171 :: 172 :: 173 :: 174 :: []) [d, N+1, N+86] (fun m_ s_ σ_ n_ => ∃ (f : Nat) (j' : Nat) (S : Ss) (n1 : Nat) (m1 : Nat), m_ = f ∧ s_ 8 = .lit (.int .i64 f) ∧ σ_ (d) = deckBox l j' ∧ σ_ (N+1) = .box 47 (.agg [algAV S.A, .agg [.slice none [.agg [.lit (.int .i64 2), tagAV k2]], .lit (.int .i64 3)], .agg [.lit (.int .i64 (pt : Int)), tagAV k1, .slice none [.agg [.lit (.string ⟨#[97, 110, 110]⟩), .lit (.int .i64 bon)], .agg [.lit (.string ⟨#[98, 111, 98]⟩), .lit (.int .i64 0)]]], paAV S.p, .slice (some (N + 86)) (S.gs.map diAV), .agg [.lit (.int .i64 (ga : Int)), .lit (.int .i64 (no : Int))], .lit (.string ⟨#[97, 110, 110]⟩), .lit (.int .i64 (mi : Int))]) ∧ σ_ (N+86) = .row 66 34 S.gs.length ∧ (f + n1 ≤ 6) ∧ (m1 + 12 * f ≤ 1000) ∧ (Dk l j') ∧ (Good con (se : Nat) S n1 m1) ∧ (sRun l con (mi : Nat) f j' S (R1, R2))) ⟨_, K, j8, ⟨a3, pa, []⟩, 0, 10, rfl, WF, WF, WF, WF, WC, WC, WC, WC, WC⟩ ?_
 intro m_1 s_1 σ_1 n_1 hs_1 hf_1 hn_1 hI_1
 obtain ⟨f, j', S, n1, m1, hm_1, h1_8, e1_0, e1_1, e1_2, hfn, hfm, hj, hG, hrun⟩ := hI_1
 have h1_0 := KS hs_1 0
 have h1_1 := KS hs_1 1
 have h1_4 := KS hs_1 4
 have h1_5 := KS hs_1 5
 have k1_0 := KE hf_1 (N)
 have hlow := KD (N := N) (d := d) (σ := σ) hf_1
 clear hG0 hrun0 d8
 cases f with
 | zero =>
  have hrun : (R1, R2) = (S, j') := hrun
  simp only [Prod.mk.injEq] at hrun
  obtain ⟨rfl, rfl⟩ := hrun
  clear hG hj
  refine Wk ?_
  exact RV (d) (deckBox l R2)
 | succ f =>
  obtain ⟨hr1, hr2⟩ := hrun
  have t1 := Next_spec l j' 4 hj (by omega) (by omega)
  have e1x := nextD_dk 4 hj
  have b1x := nextD_lt l j' 4 (by omega)
  have hgs := hG.gl
  have hb24 : (S.gs.length + 1) * 80 ≤ 140737488355328 := by omega
  have hb25 : S.gs.length ≤ 140737488355327 := by omega
  by_cases hx : (nextD l j' 4).1 = 0
  ·obtain ⟨X2, hX2, hrun⟩ := hr2 hx
   clear hr1 hr2
   have e2x := nextD_dk 3 e1x
   have b2x := nextD_lt l (nextD l j' 4).2 3 (by omega)
   obtain ⟨hG2, hd2⟩ := hG.thd (by omega) (by omega) hc0 hc7 hfp hb0 hb1 (by omega) (by omega) e2x (by omega) hX2
   have t2 := refBlank_spec S.A m1 hG.ain (by omega) con ⟨0, 150⟩
   have htk := hG.tick (by omega) hc0 hc7
   have iB : AlgIn (BL S con).1 (m1 + 2) := blankS_in hG.ain con ⟨0, 150⟩
   have hcl := hG.cl
   have t3 := refAdd_spec (BL S con).1 (m1 + 2) iB (by omega) S.p (by omega) (BL S con).2.1 (by omega)
   have iA : AlgIn (AD S con).1 (m1 + 6) := addS_in iB S.p (BL S con).2.1
   have t4 := refGrant_spec (AD S con).1 (m1 + 6) iA (by omega) con (by omega) (BL S con).2.1.ticket (by omega) ann (by decide) (mi : Nat)
   have iG : AlgIn (GR S con (mi : Nat)).1 (m1 + 8) := grantS_in iA con (BL S con).2.1.ticket ann (mi : Nat)
   have hcG := grantS_conds (a := (AD S con).1) (c := con) (t := (BL S con).2.1.ticket) (holder := ann) (mi := (mi : Nat))
   have t5 := Next_spec l (nextD l j' 4).2 3 e1x (by omega) (by omega)
   have hBL : blankS S.A con ⟨0, 150⟩ = BL S con := rfl
   have hAD : addS (BL S con).1 S.p (BL S con).2.1 = AD S con := rfl
   have hGR : grantS (AD S con).1 con (BL S con).2.1.ticket ann (mi : Nat) = GR S con (mi : Nat) := rfl
   simp only [hBL] at t2
   simp only [hAD] at t3
   simp only [hGR] at t4 iG hcG
   clear hBL hAD hGR iA iB hG
   generalize hBL : BL S con = B at *
   generalize hAD : AD S con = D at *
   generalize hGR : GR S con (mi : Nat) = G at *
   obtain ⟨aB, bl, eB⟩ := B
   obtain ⟨aD, pD, eD⟩ := D
   obtain ⟨aG, gG, eG⟩ := G
   clear hBL hAD hGR
   have hG3 := hG2
   clear hG2
   generalize nextD l (nextD l j' 4).2 3 = Y at *
   generalize nextD l j' 4 = X at *
   obtain ⟨x, jx⟩ := X
   obtain ⟨y, jy⟩ := Y
   obtain ⟨Q1, Q2, Q3⟩ := X2
   unfold mlAV at t2
   unfold mpAV at t3
   unfold mdAV at t4
   obtain ⟨bp, bk, bt⟩ := bl
   unfold strAV ann at t4
   simp only at *
   subst hx
   have hblA : blAV ⟨bp, bk, bt⟩ = .agg [.lit (.int .i64 bp), tagAV bk, .slice none (bt.map byteAV)] := rfl
   have hte : teAV ⟨0, 150⟩ = .agg [.lit (.int .i64 0), .lit (.int .i64 150)] := rfl
   have iG2 : AlgIn aG (1100 - y) := iG.more (by omega)
   have hcG2 : gG.conds.length + y ≤ 10 := by omega
   have hy2 : y ≤ 2 := by omega
   have hcs := And.intro (t1 d) (And.intro t2 (And.intro t3 (And.intro t4 (And.intro (t5 d) True.intro))))
   clear t1 t2 t3 t4 t5 e1x hj
   refine Wk ?_
   clear hcs hblA hte
   refine go_loopF mixed (by kernel_rfl) [12, 13, 151, 152, 153, 154, 155, 156, 157, 158, 159, 160, 161, 162, 163, 164, 165, 166, 167, 168] [d, N+1, n_1+33] (fun m_ s_ σ_ n_ => ∃ (f2 : Nat) (j2' : Nat) (A2 : Alg) (g2 : Di), m_ = f2 ∧ s_ 12 = .lit (.int .i64 f2) ∧ σ_ (d) = deckBox l j2' ∧ σ_ (N+1) = .box 47 (.agg [algAV A2, .agg [.slice none [.agg [.lit (.int .i64 2), tagAV k2]], .lit (.int .i64 3)], .agg [.lit (.int .i64 (pt : Int)), tagAV k1, .slice none [.agg [.lit (.string ⟨#[97, 110, 110]⟩), .lit (.int .i64 bon)], .agg [.lit (.string ⟨#[98, 111, 98]⟩), .lit (.int .i64 0)]]], paAV pD, .slice (some (N + 86)) (S.gs.map diAV), .agg [.lit (.int .i64 (ga : Int)), .lit (.int .i64 (no : Int))], .lit (.string ⟨#[97, 110, 110]⟩), .lit (.int .i64 (mi : Int))]) ∧ σ_ (n_1+33) = .box 66 (diAV g2) ∧ (f2 ≤ 2) ∧ (Dk l j2') ∧ (AlgIn A2 (1100 - f2)) ∧ (g2.conds.length + f2 ≤ 10) ∧ (rRun l f2 j2' A2 g2 (Q1, Q2, Q3))) ⟨_, y, jy, aG, gG, rfl, WF, WF, WF, WF, WC, WC, WC, WC, WC⟩ ?_
   intro m_2 s_2 σ_2 n_2 hs_2 hf_2 hn_2 hI_2
   obtain ⟨f2, j2', A2, g2, hm_2, h2_12, e2_0, e2_1, e2_2, hf2, hj2, hA2, hg2, hrr⟩ := hI_2
   have h2_0 := KS hs_2 0
   have h2_1 := KS hs_2 1
   have h2_4 := KS hs_2 4
   have h2_5 := KS hs_2 5
   have h2_8 := KS hs_2 8
   have h2_9 := KS hs_2 9
   have h2_10 := KS hs_2 10
   have h2_11 := KS hs_2 11
   have h2_83 := KS hs_2 83
   have h2_84 := KS hs_2 84
   have h2_87 := KS hs_2 87
   have h2_88 := KS hs_2 88
   have h2_89 := KS hs_2 89
   have h2_90 := KS hs_2 90
   have h2_91 := KS hs_2 91
   have h2_92 := KS hs_2 92
   have h2_93 := KS hs_2 93
   have h2_94 := KS hs_2 94
   have h2_95 := KS hs_2 95
   have h2_96 := KS hs_2 96
   have h2_97 := KS hs_2 97
   have h2_98 := KS hs_2 98
   have h2_99 := KS hs_2 99
   have h2_100 := KS hs_2 100
   have h2_101 := KS hs_2 101
   have h2_102 := KS hs_2 102
   have h2_103 := KS hs_2 103
   have h2_104 := KS hs_2 104
   have h2_105 := KS hs_2 105
   have h2_106 := KS hs_2 106
   have h2_108 := KS hs_2 108
   have h2_109 := KS hs_2 109
   have h2_110 := KS hs_2 110
   have h2_111 := KS hs_2 111
   have h2_112 := KS hs_2 112
   have h2_113 := KS hs_2 113
   have h2_114 := KS hs_2 114
   have h2_115 := KS hs_2 115
   have h2_116 := KS hs_2 116
   have h2_117 := KS hs_2 117
   have h2_118 := KS hs_2 118
   have h2_120 := KS hs_2 120
   have h2_121 := KS hs_2 121
   have h2_122 := KS hs_2 122
   have h2_123 := KS hs_2 123
   have h2_124 := KS hs_2 124
   have h2_125 := KS hs_2 125
   have h2_126 := KS hs_2 126
   have h2_127 := KS hs_2 127
   have h2_128 := KS hs_2 128
   have h2_129 := KS hs_2 129
   have h2_131 := KS hs_2 131
   have h2_132 := KS hs_2 132
   have h2_133 := KS hs_2 133
   have h2_134 := KS hs_2 134
   have h2_135 := KS hs_2 135
   have h2_136 := KS hs_2 136
   have h2_137 := KS hs_2 137
   have h2_138 := KS hs_2 138
   have h2_139 := KS hs_2 139
   have h2_140 := KS hs_2 140
   have h2_141 := KS hs_2 141
   have h2_142 := KS hs_2 142
   have h2_143 := KS hs_2 143
   have h2_144 := KS hs_2 144
   have h2_145 := KS hs_2 145
   have h2_146 := KS hs_2 146
   have h2_148 := KS hs_2 148
   have h2_149 := KS hs_2 149
   have h2_150 := KS hs_2 150
   have k2_0 := KE hf_2 (N)
   have k2_1 := KE hf_2 (N + 86)
   have hlow := KD (N := N) (d := d) (σ := σ) hf_2
   clear hX2 iG hcG e2x iG2 hcG2 hy2
   cases f2 with
   | zero =>
    have hrr : (Q1, Q2, Q3) = (A2, g2, j2') := hrr
    simp only [Prod.mk.injEq] at hrr
    obtain ⟨rfl, rfl, rfl⟩ := hrr
    have hmm : S.gs.map diAV ++ [diAV Q2] = (S.gs ++ [Q2]).map diAV := by simp
    have hll : S.gs.length + 1 = (S.gs ++ [Q2]).length := by simp
    generalize S.gs ++ [Q2] = L at *
    clear hA2 hj2
    refine Wk ?_
    exact ⟨WS, WG, WN, _, (show (f) < m_1 by omega), f, Q3, ⟨Q1, pD, L⟩, n1 + 1, m1 + 12, rfl, WF, WF, WF, WF, WC, WC, WC, WC, WC⟩
   | succ f2 =>
    obtain ⟨p, jp, ⟨p1, p2, p3, p4, p5⟩, hrr⟩ := hrr
    have u1 := refRestr_spec A2 (1100 - (f2 + 1)) hA2 (by omega) g2 (by omega) p p2
    have iR := restrS_in hA2 g2 p
    have hcR := restrS_conds (a := A2) (d := g2) (p := p)
    generalize restrS A2 g2 p = Z at *
    obtain ⟨aR, gR, eR⟩ := Z
    unfold mdAV at u1
    simp only at *
    have iR2 : AlgIn aR (1100 - f2) := iR.more (by omega)
    have hcR2 : gR.conds.length + f2 ≤ 10 := by omega
    have hcs := And.intro (p5 d) (And.intro u1 True.intro)
    clear u1 p5 iR hA2 hj2 hcR p1 p2 p3 hrun hG3
    refine Wk ?_
    exact ⟨WS, WG, WN, _, (show (f2) < m_2 by omega), f2, jp, aR, gR, rfl, WF, WF, WF, WF, WC, WC, WC, WC, WC⟩
  ·obtain ⟨p, jp, ⟨p1, p2, p3, p4, p5⟩, hrun⟩ := hr1 hx
   clear hr1 hr2
   have hG2 := hG.nar (by omega) (by omega) p1 p2
   have hcl := hG.cl
   have t2 := Narrow_spec S.A m1 hG.ain S.p [p] (by simp; omega) (by simp; omega) (fun z hz => by rw [List.mem_singleton.1 hz]; exact p2)
   have hG3 : Good con (se : Nat) ⟨(narS S.A S.p [p]).1, (narS S.A S.p [p]).2.1, S.gs⟩ (n1 + 1) (m1 + 12) := { hG2 with ain := hG2.ain.more (by omega) }
   clear hG2 hG
   generalize nextD l j' 4 = X at *
   obtain ⟨x, jx⟩ := X
   generalize narS S.A S.p [p] = Z at *
   obtain ⟨aZ, pZ, eZ⟩ := Z
   unfold mpAV at t2
   simp only [List.map_cons, List.map_nil] at *
   have hx0 : (0 : Int) < (x : Int) := by omega
   have hcs := And.intro (t1 d) (And.intro (p5 d) (And.intro t2 True.intro))
   clear t1 t2 p5 e1x hj p1 p2 p3
   refine Wk ?_
   exact ⟨WS, WG, WN, _, (show (f) < m_1 by omega), f, jp, ⟨aZ, pZ, S.gs⟩, n1 + 1, m1 + 12, rfl, WF, WF, WF, WF, WC, WC, WC, WC, WC⟩
end

section
variable [W : W32]
structure ScV (s : Sc) : Prop where
 good : ∃ se : Int, Good s.con se ⟨s.alg, s.pass, s.grants⟩ 5 1000 ∧ 1 ≤ se ∧ se ≤ 50
 rq : rqB s.req = true
theorem Scene_ex (l : List Int) (i : Nat) (h : Dk l i) : ∃ (s : Sc) (j : Nat), ScV s ∧ Dk l j ∧ ∀ d k, ACall Tryz.prog 42 [.ptr d [] 0, .lit (.bool false)] k [(d, deckBox l i)] (scAV s) [(d, deckBox l j)] := by
 rcases h0 : nextD l i 2 with ⟨q0, j0⟩
 have d0 : Dk l j0 := by have := nextD_dk 2 h; rw [h0] at this; exact this
 rcases h1 : tagD l j0 with ⟨sd, j1⟩
 have d1 : Dk l j1 := by have := tagD_dk d0; rw [h1] at this; exact this
 rcases h2 : keyS ⟨decide (q0 = 0), sd, 0, [], []⟩ with ⟨a1, k1, e1⟩
 rcases h3 : keyS a1 with ⟨a2, k2, e2⟩
 rcases h4 : nextD l j1 3000 with ⟨mi, j2⟩
 have d2 : Dk l j2 := by have := nextD_dk 3000 d1; rw [h4] at this; exact this
 have b4 : mi < 3000 := by have := nextD_lt l j1 3000 (by omega); rw [h4] at this; exact this
 rcases h5 : nextD l j2 8 with ⟨pt, j3⟩
 have d3 : Dk l j3 := by have := nextD_dk 8 d2; rw [h5] at this; exact this
 have b5 : pt < 8 := by have := nextD_lt l j2 8 (by omega); rw [h5] at this; exact this
 rcases h6 : nextD l j3 60 with ⟨bo, j4⟩
 have d4 : Dk l j4 := by have := nextD_dk 60 d3; rw [h6] at this; exact this
 have b6 : bo < 60 := by have := nextD_lt l j3 60 (by omega); rw [h6] at this; exact this
 rcases h7 : nextD l j4 8 with ⟨ga, j5⟩
 have d5 : Dk l j5 := by have := nextD_dk 8 d4; rw [h7] at this; exact this
 have b7 : ga < 8 := by have := nextD_lt l j4 8 (by omega); rw [h7] at this; exact this
 rcases h8 : rangeD l j5 1 100 with ⟨no, j6⟩
 have d6 : Dk l j6 := by have := rangeD_dk (lo := 1) (n := 100) d5; rw [h8] at this; exact this
 have b8 : 1 ≤ no ∧ no ≤ 100 := by
  have := nextD_lt l j5 100 (by omega)
  unfold rangeD at h8; rw [Prod.mk.injEq] at h8; omega
 rcases h9 : rangeD l j6 1 50 with ⟨se, j7⟩
 have d7 : Dk l j7 := by have := rangeD_dk (lo := 1) (n := 50) d6; rw [h9] at this; exact this
 have b9 : 1 ≤ se ∧ se ≤ 50 := by
  have := nextD_lt l j6 50 (by omega)
  unfold rangeD at h9; rw [Prod.mk.injEq] at h9; omega
 rcases h10 : mintS a2 2 k2 (se : Nat) with ⟨a3, pa, e3⟩
 rcases h11 : nextD l j7 6 with ⟨K, j8⟩
 have d8 : Dk l j8 := by have := nextD_dk 6 d7; rw [h11] at this; exact this
 have b11 : K < 6 := by have := nextD_lt l j7 6 (by omega); rw [h11] at this; exact this
 have i0 : AlgIn ⟨decide (q0 = 0), sd, 0, [], []⟩ 0 := ⟨by simp, by simp, by simp, by simp, fun e he => by simp at he, fun e he => by simp at he⟩
 have i1 : AlgIn a1 1 := by have := keyS_in i0; rw [h2] at this; exact this
 have i2 : AlgIn a2 2 := by have := keyS_in i1; rw [h3] at this; exact this
 have o1 : AlgOk a1 := by have := (AlgOk.nil (decide (q0 = 0)) sd 0).key; rw [h2] at this; exact this
 have o2 : AlgOk a2 := by have := o1.key; rw [h3] at this; exact this
 have hB1 : a1.boxes = [] := by
  have := keyS_ok (a := ⟨decide (q0 = 0), sd, 0, [], []⟩) (by simp)
  rw [h2, Prod.mk.injEq] at this
  rw [this.1]
 have hB2 : a2.boxes = [] := by
  have := keyS_ok (a := a1) (by have := i1.f1; omega)
  rw [h3, Prod.mk.injEq] at this
  rw [this.1]; exact hB1
 have i3 : AlgIn a3 4 := by have := mintS_in i2 2 k2 (se : Nat); rw [h10] at this; exact this
 have hml := mintM_len se (by omega)
 obtain ⟨n1, n2, n3, n4⟩ := nodeS_keeps i2 (by omega) k2 (msg := mintM se) (by omega)
 have n5 := o2.node i2 (by omega) k2 (msg := mintM se) (by omega)
 have hM : mintS a2 2 k2 (se : Nat) = ((nodeS a2 k2 (mintM se)).1, ⟨2, (se : Nat), [], (nodeS a2 k2 (mintM se)).2.1⟩, 0) := by
  unfold mintS
  rw [if_neg (by omega), if_pos (by rw [Int.toNat_natCast]; exact n1), Int.toNat_natCast]
 rw [h10, Prod.mk.injEq, Prod.mk.injEq] at hM
 obtain ⟨hM1, hM2, hM3⟩ := hM
 have hG0 : Good ⟨pt, k1, [⟨ann, -(bo : Int) * 365 * 1440⟩, ⟨[98, 111, 98], 0⟩]⟩ (se : Nat) ⟨a3, pa, []⟩ 0 10 := by
  refine ⟨i3.more (by omega), (by rw [hM1]; exact n5), (by rw [hM2]), (by rw [hM2]), (by rw [hM2]; exact Nat.le_refl _), (fun c hc => by rw [hM2] at hc; cases hc), (by rw [hM2]; exact Nat.le_refl _), Nat.le_refl _, (fun g hg => by cases hg), (fun e he => ?_), (fun g hg => by cases hg), (fun i j hi _ _ => absurd hi (by simp))⟩
  simp only at he
  rw [hM1, n4, hB2] at he
  cases he
 have c0 : (0 : Int) ≤ (pt : Int) := by omega
 have c7 : (pt : Int) ≤ 7 := by omega
 obtain ⟨R, hrun, hG, hD⟩ := sRun_ex (con := ⟨pt, k1, [⟨ann, -(bo : Int) * 365 * 1440⟩, ⟨[98, 111, 98], 0⟩]⟩) (se := (se : Nat)) (mi := (mi : Nat)) c0 c7 (bo := -(bo : Int) * 365 * 1440) rfl (by omega) (by omega) (by omega) (by omega) K j8 0 10 ⟨a3, pa, []⟩ d8 hG0 (by omega) (by omega)
 refine ⟨_, R.2, ?_, hD, fun d k => Scene_walk l i h q0 j0 sd j1 mi j2 pt j3 bo j4 ga j5 no j6 se j7 K j8 a1 a2 a3 k1 k2 e1 e2 e3 pa _ h0 h1 h2 h3 h4 h5 h6 h7 h8 h9 h10 h11 rfl (by omega) (by omega) (by omega) (by omega) hG0 R.1 R.2 hrun d k⟩
 refine ⟨⟨se, { hG with ain := hG.ain.more (by omega), cl := Nat.le_trans hG.cl (by omega), th := Nat.le_trans hG.th (by omega), gl := Nat.le_trans hG.gl (by omega) }, by omega, by omega⟩, ?_⟩
 rw [rqB_iff]
 simp only
 omega
end
end Go.Proofs.YtemmlldpmgfblaaGreatDoor

namespace Go.Proofs.YtemmlldpmgfblaaGreatDoor
open Go.Ab
attribute [local irreducible] Go.Ab.tyAV Go.Ab.aw Go.Ab.aops Go.Ab.kReg Go.Ab.aThen Go.Ab.aBlk Go.Ab.acond Go.Ab.aguard Go.Ab.astep Go.Ab.AStepX Go.Ab.aRet
theorem bnumbers_spec (ns : List Nat) (bs : List UInt8) (h0 : 0 < ns.length) (hb : bs.length + 8 * ns.length ≤ 1000000) (hn : ∀ n ∈ ns, n ≤ 281474976710656) (R : List UInt8) (hR : bs ++ ns.flatMap leb = R) (k : Nat) :
  ACall Tryz.prog 128 [.slice none (bs.map byteAV), natsAV ns] k [] (.slice (some k) (R.map byteAV)) [(k, .row 5 1 R.length)] := by
 refine Bd Tryz.func128 Tryz.ntmps128 fun σ N hp hpn hk hkn hfree => ?_
 refine Wk ?_
 refine go_loopP (ns.length) (N) mixed (by kernel_rfl) [0, 6, 9, 10, 11, 12, 13, 14, 15, 16, 17, 18, 19] [] (fun s_ σ_ n_ => s_ 9 = .lit (.int .i64 0) ∧ s_ 0 = .slice none (bs.map byteAV) ∧ True) (fun m_ s_ σ_ n_ => ∃ (u : Nat) (q : Nat) (acc : List UInt8), m_ = ns.length - u ∧ s_ 9 = .lit (.int .i64 u) ∧ s_ 0 = .slice (some q) (acc.map byteAV) ∧ σ_ (q) = .row 5 1 acc.length ∧ (u ≤ ns.length) ∧ (acc.length ≤ bs.length + 8 * u) ∧ (acc = bs ++ (ns.take u).flatMap leb) ∧ (N ≤ q) ∧ (q < n_)) ⟨WF, WF, trivial⟩ ?_ ?_
 ·intro s_1 σ_1 n_1 hs_1 hf_1 hn_1 hI_1
  obtain ⟨h1_9, h1_0, -⟩ := hI_1
  have h1_4 := KS hs_1 4
  have h1_7 := KS hs_1 7
  have h1_8 := KS hs_1 8
  have hlow := KL (N := N) (σ := σ) hf_1
  obtain ⟨c, hc⟩ : ∃ c, ns[0] = c := ⟨_, rfl⟩
  have hcn : c ≤ 281474976710656 := hn c (by rw [← hc]; exact List.getElem_mem h0)
  have hcl := leb_len c 7 (by omega)
  have c1 := Append_ok bs (by omega) c hcn
  have hacc2 : bs ++ leb c = bs ++ (ns.take (0 + 1)).flatMap leb := by
   rw [List.take_add_one, List.getElem?_eq_getElem h0, hc]
   simp
  have hal2 : (bs ++ leb c).length ≤ bs.length + 8 * (0 + 1) := by rw [List.length_append]; omega
  have hll : bs.length + (leb c).length = (bs ++ leb c).length := by simp
  rw [hll] at c1
  generalize bs ++ leb c = acc2 at *
  have hcs := And.intro c1 True.intro
  clear c1 hll hR
  refine Wk ?_
  exact ⟨WS, WG, WN, _, (show ns.length - (1) < (ns.length) by omega), 1, _, acc2, rfl, WF, WF, WF, WC, WC, WC, WC, WC⟩
 intro m_1 s_1 σ_1 n_1 hs_1 hf_1 hn_1 hI_1
 obtain ⟨u, q, acc, hm_1, h1_9, h1_0, e1_0, hu, hal, hacc, hq, hqn⟩ := hI_1
 have h1_4 := KS hs_1 4
 have h1_7 := KS hs_1 7
 have h1_8 := KS hs_1 8
 have hlow := KL (N := N) (σ := σ) hf_1
 by_cases hul : u = ns.length
 ·rw [hul, List.take_length, hR] at hacc
  subst hul hacc
  clear hR
  refine Wk ?_
  refine go_result1 (r0 := q) (by simp (disch := omega) [go_sem, *, -List.reduceReplicate]; rfl) (by omega) (by simp (disch := omega) [go_sem]; try rfl) (fun id hid => by simp (disch := omega) only; try exact hlow id hid) (by simp (disch := omega) [go_sem, *, -List.reduceReplicate]; rfl) (by simp (disch := omega) [go_sem])
 ·have hui : u < ns.length := by omega
  obtain ⟨c, hc⟩ : ∃ c, ns[u] = c := ⟨_, rfl⟩
  have hcn : c ≤ 281474976710656 := hn c (by rw [← hc]; exact List.getElem_mem hui)
  have hcl := leb_len c 7 (by omega)
  have c1 := Append_ok acc (by omega) c hcn
  have hacc2 : acc ++ leb c = bs ++ (ns.take (u + 1)).flatMap leb := by
   rw [List.take_add_one, List.getElem?_eq_getElem hui, hc, hacc]
   simp
  have hal2 : (acc ++ leb c).length ≤ bs.length + 8 * (u + 1) := by rw [List.length_append]; omega
  have hll : acc.length + (leb c).length = (acc ++ leb c).length := by simp
  rw [hll] at c1
  clear hacc hll hR
  generalize acc ++ leb c = acc2 at *
  have hcs := And.intro c1 True.intro
  clear c1
  refine Wk ?_
  exact ⟨WS, WG, WN, _, (show ns.length - (u + 1) < m_1 by omega), u + 1, _, acc2, rfl, WF, WF, WF, WC, WC, WC, WC, WC⟩

theorem flat_take_le {α : Type} (f : α → List UInt8) : ∀ (l : List α) (u : Nat), ((l.take u).flatMap f).length ≤ (l.flatMap f).length
 | [], _ => by simp
 | x :: r, 0 => by simp
 | x :: r, u + 1 => by
  have := flat_take_le f r u
  simp only [List.take_succ_cons, List.flatMap_cons, List.length_append]; omega
theorem bpreds_spec (bs : List UInt8) (l : List Pr) (hv : ∀ p ∈ l, predB p = true ∧ PrOk p) (hl : l.length ≤ 100) (hb : bs.length ≤ 1000000) (R : List UInt8) (hR : bs ++ l.flatMap encP = R) (r d k : Nat) (hrd : r ≠ d) :
  ACall Tryz.prog 131 [.slice (some r) (bs.map byteAV), .slice none (l.map prAV)] k [(r, .row 5 1 bs.length), (d, bitsG)] (.slice (some r) (R.map byteAV)) [(r, .row 5 1 R.length)] := by
 have h0 : bs ++ (l.take 0).flatMap encP = bs := by simp
 refine Bd Tryz.func131 Tryz.ntmps131 fun σ N hp hpn hk hkn hfree => ?_
 simp only [List.mem_cons, List.not_mem_nil, or_false, forall_eq_or_imp, forall_eq] at hp hpn; obtain ⟨hd1, hd2⟩ := hp; obtain ⟨hdn1, hdn2⟩ := hpn
 refine Wk ?_
 refine go_loopB (N) mixed (by kernel_rfl) [0, 6, 7, 8, 11, 12, 13, 14, 15, 16, 17, 18, 19, 20, 21, 22, 23] [r] (fun m_ s_ σ_ n_ => ∃ (u : Nat) (acc : List UInt8), m_ = l.length - u ∧ s_ 11 = .lit (.int .i64 u) ∧ s_ 0 = .slice (some r) (acc.map byteAV) ∧ σ_ (r) = .row 5 1 acc.length ∧ (u ≤ l.length) ∧ (acc.length ≤ bs.length + 40 * u) ∧ (bs ++ (l.take u).flatMap encP = acc)) ⟨_, 0, bs, rfl, WF, WF, WF, WC, WC, WC⟩ ?_
 intro m_1 s_1 σ_1 n_1 hs_1 hf_1 hn_1 hI_1
 obtain ⟨u, acc, hm_1, h1_11, h1_0, e1_0, hu, hal, hacc⟩ := hI_1
 have h1_4 := KS hs_1 4
 have h1_9 := KS hs_1 9
 have h1_10 := KS hs_1 10
 have k1_0 := KE hf_1 (d)
 have hlow := KD (N := N) (d := r) (σ := σ) hf_1
 clear h0
 by_cases hul : u = l.length
 ·rw [hul, List.take_length, hR] at hacc
  subst hul hacc
  clear hR hv
  refine Wk ?_
  exact RW (r) (.row 5 1 R.length)
 ·have hui : u < l.length := by omega
  have hv1 := hv _ (List.getElem_mem hui)
  obtain ⟨c, hc⟩ : ∃ c, l[u] = c := ⟨_, rfl⟩
  rw [hc] at hv1
  have hcl := encP_len c hv1.1
  have c1 := Enc_spec c hv1.2 hv1.1 d
  have hacc2 : acc ++ encP c = bs ++ (l.take (u + 1)).flatMap encP := by
   rw [List.take_add_one, List.getElem?_eq_getElem hui, hc, ← hacc]
   simp
  have hal2 : (acc ++ encP c).length ≤ bs.length + 40 * (u + 1) := by rw [List.length_append]; omega
  have hll : acc.length + (encP c).length = (acc ++ encP c).length := by simp
  have hmm : acc.map byteAV ++ (encP c).map byteAV = (acc ++ encP c).map byteAV := by simp
  have hacc3 := hacc2.symm
  clear hacc hR hv hacc2
  generalize encP c = X at *
  have hXl : X.length ≤ 40 := hcl.2
  have hb2 : acc.length + X.length ≤ 140737488355328 := by omega
  generalize hA2 : acc ++ X = acc2 at *
  have hcs := And.intro c1 True.intro
  clear c1 hA2
  refine Wk ?_
  exact ⟨WS, WG, WN, _, (show l.length - (u + 1) < m_1 by omega), u + 1, acc2, rfl, WF, WF, WF, WC, WC, WC⟩
theorem bcavs_spec (bs : List UInt8) (l : List Ca) (hv : ∀ p ∈ l, cavB p = true ∧ PrOk p.first) (hl : l.length ≤ 100) (R : List UInt8) (hR : bs ++ l.flatMap encC = R) (hRl : R.length ≤ 10000000) (r d k : Nat) (hrd : r ≠ d) :
  ACall Tryz.prog 129 [.slice (some r) (bs.map byteAV), .slice none (l.map caAV)] k [(r, .row 5 1 bs.length), (d, bitsG)] (.slice (some r) (R.map byteAV)) [(r, .row 5 1 R.length)] := by
 have h0 : bs ++ (l.take 0).flatMap encC = bs := by simp
 have hpre : ∀ u, (bs ++ (l.take u).flatMap encC).length ≤ R.length := fun u => by
  rw [← hR, List.length_append, List.length_append]
  have := flat_take_le encC l u
  omega
 have hbR : bs.length ≤ R.length := by rw [← hR, List.length_append]; omega
 refine Bd Tryz.func129 Tryz.ntmps129 fun σ N hp hpn hk hkn hfree => ?_
 simp only [List.mem_cons, List.not_mem_nil, or_false, forall_eq_or_imp, forall_eq] at hp hpn; obtain ⟨hd1, hd2⟩ := hp; obtain ⟨hdn1, hdn2⟩ := hpn
 refine Wk ?_
 refine go_loopB (N) mixed (by kernel_rfl) [0, 6, 7, 8, 11, 12, 13, 14, 15, 16, 17, 18, 19, 20, 21, 22, 23] [r] (fun m_ s_ σ_ n_ => ∃ (u : Nat) (acc : List UInt8), m_ = l.length - u ∧ s_ 11 = .lit (.int .i64 u) ∧ s_ 0 = .slice (some r) (acc.map byteAV) ∧ σ_ (r) = .row 5 1 acc.length ∧ (u ≤ l.length) ∧ (acc.length ≤ R.length) ∧ (bs ++ (l.take u).flatMap encC = acc)) ⟨_, 0, bs, rfl, WF, WF, WF, WC, WC, WC⟩ ?_
 intro m_2 s_2 σ_2 n_2 hs_2 hf_2 hn_2 hI_2
 obtain ⟨u, acc, hm_2, h2_11, h2_0, e2_0, hu, hal, hacc⟩ := hI_2
 have h2_4 := KS hs_2 4
 have h2_9 := KS hs_2 9
 have h2_10 := KS hs_2 10
 have k2_0 := KE hf_2 (d)
 have hlow := KD (N := N) (d := r) (σ := σ) hf_2
 clear h0
 by_cases hul : u = l.length
 ·rw [hul, List.take_length, hR] at hacc
  subst hul hacc
  clear hR hv hpre
  refine Wk ?_
  exact RW (r) (.row 5 1 R.length)
 ·have hui : u < l.length := by omega
  have hv1 := hv _ (List.getElem_mem hui)
  obtain ⟨c, hc⟩ : ∃ c, l[u] = c := ⟨_, rfl⟩
  rw [hc] at hv1
  have hcl := encC_len c hv1.1
  have c1 := cEnc_ok c hv1.2 hv1.1 d
  have hacc2 : acc ++ encC c = bs ++ (l.take (u + 1)).flatMap encC := by
   rw [List.take_add_one, List.getElem?_eq_getElem hui, hc, ← hacc]
   simp
  have hal2 : (acc ++ encC c).length ≤ R.length := by rw [hacc2]; exact hpre (u + 1)
  have hab : acc.length ≤ 10000000 := by omega
  have hll : acc.length + (encC c).length = (acc ++ encC c).length := by simp
  have hmm : acc.map byteAV ++ (encC c).map byteAV = (acc ++ encC c).map byteAV := by simp
  have hacc3 := hacc2.symm
  clear hacc hR hv hacc2 hpre hbR
  generalize encC c = X at *
  have hXl : X.length ≤ 3000 := hcl.2
  clear hcl
  have hb2 : acc.length + X.length ≤ 140737488355328 := by omega
  clear hXl hab
  generalize hA2 : acc ++ X = acc2 at *
  have hcs := And.intro c1 True.intro
  clear c1 hA2
  refine Wk ?_
  exact ⟨WS, WG, WN, _, (show l.length - (u + 1) < m_2 by omega), u + 1, acc2, rfl, WF, WF, WF, WC, WC, WC⟩

def encBo (d : Bo) : List UInt8 := fieldB d.ticket ++ (leb d.conds.length ++ (d.conds.flatMap encP ++ d.proof.1))
def headN (b : Bu) : List Nat := [1, b.req.gate.toNat, b.req.nonce.toNat, b.epoch.toNat, b.serial.toNat, b.cavs.length]
def encBu (b : Bu) : List UInt8 := (headN b).flatMap leb ++ (b.cavs.flatMap encC ++ (b.proof.1 ++ (leb b.dis.length ++ b.dis.flatMap encBo)))
structure BoV (d : Bo) : Prop where
 t1 : 1 ≤ d.ticket.length
 t2 : d.ticket.length ≤ 1024
 cl : d.conds.length ≤ 8
 cv : ∀ p ∈ d.conds, predB p = true ∧ PrOk p
structure BuV (b : Bu) : Prop where
 rq : rqB b.req = true
 e1 : 1 ≤ b.epoch
 e2 : b.epoch ≤ 1000
 s1 : 1 ≤ b.serial
 s2 : b.serial ≤ 1073741824
 cl : b.cavs.length ≤ 64
 cv : ∀ c ∈ b.cavs, cavB c = true ∧ PrOk c.first
 dl : b.dis.length ≤ 8
 dv : ∀ d ∈ b.dis, BoV d
theorem flat_len {α : Type} (f : α → List UInt8) (m : Nat) : ∀ (l : List α), (∀ x ∈ l, (f x).length ≤ m) → (l.flatMap f).length ≤ m * l.length
 | [], _ => by simp
 | x :: r, h => by
  have h1 := h x (List.mem_cons_self ..)
  have h2 := flat_len f m r fun y hy => h y (List.mem_cons_of_mem _ hy)
  rw [List.flatMap_cons, List.length_append, List.length_cons, Nat.mul_add]; omega
theorem fieldB_len (x : List UInt8) (h : x.length ≤ 1024) : (fieldB x).length ≤ 1031 := by
 have := leb_len x.length 2 (by omega)
 simp only [fieldB, List.length_append]; omega
theorem encBo_len {d : Bo} (h : BoV d) : (encBo d).length ≤ 1400 := by
 have h1 := fieldB_len d.ticket h.t2
 have h2 := leb_len d.conds.length 7 (by have := h.cl; omega)
 have h3 := flat_len encP 40 d.conds fun p hp => (encP_len p (h.cv p hp).1).2
 have := h.cl
 simp only [encBo, List.length_append, d.proof.2]; omega
theorem flat_take {α : Type} (f : α → List UInt8) {l : List α} {u : Nat} {z : α} (h : u < l.length) (hz : l[u] = z) : (l.take (u + 1)).flatMap f = (l.take u).flatMap f ++ f z := by
 rw [List.take_add_one, List.getElem?_eq_getElem h, hz]; simp
set_option maxHeartbeats 4000000 in
theorem encoded_spec (b : Bu) (hb : BuV b) (d k : Nat) :
  ACall Tryz.prog 57 [buAV b] k [(d, bitsG)] (.slice none ((encBu b).map byteAV)) [] := by
 obtain ⟨⟨g, n⟩, e, s, cavs, pr, dis⟩ := b
 obtain ⟨⟨g0, g1⟩, n0, n1⟩ := rqB_iff.1 hb.rq
 have he1 := hb.e1
 have he2 := hb.e2
 have hs1 := hb.s1
 have hs2 := hb.s2
 have hcl := hb.cl
 have hcv := hb.cv
 have hdl := hb.dl
 have hdv := hb.dv
 clear hb
 simp only at g0 g1 n0 n1 he1 he2 hs1 hs2 hcl hcv hdl hdv
 obtain ⟨g, rfl⟩ := Int.eq_ofNat_of_zero_le g0
 obtain ⟨n, rfl⟩ := Int.eq_ofNat_of_zero_le (show 0 ≤ n by omega)
 obtain ⟨e, rfl⟩ := Int.eq_ofNat_of_zero_le (show 0 ≤ e by omega)
 obtain ⟨s, rfl⟩ := Int.eq_ofNat_of_zero_le (show 0 ≤ s by omega)
 unfold encBu headN buAV rqAV
 simp only [Int.toNat_natCast]
 obtain ⟨R1, hR1⟩ : ∃ R, [1, g, n, e, s, cavs.length].flatMap leb = R := ⟨_, rfl⟩
 have c1 := bnumbers_spec [1, g, n, e, s, cavs.length] [] (by simp) (by simp) (by intro x hx; simp at hx; omega) R1 (by simpa using hR1)
 have hl1 : R1.length ≤ 48 := by
  rw [← hR1]
  exact flat_len leb 8 [1, g, n, e, s, cavs.length] fun x hx => by
   have := leb_len x 7 (by simp at hx; omega)
   omega
 obtain ⟨R2, hR2⟩ : ∃ R, R1 ++ cavs.flatMap encC = R := ⟨_, rfl⟩
 have hl2 : R2.length ≤ 200000 := by
  rw [← hR2, List.length_append]
  have := flat_len encC 3000 cavs fun c hc => (encC_len c (hcv c hc).1).2
  omega
 have c2 := fun r h k => bcavs_spec R1 cavs hcv (by omega) R2 hR2 (by omega) r d k h
 obtain ⟨R3, hR3⟩ : ∃ R, R2 ++ pr.1 = R := ⟨_, rfl⟩
 have hl3 : R3.length = R2.length + 32 := by rw [← hR3, List.length_append, pr.2]
 have hm3 : R2.map byteAV ++ pr.1.map byteAV = R3.map byteAV := by rw [← hR3, List.map_append]
 obtain ⟨R4, hR4⟩ : ∃ R, R3 ++ leb dis.length = R := ⟨_, rfl⟩
 have c3 := bnumbers_spec [dis.length] R3 (by simp) (by simp; omega) (by simp; omega) R4 (by simpa using hR4)
 have hl4 : R4.length ≤ 200100 := by
  have := leb_len dis.length 7 (by omega)
  rw [← hR4, List.length_append]; omega
 have hfin : R1 ++ (cavs.flatMap encC ++ (pr.1 ++ (leb dis.length ++ dis.flatMap encBo))) = R4 ++ dis.flatMap encBo := by
  rw [← hR4, ← hR3, ← hR2]; simp
 rw [hR1, hfin]
 clear hfin hR1 hR2 hR3 hR4
 have ps1 := tagAV_sz pr
 have ps2 := tagAV_cell pr
 obtain ⟨K, hK⟩ := pr
 have hkA : tagAV ⟨K, hK⟩ = .agg (K.map byteAV) := rfl
 simp only [hkA] at ps1 ps2 hm3 ⊢
 clear hkA
 have ps3 : AV.celll (K.map byteAV) = true := celll_bytes K
 have htk : (K.map byteAV).take 32 = K.map byteAV := List.take_of_length_le (by rw [List.length_map]; omega)
 refine Bd Tryz.func57 Tryz.ntmps57 fun σ N hp hpn hk hkn hfree => ?_
 obtain ⟨hd, hdn⟩ := HD0 hp hpn; clear hp hpn
 have hcs := And.intro c1 (And.intro (c2 (N + 2 + 14) (by omega)) (And.intro c3 True.intro))
 clear c1 c2 c3 hcv
 refine Wm ?_
 iterate 2 refine Wz ?_
 refine go_fixBox N (bt := 29) (x := .agg [.agg [.lit (.int .i64 (g : Int)), .lit (.int .i64 (n : Int))], .lit (.int .i64 (e : Int)), .lit (.int .i64 (s : Int)), .slice none (cavs.map caAV), .agg (K.map byteAV), .slice none (dis.map boAV)]) (by simp (disch := omega) [go_sem, *, -List.reduceReplicate]) ?_
 replace hcs := hcs.2
 refine Wk ?_
 clear hcs
 have h00 : R4 ++ (dis.take 0).flatMap encBo = R4 := by simp
 refine go_loopB (N) mixed (by kernel_rfl) [3, 5, 37, 38, 39, 40, 41, 42, 43, 44, 45, 46, 47, 48, 49, 50, 51, 52, 53, 54, 55, 56, 57, 58, 59, 60, 61] [] (fun m_ s_ σ_ n_ => ∃ (u : Nat) (q : Nat) (acc : List UInt8), m_ = dis.length - u ∧ s_ 37 = .lit (.int .i64 u) ∧ s_ 3 = .slice (some q) (acc.map byteAV) ∧ σ_ (q) = .row 5 1 acc.length ∧ (u ≤ dis.length) ∧ (acc.length ≤ R4.length + 1400 * u) ∧ (R4 ++ (dis.take u).flatMap encBo = acc) ∧ (N ≤ q) ∧ (q < n_)) ⟨_, 0, _, R4, rfl, WF, WF, WF, WC, WC, WC, WC, WC⟩ ?_
 intro m_1 s_1 σ_1 n_1 hs_1 hf_1 hn_1 hI_1
 obtain ⟨u, q, acc, hm_1, h1_37, h1_3, e1_0, hu, hal, hacc, hq, hqn⟩ := hI_1
 have h1_2 := KS hs_1 2
 have h1_35 := KS hs_1 35
 have h1_36 := KS hs_1 36
 have k1_0 := KE hf_1 (d)
 have hlow := KL (N := N) (σ := σ) hf_1
 clear h00
 by_cases hul : u = dis.length
 ·rw [hul, List.take_length] at hacc
  subst hul
  rw [hacc]
  clear hdv
  exact WM
 ·have hui : u < dis.length := by omega
  have hv1 := hdv _ (List.getElem_mem hui)
  obtain ⟨c, hc⟩ : ∃ c, dis[u] = c := ⟨_, rfl⟩
  rw [hc] at hv1
  have hcl2 := encBo_len hv1
  have hacc2 := flat_take encBo hui hc
  obtain ⟨ti, cs, pf⟩ := c
  have v1 := hv1.t1
  have v2 := hv1.t2
  have v3 := hv1.cl
  have v4 := hv1.cv
  simp only at v1 v2 v3 v4
  clear hv1
  have k1 := field_ok acc ti (by omega) v2
  obtain ⟨A1, hA1⟩ : ∃ A, acc ++ fieldB ti = A := ⟨_, rfl⟩
  have la1 : A1.length ≤ 250000 := by
   have := fieldB_len ti v2
   rw [← hA1, List.length_append]; omega
  obtain ⟨A2, hA2⟩ : ∃ A, A1 ++ leb cs.length = A := ⟨_, rfl⟩
  have k2 := bnumbers_spec [cs.length] A1 (by simp) (by simp; omega) (by simp; omega) A2 (by simpa using hA2)
  have la2 : A2.length ≤ 250100 := by
   have := leb_len cs.length 7 (by omega)
   rw [← hA2, List.length_append]; omega
  obtain ⟨A3, hA3⟩ : ∃ A, A2 ++ cs.flatMap encP = A := ⟨_, rfl⟩
  have la3 : A3.length ≤ 251000 := by
   have := flat_len encP 40 cs fun p hp => (encP_len p (v4 p hp).1).2
   rw [← hA3, List.length_append]; omega
  have k3 := fun r h k => bpreds_spec A2 cs v4 (by omega) (by omega) A3 hA3 r d k h
  obtain ⟨A4, hA4⟩ : ∃ A, A3 ++ pf.1 = A := ⟨_, rfl⟩
  have lm4 : A3.map byteAV ++ pf.1.map byteAV = A4.map byteAV := by rw [← hA4, List.map_append]
  have la4 : A4.length = A3.length + 32 := by rw [← hA4, List.length_append, pf.2]
  have hfin : acc ++ encBo ⟨ti, cs, pf⟩ = A4 := by
   rw [← hA4, ← hA3, ← hA2, ← hA1]; simp [encBo]
  have hacc3 : R4 ++ (dis.take (u + 1)).flatMap encBo = A4 := by rw [hacc2, ← List.append_assoc, hacc, hfin]
  have hal2 : A4.length ≤ R4.length + 1400 * (u + 1) := by rw [← hfin, List.length_append]; omega
  have hfa : acc.length + (fieldB ti).length = A1.length := by rw [← hA1, List.length_append]
  have hqd : q ≠ d := by omega
  have qs1 := tagAV_sz pf
  have qs2 := tagAV_cell pf
  obtain ⟨K2, hK2⟩ := pf
  have hkA : tagAV ⟨K2, hK2⟩ = .agg (K2.map byteAV) := rfl
  have hbo : boAV ⟨ti, cs, ⟨K2, hK2⟩⟩ = .agg [.slice none (ti.map byteAV), .slice none (cs.map prAV), .agg (K2.map byteAV)] := rfl
  simp only [hkA] at qs1 qs2 lm4
  have qs3 : AV.celll (K2.map byteAV) = true := celll_bytes K2
  have qtk : (K2.map byteAV).take 32 = K2.map byteAV := List.take_of_length_le (by rw [List.length_map]; omega)
  have hfl2 : (leb ti.length).length + ti.length = (fieldB ti).length := by simp [fieldB]
  rw [hA1] at k1
  clear hkA hfin hacc hacc2 hA1 hA2 hA3 hA4 v4 hdv hcl2
  have hcs := And.intro k1 (And.intro k2 (And.intro (k3 (n_1 + 13 + 5) (by omega)) True.intro))
  clear k1 k2 k3
  refine Wk ?_
  exact ⟨WS, WG, WN, _, (show dis.length - (u + 1) < m_1 by omega), u + 1, _, A4, rfl, WF, WF, WF, WC, WC, WC, WC, WC⟩

theorem AllValid_spec (l : List Ca) (hl : l.length ≤ 100000) (hpk : ∀ c ∈ l, PrOk c.first) (k : Nat) : ACall Tryz.prog 60 [.slice none (l.map caAV)] k [] (.lit (.bool (!l.any fun c => !cavB c))) [] := by
 obtain ⟨R, hR⟩ : ∃ R, (!l.any fun c => !cavB c) = R := ⟨_, rfl⟩
 rw [hR]
 have hdr : l.drop 0 = l := rfl
 refine Bd Tryz.func60 Tryz.ntmps60 fun σ N hp hpn hk hkn hfree => ?_
 refine Wk ?_
 refine go_loopF mixed (by kernel_rfl) [2, 3, 4, 5, 6, 7, 8, 9, 10, 11, 12, 13, 14, 15] [] (fun m_ s_ σ_ n_ => ∃ (u : Nat), m_ = l.length - u ∧ s_ 3 = .lit (.int .i64 u) ∧ (u ≤ l.length) ∧ ((!(l.drop u).any fun c => !cavB c) = R)) ⟨_, 0, rfl, WF, WC, WC⟩ ?_
 intro m_1 s_1 σ_1 n_1 hs_1 hf_1 hn_1 hI_1
 obtain ⟨u, hm_1, h1_3, hu, hno⟩ := hI_1
 have h1_0 := KS hs_1 0
 have hlow := KL (N := N) (σ := σ) hf_1
 clear hR hdr
 by_cases hul : u = l.length
 ·subst hul
  rw [List.drop_length] at hno
  simp only [List.any_nil, Bool.not_false] at hno
  subst hno
  clear hpk
  exact W0
 ·have hu1 : u < l.length := by omega
  rw [List.drop_eq_getElem_cons hu1, List.any_cons] at hno
  have hp1 := hpk _ (List.getElem_mem hu1)
  obtain ⟨z, hz⟩ : ∃ z, l[u] = z := ⟨_, rfl⟩
  rw [hz] at hno hp1
  have c1 := refCav_spec z hp1
  cases hc : cavB z with
  | true =>
   rw [hc] at c1 hno
   simp only [Bool.not_true, Bool.false_or] at hno
   have hcs := And.intro c1 True.intro
   clear c1 hpk hc
   refine Wk ?_
   exact ⟨WS, WG, WN, _, (show l.length - (u + 1) < m_1 by omega), u + 1, rfl, WF, WC, WC⟩
  | false =>
   rw [hc] at c1 hno
   simp only [Bool.not_false, Bool.true_or, Bool.not_true] at hno
   subst hno
   have hcs := And.intro c1 True.intro
   clear c1 hpk hc
   exact W0
set_option maxHeartbeats 8000000 in
theorem refBytes_spec (b : Bu) (hb : BuV b) (k : Nat) :
  ACall Tryz.prog 62 [buAV b] k [] (.slice none ((encBu b).map byteAV)) [] := by
 obtain ⟨⟨g, n⟩, e, s, cavs, pr, dis⟩ := b
 obtain ⟨⟨g0, g1⟩, n0, n1⟩ := rqB_iff.1 hb.rq
 have he1 := hb.e1
 have he2 := hb.e2
 have hs1 := hb.s1
 have hs2 := hb.s2
 have hcl := hb.cl
 have hcv := hb.cv
 have hdl := hb.dl
 have hdv := hb.dv
 clear hb
 simp only at g0 g1 n0 n1 he1 he2 hs1 hs2 hcl hcv hdl hdv
 obtain ⟨g, rfl⟩ := Int.eq_ofNat_of_zero_le g0
 obtain ⟨n, rfl⟩ := Int.eq_ofNat_of_zero_le (show 0 ≤ n by omega)
 obtain ⟨e, rfl⟩ := Int.eq_ofNat_of_zero_le (show 0 ≤ e by omega)
 obtain ⟨s, rfl⟩ := Int.eq_ofNat_of_zero_le (show 0 ≤ s by omega)
 unfold encBu headN buAV rqAV
 simp only [Int.toNat_natCast]
 obtain ⟨L5, hL5⟩ : ∃ L, [g, n, e, s, cavs.length] = L := ⟨_, rfl⟩
 have hL5n : ∀ x ∈ L5, x ≤ 281474976710656 := by rw [← hL5]; intro x hx; simp at hx; omega
 have hL5l : L5.length = 5 := by rw [← hL5]; rfl
 have hle5 : ∀ i : Option Nat, AV.le (.slice i [.lit (.int .i64 (g : Int)), .lit (.int .i64 (n : Int)), .lit (.int .i64 (e : Int)), .lit (.int .i64 (s : Int)), .lit (.int .i64 (cavs.length : Int))]) (natsAV L5) := fun i => by rw [← hL5]; exact AV.le_own _ _
 obtain ⟨R1, hR1⟩ : ∃ R, [1] ++ L5.flatMap leb = R := ⟨_, rfl⟩
 have hl1 : R1.length ≤ 48 := by
  have := flat_len leb 8 L5 fun x hx => by
   have := leb_len x 7 (by have := hL5n x hx; omega)
   omega
  rw [← hR1, List.length_append, List.length_singleton]; omega
 obtain ⟨R2, hR2⟩ : ∃ R, R1 ++ cavs.flatMap encC = R := ⟨_, rfl⟩
 have hl2 : R2.length ≤ 200000 := by
  rw [← hR2, List.length_append]
  have := flat_len encC 3000 cavs fun c hc => (encC_len c (hcv c hc).1).2
  omega
 obtain ⟨R3, hR3⟩ : ∃ R, R2 ++ pr.1 = R := ⟨_, rfl⟩
 have hl3 : R3.length = R2.length + 32 := by rw [← hR3, List.length_append, pr.2]
 have hm3 : R2.map byteAV ++ pr.1.map byteAV = R3.map byteAV := by rw [← hR3, List.map_append]
 obtain ⟨R4, hR4⟩ : ∃ R, R3 ++ leb dis.length = R := ⟨_, rfl⟩
 have c3 := fun k => Number_spec_f dis.length k (by omega)
 have hl4 : R4.length ≤ 200100 := by
  have := leb_len dis.length 7 (by omega)
  rw [← hR4, List.length_append]; omega
 have hm4 : R3.map byteAV ++ (leb dis.length).map byteAV = R4.map byteAV := by rw [← hR4, List.map_append]
 have hl4b : R3.length + (leb dis.length).length = R4.length := by rw [← hR4, List.length_append]
 have hhd : [1, g, n, e, s, cavs.length].flatMap leb = R1 := by
  have h1 : leb 1 = [1] := by rw [leb, dif_pos (by decide)]; rfl
  rw [← hR1, ← hL5, List.flatMap_cons, h1]
 have hfin : R1 ++ (cavs.flatMap encC ++ (pr.1 ++ (leb dis.length ++ dis.flatMap encBo))) = R4 ++ dis.flatMap encBo := by
  rw [← hR4, ← hR3, ← hR2]; simp
 rw [hhd, hfin]
 clear hfin hhd hL5 hR3 hR4
 generalize leb dis.length = lbd at *
 have ps1 := tagAV_sz pr
 have ps2 := tagAV_cell pr
 obtain ⟨K, hK⟩ := pr
 have hkA : tagAV ⟨K, hK⟩ = .agg (K.map byteAV) := rfl
 simp only [hkA] at ps1 ps2 hm3 ⊢
 clear hkA
 have ps3 : AV.celll (K.map byteAV) = true := celll_bytes K
 have htk : (K.map byteAV).take 32 = K.map byteAV := List.take_of_length_le (by rw [List.length_map]; omega)
 have b1 : AV.lit (.int .u8 1) = byteAV 1 := rfl
 have z1 : [1] ++ (L5.take 0).flatMap leb = [1] := by simp
 refine Bd Tryz.func62 Tryz.ntmps62 fun σ N hp hpn hk hkn hfree => ?_
 refine Wm ?_
 iterate 1 refine Wz ?_
 refine go_fixBox N (bt := 29) (x := .agg [.agg [.lit (.int .i64 (g : Int)), .lit (.int .i64 (n : Int))], .lit (.int .i64 (e : Int)), .lit (.int .i64 (s : Int)), .slice none (cavs.map caAV), .agg (K.map byteAV), .slice none (dis.map boAV)]) (by simp (disch := omega) [go_sem, *, -List.reduceReplicate]) ?_
 iterate 2 refine Wz ?_
 refine go_less 4 (by simp (disch := omega) [go_sem, *]) (hle5 (some (N + 4 + 13))) ?_
 refine Wk ?_
 clear hle5
 refine go_loopF mixed (by kernel_rfl) [3, 5, 29, 30, 31, 32, 33, 34, 35, 36, 37, 38, 39, 40, 41] [N+2] (fun m_ s_ σ_ n_ => ∃ (u : Nat) (acc : List UInt8), m_ = 5 - u ∧ s_ 5 = .lit (.int .i64 u) ∧ s_ 3 = .slice (some (N + 2)) (acc.map byteAV) ∧ σ_ (N+2) = .row 5 1 acc.length ∧ (u ≤ 5) ∧ (acc.length ≤ 1 + 8 * u) ∧ ([1] ++ (L5.take u).flatMap leb = acc)) ⟨_, 0, [1], rfl, WF, WF, WF, WC, WC, WC⟩ ?_
 intro m_2 s_2 σ_2 n_2 hs_2 hf_2 hn_2 hI_2
 obtain ⟨u, acc, hm_2, h2_5, h2_3, e2_0, hu, hal, hacc⟩ := hI_2
 have h2_1 := KS hs_2 1
 have h2_2 := KS hs_2 2
 have h2_4 := KS hs_2 4
 have k2_0 := KE hf_2 (N)
 have hlow := KL (N := N) (σ := σ) hf_2
 clear z1 b1
 by_cases hul : u = 5
 ·subst hul
  rw [List.take_of_length_le (by omega), hR1] at hacc
  subst hacc
  clear hR1 hL5n
  have z2 : R1 ++ (cavs.take 0).flatMap encC = R1 := by simp
  have hpre : ∀ u, (R1 ++ (cavs.take u).flatMap encC).length ≤ R2.length := fun u => by
   rw [← hR2, List.length_append, List.length_append]
   have := flat_take_le encC cavs u
   omega
  have hR12 : R1.length ≤ R2.length := by rw [← hR2, List.length_append]; omega
  refine Wk ?_
  refine go_loopF mixed (by kernel_rfl) [3, 6, 7, 8, 42, 43, 44, 45, 46, 47, 48, 49, 50, 51, 52, 53, 54, 55, 56, 57, 58, 59, 60] [N+2] (fun m_ s_ σ_ n_ => ∃ (u : Nat) (acc : List UInt8), m_ = cavs.length - u ∧ s_ 6 = .lit (.int .i64 u) ∧ s_ 3 = .slice (some (N + 2)) (acc.map byteAV) ∧ σ_ (N+2) = .row 5 1 acc.length ∧ (u ≤ cavs.length) ∧ (acc.length ≤ R2.length) ∧ (R1 ++ (cavs.take u).flatMap encC = acc)) ⟨_, 0, R1, rfl, WF, WF, WF, WC, WC, WC⟩ ?_
  intro m_3 s_3 σ_3 n_3 hs_3 hf_3 hn_3 hI_3
  obtain ⟨u, acc, hm_3, h3_6, h3_3, e3_0, hu, hal, hacc⟩ := hI_3
  have h3_1 := KS hs_3 1
  have h3_2 := KS hs_3 2
  have k3_0 := KE hf_3 (N)
  have hlow := KL (N := N) (σ := σ) hf_3
  clear z2 hR12
  by_cases hul : u = cavs.length
  ·rw [hul, List.take_length, hR2] at hacc
   subst hul hacc
   clear hR2 hcv hpre
   have z4 : R4 ++ (dis.take 0).flatMap encBo = R4 := by simp
   have hcs := And.intro c3 True.intro
   clear c3
   refine Wk ?_
   clear hcs hm4
   refine go_loopF mixed (by kernel_rfl) (3 :: 9 :: 10 :: 11 :: 12 :: 13 :: 70 :: 71 :: 72 :: 73 :: 74 :: 75 :: 76 :: 77 :: 78 :: 79 :: 80 :: 81 :: 82 :: 83 :: 84 :: 85 :: 86 :: 87 :: 88 :: 89 :: 90 :: 91 :: 92 :: 93 :: 94 :: 95 :: 96 :: 97 :: 98 :: 99 :: 100 :: 101 :: 102 :: 103 :: 104 :: 105 :: 106 :: 107 :: 108 :: 109 :: 110 :: 111 :: 112 :: 113 :: 114 :: []) [N+2] (fun m_ s_ σ_ n_ => ∃ (u : Nat) (acc : List UInt8), m_ = dis.length - u ∧ s_ 9 = .lit (.int .i64 u) ∧ s_ 3 = .slice (some (N + 2)) (acc.map byteAV) ∧ σ_ (N+2) = .row 5 1 acc.length ∧ (u ≤ dis.length) ∧ (acc.length ≤ R4.length + 1400 * u) ∧ (R4 ++ (dis.take u).flatMap encBo = acc)) ⟨_, 0, R4, rfl, WF, WF, WF, WC, WC, WC⟩ ?_
   intro m_4 s_4 σ_4 n_4 hs_4 hf_4 hn_4 hI_4
   obtain ⟨u, acc, hm_4, h4_9, h4_3, e4_0, hu, hal, hacc⟩ := hI_4
   have h4_1 := KS hs_4 1
   have h4_2 := KS hs_4 2
   have k4_0 := KE hf_4 (N)
   have hlow := KL (N := N) (σ := σ) hf_4
   clear z4
   by_cases hul : u = dis.length
   ·rw [hul, List.take_length] at hacc
    subst hul
    rw [hacc]
    clear hdv hacc
    exact WM
   ·have hui : u < dis.length := by omega
    have hv1 := hdv _ (List.getElem_mem hui)
    obtain ⟨c, hc⟩ : ∃ c, dis[u] = c := ⟨_, rfl⟩
    rw [hc] at hv1
    have hcl2 := encBo_len hv1
    have hacc2 := flat_take encBo hui hc
    obtain ⟨ti, cs, pf⟩ := c
    have v1 := hv1.t1
    have v2 := hv1.t2
    have v3 := hv1.cl
    have v4 := hv1.cv
    simp only at v1 v2 v3 v4
    clear hv1
    have hau : acc.length ≤ 240000 := by omega
    have k1 := Field_spec_f ti (by omega)
    have k2 := fun k => Number_spec_f cs.length k (by omega)
    have hf1 := fieldB_len ti v2
    have hf2 := leb_len cs.length 7 (by omega)
    obtain ⟨A2, hA2⟩ : ∃ A, acc ++ fieldB ti ++ leb cs.length = A := ⟨_, rfl⟩
    have lm2 : (acc.map byteAV ++ (fieldB ti).map byteAV) ++ (leb cs.length).map byteAV = A2.map byteAV := by rw [← hA2]; simp
    have la2 : acc.length + (fieldB ti).length + (leb cs.length).length = A2.length := by rw [← hA2]; simp; omega
    have la2b : A2.length ≤ 245000 := by omega
    obtain ⟨A3, hA3⟩ : ∃ A, A2 ++ cs.flatMap encP = A := ⟨_, rfl⟩
    have la3 : A3.length ≤ 251000 := by
     have := flat_len encP 40 cs fun p hp => (encP_len p (v4 p hp).1).2
     rw [← hA3, List.length_append]; omega
    have hpre : ∀ u, (A2 ++ (cs.take u).flatMap encP).length ≤ A3.length := fun u => by
     rw [← hA3, List.length_append, List.length_append]
     have := flat_take_le encP cs u
     omega
    have hA23 : A2.length ≤ A3.length := by rw [← hA3, List.length_append]; omega
    obtain ⟨A4, hA4⟩ : ∃ A, A3 ++ pf.1 = A := ⟨_, rfl⟩
    have lm4 : A3.map byteAV ++ pf.1.map byteAV = A4.map byteAV := by rw [← hA4, List.map_append]
    have la4 : A4.length = A3.length + 32 := by rw [← hA4, List.length_append, pf.2]
    have hfin : acc ++ encBo ⟨ti, cs, pf⟩ = A4 := by
     rw [← hA4, ← hA3, ← hA2]; simp [encBo]
    have hacc3 : R4 ++ (dis.take (u + 1)).flatMap encBo = A4 := by rw [hacc2, ← List.append_assoc, hacc, hfin]
    have hal2 : A4.length ≤ R4.length + 1400 * (u + 1) := by rw [← hfin, List.length_append]; omega
    have qs1 := tagAV_sz pf
    have qs2 := tagAV_cell pf
    obtain ⟨K2, hK2⟩ := pf
    have hkA : tagAV ⟨K2, hK2⟩ = .agg (K2.map byteAV) := rfl
    have hbo : boAV ⟨ti, cs, ⟨K2, hK2⟩⟩ = .agg [.slice none (ti.map byteAV), .slice none (cs.map prAV), .agg (K2.map byteAV)] := rfl
    simp only [hkA] at qs1 qs2 lm4
    have qs3 : AV.celll (K2.map byteAV) = true := celll_bytes K2
    have qtk : (K2.map byteAV).take 32 = K2.map byteAV := List.take_of_length_le (by rw [List.length_map]; omega)
    clear hkA hfin hacc hacc2 hA2 hA4 hdv hcl2
    generalize fieldB ti = ft at *
    generalize leb cs.length = lc at *
    have z5 : A2 ++ (cs.take 0).flatMap encP = A2 := by simp
    have hcs := And.intro k1 (And.intro k2 True.intro)
    clear k1 k2
    refine Wk ?_
    clear hcs lm2 la2
    refine go_loopF mixed (by kernel_rfl) [3, 11, 12, 13, 92, 93, 94, 95, 96, 97, 98, 99, 100, 101, 102, 103, 104, 105, 106, 107, 108, 109, 110] [N+2] (fun m_ s_ σ_ n_ => ∃ (v : Nat) (acc : List UInt8), m_ = cs.length - v ∧ s_ 11 = .lit (.int .i64 v) ∧ s_ 3 = .slice (some (N + 2)) (acc.map byteAV) ∧ σ_ (N+2) = .row 5 1 acc.length ∧ (v ≤ cs.length) ∧ (acc.length ≤ A3.length) ∧ (A2 ++ (cs.take v).flatMap encP = acc)) ⟨_, 0, A2, rfl, WF, WF, WF, WC, WC, WC⟩ ?_
    intro m_5 s_5 σ_5 n_5 hs_5 hf_5 hn_5 hI_5
    obtain ⟨v, acc, hm_5, h5_11, h5_3, e5_0, hv, hal3, hacc⟩ := hI_5
    have h5_1 := KS hs_5 1
    have h5_2 := KS hs_5 2
    have h5_9 := KS hs_5 9
    have h5_10 := KS hs_5 10
    have h5_70 := KS hs_5 70
    have h5_71 := KS hs_5 71
    have h5_72 := KS hs_5 72
    have h5_73 := KS hs_5 73
    have h5_74 := KS hs_5 74
    have h5_77 := KS hs_5 77
    have h5_78 := KS hs_5 78
    have h5_79 := KS hs_5 79
    have h5_80 := KS hs_5 80
    have h5_81 := KS hs_5 81
    have h5_82 := KS hs_5 82
    have h5_83 := KS hs_5 83
    have h5_84 := KS hs_5 84
    have h5_85 := KS hs_5 85
    have h5_86 := KS hs_5 86
    have h5_87 := KS hs_5 87
    have h5_88 := KS hs_5 88
    have h5_89 := KS hs_5 89
    have h5_90 := KS hs_5 90
    have h5_91 := KS hs_5 91
    have k5_0 := KE hf_5 (N)
    have k5_1 := KE hf_5 (n_4 + 5 + 5)
    have hlow := KL (N := N) (σ := σ) hf_5
    clear z5 hA23
    by_cases hvl : v = cs.length
    ·rw [hvl, List.take_length, hA3] at hacc
     subst hvl hacc
     clear hA3 v4 hpre
     refine Wk ?_
     exact ⟨WS, WG, WN, _, (show dis.length - (u + 1) < m_4 by omega), u + 1, A4, rfl, WF, WF, WF, WC, WC, WC⟩
    ·have hvi : v < cs.length := by omega
     have hv1 := v4 _ (List.getElem_mem hvi)
     obtain ⟨c, hcc⟩ : ∃ c, cs[v] = c := ⟨_, rfl⟩
     rw [hcc] at hv1
     have hcl := encP_len c hv1.1
     have c1 := refEnc_spec c hv1.2 hv1.1
     have hacc2 := flat_take encP hvi hcc
     rw [← List.append_cancel_left_eq A2, ← List.append_assoc, hacc] at hacc2
     have hal4 := hpre (v + 1)
     rw [hacc2] at hal4
     have hll : acc.length + (encP c).length = (acc ++ encP c).length := by simp
     have hmm : acc.map byteAV ++ (encP c).map byteAV = (acc ++ encP c).map byteAV := by simp
     clear hacc hA3 v4 hpre
     generalize encP c = X at *
     have hb2 : acc.length + X.length ≤ 140737488355328 := by omega
     clear hcl
     generalize hA2 : acc ++ X = acc2 at *
     have hcs := And.intro c1 True.intro
     clear c1 hA2
     refine Wk ?_
     exact ⟨WS, WG, WN, _, (show cs.length - (v + 1) < m_5 by omega), v + 1, acc2, rfl, WF, WF, WF, WC, WC, WC⟩
  ·have hui : u < cavs.length := by omega
   have hv1 := hcv _ (List.getElem_mem hui)
   obtain ⟨c, hc⟩ : ∃ c, cavs[u] = c := ⟨_, rfl⟩
   rw [hc] at hv1
   have hcl2 := encC_len c hv1.1
   have c1 := rEnc_ok c hv1.2 hv1.1
   have hacc2 := flat_take encC hui hc
   rw [← List.append_cancel_left_eq R1, ← List.append_assoc, hacc] at hacc2
   have hal4 := hpre (u + 1)
   rw [hacc2] at hal4
   have hll : acc.length + (encC c).length = (acc ++ encC c).length := by simp
   have hmm : acc.map byteAV ++ (encC c).map byteAV = (acc ++ encC c).map byteAV := by simp
   clear hacc hR2 hcv hpre c3
   generalize encC c = X at *
   have hb2 : acc.length + X.length ≤ 140737488355328 := by omega
   clear hcl2
   generalize hA2 : acc ++ X = acc2 at *
   have hcs := And.intro c1 True.intro
   clear c1 hA2
   refine Wk ?_
   exact ⟨WS, WG, WN, _, (show cavs.length - (u + 1) < m_3 by omega), u + 1, acc2, rfl, WF, WF, WF, WC, WC, WC⟩
 ·have hui : u < L5.length := by omega
  have hui5 : (u : Int) < 5 := by omega
  obtain ⟨c, hc⟩ : ∃ c, L5[u] = c := ⟨_, rfl⟩
  have hcn : c ≤ 281474976710656 := hL5n c (by rw [← hc]; exact List.getElem_mem hui)
  have c1 := fun k => Number_spec_f c k (by omega)
  have hcl2 := leb_len c 7 (by omega)
  have hacc2 := flat_take leb hui hc
  rw [← List.append_cancel_left_eq [1], ← List.append_assoc, hacc] at hacc2
  have hll : acc.length + (leb c).length = (acc ++ leb c).length := by simp
  have hmm : acc.map byteAV ++ (leb c).map byteAV = (acc ++ leb c).map byteAV := by simp
  have hal4 : (acc ++ leb c).length ≤ 1 + 8 * (u + 1) := by rw [← hll]; omega
  clear hacc hR1 hL5n c3 hcv hdv
  generalize leb c = X at *
  have hb2 : acc.length + X.length ≤ 140737488355328 := by omega
  clear hcl2
  generalize hA2 : acc ++ X = acc2 at *
  have hcs := And.intro c1 True.intro
  clear c1 hA2
  refine Wk ?_
  exact ⟨WS, WG, WN, _, (show 5 - (u + 1) < m_2 by omega), u + 1, acc2, rfl, WF, WF, WF, WC, WC, WC⟩
end Go.Proofs.YtemmlldpmgfblaaGreatDoor
