/- Texts U24, Y14, joined. -/
import Derived.Test.YtdmjpolnbmoehaaGreatDoorMB1

namespace Go.Proofs.YtdmjpolnbmoehaaGreatDoor
open Go.Ab
attribute [local irreducible] Go.Ab.tyAV Go.Ab.aw Go.Ab.aops Go.Ab.kReg Go.Ab.aThen Go.Ab.aBlk Go.Ab.acond Go.Ab.aguard Go.Ab.astep Go.Ab.AStepX Go.Ab.aRet
def tag9 : Tg := ⟨9 :: List.replicate 31 0, rfl⟩
def awB : Bu := ⟨⟨0, 1⟩, 1, 1, [], tag9, []⟩
theorem awB_in : BuIn awB := ⟨by decide, by decide, (fun c hc => by cases hc), (fun d hd => by cases hd)⟩
theorem leb_0 : leb 0 = [0] := by rw [leb]; rfl
theorem leb_1 : leb 1 = [1] := by rw [leb]; rfl
theorem awB_enc : encBu awB = [1, 0, 1, 1, 1, 0] ++ (9 :: List.replicate 31 0) ++ [0] := by
 unfold encBu headN awB
 simp only [List.flatMap_cons, List.flatMap_nil, List.length_nil]
 rw [show Int.toNat 0 = 0 from rfl, show Int.toNat 1 = 1 from rfl, leb_0, leb_1]
 rfl
theorem awB_S : encBS awB = ([1, 0, 1, 1, 1, 0, 9, 0, 0, 0, 0, 0, 0, 0, 0, 0, 0, 0, 0, 0, 0, 0, 0, 0, 0, 0, 0, 0, 0, 0, 0, 0, 0, 0, 0, 0, 0, 0, 0], 0) := by
 have hp : partsS awB = 0 := by decide
 have hc : chkS awB = 0 := by
  unfold chkS
  rw [if_neg (by rw [hp]; simp), if_neg (by rw [awB_enc]; decide)]
 unfold encBS
 rw [if_pos hc, awB_enc]
 rfl
theorem awake16_spec (d k : Nat) : ACall Tryz.prog 48 [] k [(d, bitsG)] (.lit (.bool true)) [] := by
 have c1 := EncodeB_spec awB awB_in d
 rw [awB_S] at c1
 have hB : buAV awB = .agg [.agg [.lit (.int .i64 0), .lit (.int .i64 1)], .lit (.int .i64 1), .lit (.int .i64 1), .slice none [], tagAV tag9, .slice none []] := rfl
 have hT : tagAV tag9 = .agg [.lit (.int .u8 9), .lit (.int .u8 0), .lit (.int .u8 0), .lit (.int .u8 0), .lit (.int .u8 0), .lit (.int .u8 0), .lit (.int .u8 0), .lit (.int .u8 0), .lit (.int .u8 0), .lit (.int .u8 0), .lit (.int .u8 0), .lit (.int .u8 0), .lit (.int .u8 0), .lit (.int .u8 0), .lit (.int .u8 0), .lit (.int .u8 0), .lit (.int .u8 0), .lit (.int .u8 0), .lit (.int .u8 0), .lit (.int .u8 0), .lit (.int .u8 0), .lit (.int .u8 0), .lit (.int .u8 0), .lit (.int .u8 0), .lit (.int .u8 0), .lit (.int .u8 0), .lit (.int .u8 0), .lit (.int .u8 0), .lit (.int .u8 0), .lit (.int .u8 0), .lit (.int .u8 0), .lit (.int .u8 0)] := rfl
 rw [hB, hT] at c1
 clear hB hT
 unfold encAV at c1
 refine Bd Tryz.func48 Tryz.ntmps48 fun σ N hp hpn hk hkn hfree => ?_
 obtain ⟨hd, hdn⟩ := HD0 hp hpn; clear hp hpn
 have hcs := And.intro c1 True.intro
 clear c1
 exact W0
end Go.Proofs.YtdmjpolnbmoehaaGreatDoor

namespace Go.Proofs.YtdmjpolnbmoehaaGreatDoor
open Go.Ab
attribute [local irreducible] Go.Ab.tyAV Go.Ab.aw Go.Ab.aops Go.Ab.kReg Go.Ab.aThen Go.Ab.aBlk Go.Ab.acond Go.Ab.aguard Go.Ab.astep Go.Ab.AStepX Go.Ab.aRet
attribute [local irreducible] shaG
section
variable [W : W32]
set_option maxHeartbeats 8000000 in
theorem BundleHides_core (xs : List Int) (hx : xs.length ≤ 9223372036854775807) (g d : Nat) (hgd : g ≠ d) (k : Nat) :
  ACall Tryz.prog 8 [.slice none (xs.map intAV)] k [(g, shaG), (d, bitsG)] (.lit (.bool true)) [] := by
 obtain ⟨s, j0, hs, hj0, c2⟩ := made_spec xs hx
 obtain ⟨hin, hck, hin2, hck2, hai⟩ := bunS_ok hs
 have q1 := Check_spec (bunS s).2 hin2 d
 have q2 := refChk_spec (bunS s).2 hin2
 rw [hck2] at q1 q2
 have c9 := awake16_spec d
 have hG := hs.good
 obtain ⟨se, hG, _⟩ := hG
 have hgl : s.grants.length ≤ 5 := hG.gl
 have hcm : ∀ c ∈ s.pass.cavs, CaSm c := fun c hc => by
  have := hG.cv c hc
  exact ⟨by omega, by omega⟩
 have hgm : ∀ x ∈ s.grants, x.ticket.length ≤ 100000 ∧ x.conds.length ≤ 100000 := fun x hx => by
  have := hG.gv x hx
  exact ⟨Nat.le_trans this.t2 (by decide), Nat.le_trans this.cl (by decide)⟩
 have hbx := pres_boxes hai s.pass s.grants hs.rq (by omega)
 have c3 := Present_spec (bunS s).1 1006 hai s.pass s.grants s.req (by omega) (by decide) hin hck hcm hgm hbx g d
 have hh := fun h => hides_ok hs h
 have hyl := (presS (bunS s).1 s.pass s.grants s.req).2.dis.length
 clear hG hcm hgm hbx hai hck hck2 hin hin2 hj0 hs
 generalize presS (bunS s).1 s.pass s.grants s.req = Y at *
 obtain ⟨A2, b2⟩ := Y
 simp only at c3 hh
 generalize (bunS s).2 = b1 at *
 generalize (bunS s).1 = A1 at *
 obtain ⟨sa, sr, sc, sp, sg, sq, sh, sm⟩ := s
 simp only at *
 cases hf : A1.free with
 | false =>
  clear hh c3
  have hsA : scAV ⟨A1, sr, sc, sp, sg, sq, sh, sm⟩ = .agg [.agg [.lit (.bool false), tagAV A1.seed, .lit (.int .i64 A1.fresh), .slice none (A1.macs.map macAV), .slice none (A1.boxes.map sealAV)], rgAV sr, concAV sc, paAV sp, .slice none (sg.map diAV), rqAV sq, .lit (.string ⟨sh.toArray⟩), .lit (.int .i64 sm)] := by
   rw [← hf]; rfl
  rw [hsA] at c2
  clear hsA
  refine Bd Tryz.func8 Tryz.ntmps8 fun σ N hp hpn hk hkn hfree => ?_
  simp only [List.mem_cons, List.not_mem_nil, or_false, forall_eq_or_imp, forall_eq] at hp hpn; obtain ⟨hd1, hd2⟩ := hp; obtain ⟨hdn1, hdn2⟩ := hpn
  have hcs := And.intro c2 (And.intro q1 (And.intro q2 (And.intro c9 True.intro)))
  clear c2 q1 q2 c9
  exact W0
 | true =>
  clear q1 q2
  obtain ⟨h1, h2, h3⟩ := hh hf
  obtain ⟨pe, ps, pc, pt⟩ := sp
  obtain ⟨⟨y1, y2⟩, y3, y4, L2, pf, D2⟩ := b2
  simp only at h1 h2 h3
  obtain ⟨H, hH⟩ : ∃ H, pt :: sg.map (fun g => g.tag) = H := ⟨_, rfl⟩
  rw [hH] at h3
  have hHl : H.length = sg.length + 1 := by rw [← hH]; simp
  have hH1 : H.take (0 + 1) = [pt] := by rw [← hH]; rfl
  have hHs : ∀ (u : Nat) (z : Di), sg[u]? = some z → H.take (u + 1 + 1) = H.take (u + 1) ++ [z.tag] := fun u z hz => by
   rw [← hH, List.take_succ_cons, List.take_succ_cons, List.take_add_one, List.getElem?_map, hz]; rfl
  clear hH hh
  have hsA : scAV ⟨A1, sr, sc, ⟨pe, ps, pc, pt⟩, sg, sq, sh, sm⟩ = .agg [.agg [.lit (.bool true), tagAV A1.seed, .lit (.int .i64 A1.fresh), .slice none (A1.macs.map macAV), .slice none (A1.boxes.map sealAV)], rgAV sr, concAV sc, .agg [.lit (.int .i64 pe), .lit (.int .i64 ps), .slice none (pc.map caAV), tagAV pt], .slice none (sg.map diAV), rqAV sq, .lit (.string ⟨sh.toArray⟩), .lit (.int .i64 sm)] := by
   rw [← hf]; rfl
  have hA1 : algAV A1 = .agg [.lit (.bool true), tagAV A1.seed, .lit (.int .i64 A1.fresh), .slice none (A1.macs.map macAV), .slice none (A1.boxes.map sealAV)] := by
   rw [← hf]; rfl
  have hP : paAV ⟨pe, ps, pc, pt⟩ = .agg [.lit (.int .i64 pe), .lit (.int .i64 ps), .slice none (pc.map caAV), tagAV pt] := rfl
  have hA2 : algAV A2 = .agg [.lit (.bool A2.free), tagAV A2.seed, .lit (.int .i64 A2.fresh), .slice none (A2.macs.map macAV), .slice none (A2.boxes.map sealAV)] := rfl
  have hb2 : buAV ⟨⟨y1, y2⟩, y3, y4, L2, pf, D2⟩ = .agg [.agg [.lit (.int .i64 y1), .lit (.int .i64 y2)], .lit (.int .i64 y3), .lit (.int .i64 y4), .slice none (L2.map caAV), tagAV pf, .slice none (D2.map boAV)] := rfl
  rw [hsA] at c2
  have c3 := fun k => c3 k hgd
  rw [hA1, hP, hA2, hb2] at c3
  have hmz : ((A2.macs.length : Int) == 0) = false := by rw [beq_eq_false_iff_ne]; omega
  have hb24 : (sg.length + 1) * 32 ≤ 140737488355328 := by omega
  clear hsA hA1 hP hA2 hb2 hf
  refine Bd Tryz.func8 Tryz.ntmps8 fun σ N hp hpn hk hkn hfree => ?_
  simp only [List.mem_cons, List.not_mem_nil, or_false, forall_eq_or_imp, forall_eq] at hp hpn; obtain ⟨hd1, hd2⟩ := hp; obtain ⟨hdn1, hdn2⟩ := hpn
  have hcs := And.intro c2 True.intro
  clear c2
  refine Wk ?_
  clear hcs
  refine go_loopF mixed (by kernel_rfl) [6, 7, 35, 36, 37, 38, 39, 40, 41, 42, 43, 44, 45, 46, 47, 48, 49, 50] [N+19] (fun m_ s_ σ_ n_ => ∃ (u : Nat) (acc : List Tg), m_ = sg.length - u ∧ s_ 7 = .lit (.int .i64 u) ∧ s_ 6 = .slice (some (N + 19)) (acc.map tagAV) ∧ σ_ (N+19) = .row 29 32 acc.length ∧ (u ≤ sg.length) ∧ (H.take (u + 1) = acc)) ⟨_, 0, [pt], rfl, WF, WF, WF, WC, WC⟩ ?_
  intro m_1 s_1 σ_1 n_1 hs_1 hf_1 hn_1 hI_1
  obtain ⟨u, acc, hm_1, h1_7, h1_6, e1_0, hu, hT⟩ := hI_1
  have h1_2 := KS hs_1 2
  have h1_3 := KS hs_1 3
  have k1_0 := KE hf_1 (N + 7)
  have k1_1 := KE hf_1 (N + 8)
  have k1_2 := KE hf_1 (g)
  have k1_3 := KE hf_1 (d)
  have hlow := KL (N := N) (σ := σ) hf_1
  clear hH1
  have hacl : acc.length = u + 1 := by rw [← hT, List.length_take]; omega
  by_cases hul : u = sg.length
  ·subst hul
   rw [List.take_of_length_le (by omega)] at hT
   subst hT
   clear hHs hb24
   have hcs := And.intro c3 True.intro
   clear c3
   refine Wk ?_
   clear hcs
   refine go_loopF mixed (by kernel_rfl) [2, 11, 12, 81, 82, 83, 84, 85, 86, 87, 88, 89, 90, 91, 92, 93, 94, 95, 96, 97, 98, 99, 100, 101, 102, 103, 104, 105, 106, 107, 108, 109, 110, 111] [] (fun m_ s_ σ_ n_ => ∃ (i : Nat), m_ = H.length - i ∧ s_ 11 = .lit (.int .i64 i) ∧ (i ≤ H.length)) ⟨_, 0, rfl, WF, WC⟩ ?_
   intro m_2 s_2 σ_2 n_2 hs_2 hf_2 hn_2 hI_2
   obtain ⟨i, hm_2, h2_11, hi⟩ := hI_2
   have h2_6 := KS hs_2 6
   have h2_9 := KS hs_2 9
   have k2_0 := KE hf_2 (N + 19)
   have k2_1 := KE hf_2 (n_1 + 19)
   have k2_2 := KE hf_2 (d)
   have hlow := KL (N := N) (σ := σ) hf_2
   by_cases hil : i = H.length
   ·subst hil
    have hcs := And.intro c9 True.intro
    clear c9 h3
    exact W0
   ·have hi1 : i < H.length := by omega
    obtain ⟨t, ht⟩ : ∃ t, H[i] = t := ⟨_, rfl⟩
    have htm : (H.map tagAV)[i]? = some (tagAV t) := by rw [List.getElem?_map, List.getElem?_eq_getElem hi1, ht]; rfl
    obtain ⟨hp1, hp2⟩ := h3 t (by rw [← ht]; exact List.getElem_mem _)
    refine Wk ?_
    refine go_loopF mixed (by kernel_rfl) [2, 12, 94, 95, 96, 97, 98, 99, 100, 101, 102, 103, 104, 105, 106, 107, 108, 109, 110, 111] [] (fun m_ s_ σ_ n_ => ∃ (v : Nat), m_ = D2.length - v ∧ s_ 12 = .lit (.int .i64 v) ∧ (v ≤ D2.length)) ⟨_, 0, rfl, WF, WC⟩ ?_
    intro m_3 s_3 σ_3 n_3 hs_3 hf_3 hn_3 hI_3
    obtain ⟨v, hm_3, h3_12, hv⟩ := hI_3
    have h3_6 := KS hs_3 6
    have h3_9 := KS hs_3 9
    have h3_11 := KS hs_3 11
    have h3_81 := KS hs_3 81
    have h3_82 := KS hs_3 82
    have h3_83 := KS hs_3 83
    have h3_84 := KS hs_3 84
    have h3_87 := KS hs_3 87
    have h3_88 := KS hs_3 88
    have h3_89 := KS hs_3 89
    have h3_90 := KS hs_3 90
    have h3_91 := KS hs_3 91
    have h3_92 := KS hs_3 92
    have h3_93 := KS hs_3 93
    have k3_0 := KE hf_3 (N + 19)
    have k3_1 := KE hf_3 (n_1 + 19)
    have k3_2 := KE hf_3 (d)
    have hlow := KL (N := N) (σ := σ) hf_3
    by_cases hvl : v = D2.length
    ·subst hvl
     refine Wk ?_
     exact ⟨WS, WG, WN, _, (show H.length - (i + 1) < m_2 by omega), i + 1, rfl, WF, WC⟩
    ·have hv1 : v < D2.length := by omega
     obtain ⟨x, hx⟩ : ∃ x, D2[v] = x := ⟨_, rfl⟩
     have hxm : (D2.map boAV)[v]? = some (.agg [.slice none (x.ticket.map byteAV), .slice none (x.conds.map prAV), tagAV x.proof]) := by rw [List.getElem?_map, List.getElem?_eq_getElem hv1, hx]; rfl
     have hpx := hp2 x (by rw [← hx]; exact List.getElem_mem _)
     clear hp2 h3
     refine Wk ?_
     exact ⟨WS, WG, WN, _, (show D2.length - (v + 1) < m_3 by omega), v + 1, rfl, WF, WC⟩
  ·have hu1 : u < sg.length := by omega
   obtain ⟨z, hz⟩ : ∃ z, sg[u] = z := ⟨_, rfl⟩
   have hzm : (sg.map diAV)[u]? = some (.agg [.slice none (z.ticket.map byteAV), .slice none (z.conds.map prAV), tagAV z.tag]) := by rw [List.getElem?_map, List.getElem?_eq_getElem hu1, hz]; rfl
   have hT2 := hHs u z (by rw [List.getElem?_eq_getElem hu1, hz])
   rw [hT] at hT2
   have hb26 : (acc.length + 1) * 32 ≤ 140737488355328 := by omega
   clear hHs c3 h3 hT
   refine Wk ?_
   exact ⟨WS, WG, WN, _, (show sg.length - (u + 1) < m_1 by omega), u + 1, acc ++ [z.tag], rfl, WF, WF, WF, WC, WC⟩
end
theorem BundleHides_spec (xs : List Int) (_ : ∀ n ∈ xs, (Lit.int .i64 n).wf = true) (hx : xs.length ≤ 9223372036854775807) (g d : Nat) (hgd : g ≠ d) (k : Nat) :
  ACall Tryz.prog 8 [.slice none (xs.map intAV)] k [(g, shaG), (d, bitsG)] (.lit (.bool true)) [] :=
 @BundleHides_core w32 xs hx g d hgd k
end Go.Proofs.YtdmjpolnbmoehaaGreatDoor
