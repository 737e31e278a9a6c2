/- Texts U18, U19, W17, W14, P5, joined. -/
import Derived.Test.YtdmjpolnbmoehaaGreatDoorMH4

namespace Go.Proofs.YtdmjpolnbmoehaaGreatDoor
open Go.Ab
attribute [local irreducible] Go.Ab.tyAV Go.Ab.aw Go.Ab.aops Go.Ab.kReg Go.Ab.aThen Go.Ab.aBlk Go.Ab.acond Go.Ab.aguard Go.Ab.astep Go.Ab.AStepX Go.Ab.aRet
attribute [local irreducible] shaG
section
variable [W : W32]
end
end Go.Proofs.YtdmjpolnbmoehaaGreatDoor

namespace Go.Proofs.YtdmjpolnbmoehaaGreatDoor
open Go.Ab
attribute [local irreducible] Go.Ab.tyAV Go.Ab.aw Go.Ab.aops Go.Ab.kReg Go.Ab.aThen Go.Ab.aBlk Go.Ab.acond Go.Ab.aguard Go.Ab.astep Go.Ab.AStepX Go.Ab.aRet

structure DiW (d : Di) : Prop where
 tl : d.ticket.length ≤ 140737488351232
 cl : d.conds.length ≤ 9223372036854775807
 ok : ∀ p ∈ d.conds, PrOk p
def CaW (c : Ca) : Prop := PrOk c.first ∧ CaSm c
structure PaW (p : Pa) : Prop where
 cl : p.cavs.length ≤ 9223372036854775807
 ok : ∀ c ∈ p.cavs, CaW c
end Go.Proofs.YtdmjpolnbmoehaaGreatDoor

namespace Go.Proofs.YtdmjpolnbmoehaaGreatDoor
open Go.Ab
attribute [local irreducible] Go.Ab.tyAV Go.Ab.aw Go.Ab.aops Go.Ab.kReg Go.Ab.aThen Go.Ab.aBlk Go.Ab.acond Go.Ab.aguard Go.Ab.astep Go.Ab.AStepX Go.Ab.aRet
attribute [local irreducible] shaG
theorem awake15_spec (k : Nat) : ACall Tryz.prog 14 [] k [] (.lit (.bool true)) [] := by
 have c1 := Age_spec [97] 0 525600 (by decide)
 have c2 := Age_spec [97] 0 525599 (by decide)
 rw [show ageS 0 525600 = 1 by decide +kernel] at c1
 rw [show ageS 0 525599 = 0 by decide +kernel] at c2
 refine Bd Tryz.func14 Tryz.ntmps14 fun σ N hp hpn hk hkn hfree => ?_
 have hcs := And.intro c1 (And.intro c2 True.intro)
 clear c1 c2
 exact W0
theorem ALe.refl : ∀ (xs : List AV), ALe xs xs
 | [] => .nil
 | x :: r => .cons (AV.le_refl x) (ALe.refl r)
section
variable [W : W32]
end

section
variable [W : W32]
set_option maxHeartbeats 8000000 in
theorem DischargeFound_core (xs : List Int) (hx : xs.length ≤ 9223372036854775807) (least : Nat) (hle : least < 256) (g h : Nat) (hgh : g ≠ h) (k : Nat) :
  ACall Tryz.prog 11 [.slice none (xs.map intAV), .lit (.int .u8 least)] k [(g, shaG), (h, bitsG)] (.lit (.bool true)) [] := by
 have c9 := awake15_spec
 have c1 := New_spec xs
 obtain ⟨s, j, hs, hj, c2⟩ := SceneW_ex xs 0 ⟨hx, Nat.zero_le _⟩
 obtain ⟨hcp0, hcp7⟩ := hs.cp
 obtain ⟨hmi0, hmi1⟩ := hs.mi
 obtain ⟨hps, hpw⟩ := hs.cps
 obtain ⟨bo, hfp, hbo0, hbo1⟩ := hs.fp
 have hrq := hs.rq
 have hhol := hs.hol
 obtain ⟨B, kt, tk, f1, f2, f3, f4, f5, f6, f7⟩ := back_ok hs.ain (by decide) hs.ok (c := s.con) (t := ⟨0, 150⟩) rfl hcp0 hcp7
 have hag := age_ok (b := bo) hmi0 (by omega) hbo0 hbo1
 obtain ⟨q0, hC0⟩ := Chn.first f2 f3 (by decide) f5 f6 hfp hmi0 (show s.minute ≤ 67108864 by omega) (show ¬ (ageS (⟨ann, bo⟩ : Pe).born s.minute < (⟨0, 150⟩ : Te).least ∨ (⟨0, 150⟩ : Te).most < ageS (⟨ann, bo⟩ : Pe).born s.minute) by simp only; omega)
 have c3 := refBlank_spec s.alg 1000 hs.ain (by decide) s.con ⟨0, 150⟩
 rw [f1] at c3
 have c4 := Grant_spec B 1002 f2 (by decide) s.con (by omega) hpw tk (by omega) ann (by decide) s.minute g h hgh
 unfold mlAV at c3
 unfold mdAV at c4
 rw [q0] at c4
 simp only at c3
 clear f1 f6 f7 hs q0
 generalize grantS B s.con tk ann s.minute = G0 at *
 obtain ⟨A0, g0, e0⟩ := G0
 simp only at c4 hC0
 obtain ⟨sa, sr, sc, ⟨pe, ps, pc, pt⟩, sg, sq, sh, sm⟩ := s
 simp only at *
 subst hhol
 have hsA : scAV ⟨sa, sr, sc, ⟨pe, ps, pc, pt⟩, sg, sq, ann, sm⟩ = .agg [algAV sa, rgAV sr, concAV sc, .agg [.lit (.int .i64 pe), .lit (.int .i64 ps), .slice none (pc.map caAV), tagAV pt], .slice none (sg.map diAV), rqAV sq, .lit (.string ⟨#[97, 110, 110]⟩), .lit (.int .i64 sm)] := rfl
 rw [hsA] at c2
 have hann : strAV ann = .lit (.string ⟨#[97, 110, 110]⟩) := rfl
 rw [hann] at c4
 have hbA : blAV ⟨sc.party, kt, tk⟩ = .agg [.lit (.int .i64 sc.party), tagAV kt, .slice none (tk.map byteAV)] := rfl
 rw [hbA] at c3
 have hte : teAV ⟨0, 150⟩ = .agg [.lit (.int .i64 0), .lit (.int .i64 150)] := rfl
 rw [hte] at c3
 clear hsA hann hbA hte
 have hw0 : IntKind.i64.wrap (least : Int) = least := wrap_i64 (by omega) (by omega)
 have hw5 : (least : Int).tmod 5 = ((least % 5 : Nat) : Int) := by rw [Int.tmod_eq_emod_of_nonneg (by omega)]; omega
 have hl5 : least % 5 < 5 := Nat.mod_lt _ (by decide)
 generalize least % 5 = l5 at *
 have hC1 : Chn A0 kt tk g0 1 (1003 + 1) := hC0
 have e00 : ((0 : Nat) : Int) = 0 := rfl
 rw [e00] at c3 c4
 have hg0 : diAV g0 = .agg [.slice none (g0.ticket.map byteAV), .slice none (g0.conds.map prAV), tagAV g0.tag] := rfl
 rw [hg0] at c4
 clear hC0 hg0 f2 f3 f4 hfp hag hpw hps hcp0 hcp7 hmi0 hmi1 hbo0 hbo1
 refine Bd Tryz.func11 Tryz.ntmps11 fun σ N hp hpn hk hkn hfree => ?_
 simp only [List.mem_cons, List.not_mem_nil, or_false, forall_eq_or_imp, forall_eq] at hp hpn; obtain ⟨hd1, hd2⟩ := hp; obtain ⟨hdn1, hdn2⟩ := hpn
 have hcs := And.intro c1 (And.intro (c2 (N + 1 + 1)) (And.intro c3 (And.intro c4 True.intro)))
 clear c1 c2 c3 c4
 refine Wk ?_
 clear hcs
 refine go_loopF mixed (by kernel_rfl) [4, 11, 12, 56, 57, 58, 59, 60, 61, 62, 63, 64, 65, 66, 67, 68, 69, 70] [N+1+1, N+8+10, N+23+14] (fun m_ s_ σ_ n_ => ∃ (f : Nat) (A : Alg) (G : Di) (nn : Nat) (jd : Nat), m_ = f ∧ s_ 12 = .lit (.int .i64 f) ∧ σ_ (N+1+1) = deckBox xs jd ∧ σ_ (N+8+10) = .box 38 (algAV A) ∧ σ_ (N+23+14) = .box 31 (.agg [.slice none (G.ticket.map byteAV), .slice none (G.conds.map prAV), tagAV G.tag]) ∧ (f + nn = 1 + l5) ∧ (1 ≤ nn) ∧ (Chn A kt tk G nn (1003 + nn)) ∧ (Dk xs jd)) ⟨_, l5, A0, g0, 1, j, rfl, WF, WF, WF, WF, WC, WC, WC, WC⟩ ?_
 intro m_1 s_1 σ_1 n_1 hs_1 hf_1 hn_1 hI_1
 obtain ⟨f, A, G, nn, jd, hm_1, h1_12, e1_0, e1_1, e1_2, hfn, hn1, hch, hjd⟩ := hI_1
 have h1_1 := KS hs_1 1
 have h1_5 := KS hs_1 5
 have h1_6 := KS hs_1 6
 have h1_7 := KS hs_1 7
 have h1_8 := KS hs_1 8
 have h1_10 := KS hs_1 10
 have k1_0 := KE hf_1 (N + 4 + 2)
 have k1_1 := KE hf_1 (N + 8 + 11)
 have k1_2 := KE hf_1 (g)
 have k1_3 := KE hf_1 (h)
 have hlow := KL (N := N) (σ := σ) hf_1
 clear hC1 hj
 cases f with
 | zero =>
  obtain ⟨b0, b1, b2, b3⟩ := hch.bound (by omega) pt hrq
  have htk := hch.te
  have hcl := hch.cl
  have hc0 := hch.c0
  have r1 := Bind_spec A (1003 + nn) hch.ain (by omega) G pt sq (by rw [htk]; omega) (by omega) g
  have r2 := dTag_spec (bindS A G pt sq).1 (1003 + nn + 1) b1 (by omega) kt tk (by omega) G.conds (by omega) hch.pr g h
  have r3 := dProof_spec (bindS A G pt sq).1 (1003 + nn + 1) b1 (by omega) G.tag pt sq g
  rw [b2] at r2
  rw [b3] at r3
  unfold mbAV at r1
  unfold entAV at r2 r3
  rw [b0, e00] at r1
  clear b0 b1 b2 b3 hch
  generalize bindS A G pt sq = Z at *
  obtain ⟨Z1, ⟨z1, z2, z3⟩, Z3⟩ := Z
  obtain ⟨gt, gc, gg⟩ := G
  simp only [Option.getD_some, Option.isSome_some] at *
  subst htk
  have hgA : diAV ⟨gt, gc, gg⟩ = .agg [.slice none (gt.map byteAV), .slice none (gc.map prAV), tagAV gg] := rfl
  have hzA : boAV ⟨z1, z2, z3⟩ = .agg [.slice none (z1.map byteAV), .slice none (z2.map prAV), tagAV z3] := rfl
  rw [hgA, hzA] at r1
  have hg0 : (gc.map prAV)[0]? = some (.agg [.lit (.int .i64 6), .lit (.int .u64 0), .lit (.int .i64 0), .lit (.int .i64 0), .lit (.string ⟨#[97, 110, 110]⟩), .lit (.int .i64 0)]) := by
   rw [List.getElem?_map, hc0]; rfl
  have hgl : gc.length = 1 + l5 := by omega
  have hgli : (gc.length : Int) = 1 + (l5 : Int) := by omega
  have hnni : (nn : Int) = 1 + (l5 : Int) := by omega
  clear hgA hzA hc0 hjd
  have hcs := And.intro r1 (And.intro r2 (And.intro r3 (And.intro c9 True.intro)))
  clear r1 r2 r3 c9
  exact W0
 | succ f =>
  obtain ⟨p, jp, ⟨p1, p2, p3, p4, p5⟩⟩ := PRD_ex hjd false
  obtain ⟨q0, hq⟩ := hch.rest (by omega) hn1 (by omega) p1 (p3 rfl) p2
  have r1 := Restr_spec A (1003 + nn) hch.ain (by omega) G (by rw [hch.te]; omega) (by rw [hch.cl]; omega) p p2 g h hgh
  unfold mdAV at r1
  rw [q0, e00] at r1
  have hq2 : Chn (restrS A G p).1 kt tk (restrS A G p).2.1 (nn + 1) (1003 + (nn + 1)) := hq
  clear q0 hch hq hjd p1 p2 p3 c9
  generalize restrS A G p = Z at *
  obtain ⟨Z1, Z2, Z3⟩ := Z
  simp only at *
  have hgA : diAV G = .agg [.slice none (G.ticket.map byteAV), .slice none (G.conds.map prAV), tagAV G.tag] := rfl
  have hzA : diAV Z2 = .agg [.slice none (Z2.ticket.map byteAV), .slice none (Z2.conds.map prAV), tagAV Z2.tag] := rfl
  rw [hgA, hzA] at r1
  clear hgA hzA
  have hcs := And.intro (p5 (N + 1 + 1)) (And.intro r1 True.intro)
  clear p5 r1
  refine Wk ?_
  clear hcs
  exact ⟨WS, WG, WN, _, (show (f) < m_1 by omega), f, Z1, Z2, nn + 1, jp, rfl, WF, WF, WF, WF, WC, WC, WC, WC⟩
end
theorem DischargeFound_spec (xs : List Int) (_ : ∀ n ∈ xs, (Lit.int .i64 n).wf = true) (hx : xs.length ≤ 9223372036854775807) (n : Int) (w : (Lit.int .u8 n).wf = true) (g h : Nat) (hgh : g ≠ h) (k : Nat) :
  ACall Tryz.prog 11 [.slice none (xs.map intAV), .lit (.int .u8 n)] k [(g, shaG), (h, bitsG)] (.lit (.bool true)) [] := by
 obtain ⟨b, _, rfl⟩ := byte_of_wf w
 exact @DischargeFound_core w32 xs hx b.toNat (by have := b.toNat_lt; omega) g h hgh k
end Go.Proofs.YtdmjpolnbmoehaaGreatDoor
