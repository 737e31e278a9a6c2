/- Texts O8, M10p, C13, U15, I1, I2, Q5, W1, W12, Q6, W15, I3, joined. -/
import Derived.Test.YtdmjpolnbmoehaaGreatDoorMF1

namespace Go.Proofs.YtdmjpolnbmoehaaGreatDoor
open Go.Ab
attribute [local irreducible] Go.Ab.tyAV Go.Ab.aw Go.Ab.aops Go.Ab.kReg Go.Ab.aThen Go.Ab.aBlk Go.Ab.acond Go.Ab.aguard Go.Ab.astep Go.Ab.AStepX Go.Ab.aRet
theorem go_join {P : Program} {N : Nat} {b : Code} {Q : AExit → Cfg → Prop} {next : Cfg → Prop} {s : Slots} {σ : Nat → Ent} {n : Nat} (L : List Nat) (t : Tmp) (v : AV) (m : Nat)
  (h1 : SKeep L s s → aw P N b (aThen (fun c => SKeep L s c.s ∧ c.s t = v ∧ c.σ = σ ∧ c.n = m) Q) ⟨s, σ, n⟩) (h2 : ∀ s', SKeep L s s' → s' t = v → next ⟨s', σ, m⟩) : aw P N b (aThen next Q) ⟨s, σ, n⟩ :=
 go_after0 _ (h1 (SKeep.refl L s)) fun c ⟨a, b, c1, c2⟩ => by
  obtain ⟨s', σ', n'⟩ := c
  simp only at c1 c2
  subst c1 c2
  exact h2 s' a b
theorem any_take {α : Type} (q : α → Bool) {l : List α} {u : Nat} {z : α} (h : u < l.length) (hz : l[u] = z) : (l.take (u + 1)).any q = ((l.take u).any q || q z) := by
 rw [List.take_add_one, List.getElem?_eq_getElem h, hz]; simp
theorem chk_rng {b : Bu} (h : rngB b = true) : chkS b = 1 := by
 have : partsS b = 1 := by unfold partsS; rw [if_pos h]
 unfold chkS; rw [this]; rfl
theorem chk_cnt {b : Bu} (h : rngB b = false) (h2 : cntB b = true) : chkS b = 2 := by
 have : partsS b = 2 := by unfold partsS; rw [if_neg (by rw [h]; simp), if_pos h2]
 unfold chkS; rw [this]; rfl
theorem chk_frm {b : Bu} (h : rngB b = false) (h2 : cntB b = false) (h3 : (b.cavs.any (fun c => !cavB c) || b.dis.any badBo) = true) : chkS b = 5 := by
 have : partsS b = 5 := by unfold partsS; rw [if_neg (by rw [h]; simp), if_neg (by rw [h2]; simp), if_pos (by simpa using h3)]
 unfold chkS; rw [this]; rfl
theorem chk_rid {b : Bu} (h : rngB b = false) (h2 : cntB b = false) (h3 : (b.cavs.any (fun c => !cavB c) || b.dis.any badBo) = false) (h4 : b.dis.any ridB = true) : chkS b = 6 := by
 have : partsS b = 6 := by unfold partsS; rw [if_neg (by rw [h]; simp), if_neg (by rw [h2]; simp), if_neg (by simpa using h3), if_pos h4]
 unfold chkS; rw [this]; rfl
theorem chk_tw {b : Bu} (h : rngB b = false) (h2 : cntB b = false) (h3 : (b.cavs.any (fun c => !cavB c) || b.dis.any badBo) = false) (h4 : b.dis.any ridB = false) (h5 : twU b.dis b.dis.length = true) : chkS b = 10 := by
 have : partsS b = 10 := by unfold partsS; rw [if_neg (by rw [h]; simp), if_neg (by rw [h2]; simp), if_neg (by simpa using h3), if_neg (by rw [h4]; simp), if_pos h5]
 unfold chkS; rw [this]; rfl
theorem chk_len {b : Bu} (h : rngB b = false) (h2 : cntB b = false) (h3 : (b.cavs.any (fun c => !cavB c) || b.dis.any badBo) = false) (h4 : b.dis.any ridB = false) (h5 : twU b.dis b.dis.length = false) : partsS b = 0 := by
 unfold partsS; rw [if_neg (by rw [h]; simp), if_neg (by rw [h2]; simp), if_neg (by simpa using h3), if_neg (by rw [h4]; simp), if_neg (by rw [h5]; simp)]
set_option maxHeartbeats 1000000 in
theorem refChk_rng (b : Bu) (h : rngB b = true) (k : Nat) : ACall Tryz.prog 47 [buAV b] k [] (.lit (.int .i64 1)) [] := by
 have c1 := refRqOk_spec b.req
 unfold rngB at h
 obtain ⟨rq, ep, se, L, pf, ds⟩ := b
 have hbA : buAV ⟨rq, ep, se, L, pf, ds⟩ = .agg [rqAV rq, .lit (.int .i64 ep), .lit (.int .i64 se), .slice none (L.map caAV), tagAV pf, .slice none (ds.map boAV)] := rfl
 simp only at c1 h
 cases hr : rqB rq with
 | false =>
  rw [hr] at c1
  clear h
  refine Bd Tryz.func47 Tryz.ntmps47 fun σ N hp hpn hk hkn hfree => ?_
  have hcs := And.intro c1 True.intro
  clear c1
  exact W0
 | true =>
  rw [hr] at c1 h
  simp only [Bool.not_true, Bool.false_or, Bool.or_eq_true, decide_eq_true_eq] at h
  by_cases g1 : ep < 1
  ·clear h
   refine Bd Tryz.func47 Tryz.ntmps47 fun σ N hp hpn hk hkn hfree => ?_
   have hcs := And.intro c1 True.intro
   clear c1
   exact W0
  by_cases g2 : 1000 < ep
  ·clear h
   refine Bd Tryz.func47 Tryz.ntmps47 fun σ N hp hpn hk hkn hfree => ?_
   have hcs := And.intro c1 True.intro
   clear c1
   exact W0
  by_cases g3 : se < 1
  ·clear h
   refine Bd Tryz.func47 Tryz.ntmps47 fun σ N hp hpn hk hkn hfree => ?_
   have hcs := And.intro c1 True.intro
   clear c1
   exact W0
  have g4 : 1073741824 < se := by omega
  clear h
  refine Bd Tryz.func47 Tryz.ntmps47 fun σ N hp hpn hk hkn hfree => ?_
  have hcs := And.intro c1 True.intro
  clear c1
  exact W0
theorem rng_false {b : Bu} (h : rngB b = false) : rqB b.req = true ∧ ¬ b.epoch < 1 ∧ ¬ 1000 < b.epoch ∧ ¬ b.serial < 1 ∧ ¬ 1073741824 < b.serial := by
 unfold rngB at h
 simp only [Bool.or_eq_false_iff, decide_eq_false_iff_not, Bool.not_eq_false'] at h
 exact h
def cnt3B (b : Bu) : Bool := decide (64 < b.cavs.length) || (decide (8 < thirdsS b.cavs) || decide (8 < b.dis.length))
set_option maxHeartbeats 1000000 in
theorem refChk_cnt (b : Bu) (hb : BuIn b) (h : rngB b = false) (h2 : cnt3B b = true) (k : Nat) : ACall Tryz.prog 47 [buAV b] k [] (.lit (.int .i64 2)) [] := by
 have c1 := refRqOk_spec b.req
 have c2 := refThirds_spec b.cavs (by have := hb.cl; omega)
 obtain ⟨r1, r2, r3, r4, r5⟩ := rng_false h
 unfold cnt3B at h2
 rw [r1] at c1
 clear h hb
 obtain ⟨rq, ep, se, L, pf, ds⟩ := b
 have hbA : buAV ⟨rq, ep, se, L, pf, ds⟩ = .agg [rqAV rq, .lit (.int .i64 ep), .lit (.int .i64 se), .slice none (L.map caAV), tagAV pf, .slice none (ds.map boAV)] := rfl
 simp only at c1 c2 h2 r2 r3 r4 r5
 clear r1
 generalize thirdsS L = T at *
 simp only [Bool.or_eq_true, decide_eq_true_eq] at h2
 by_cases g1 : 64 < L.length
 ·have g1i : (64 : Int) < (L.length : Int) := by omega
  clear h2 c2
  refine Bd Tryz.func47 Tryz.ntmps47 fun σ N hp hpn hk hkn hfree => ?_
  have hcs := And.intro c1 True.intro
  clear c1
  exact W0
 have g1i : ¬ (64 : Int) < (L.length : Int) := by omega
 by_cases g2 : 8 < T
 ·have g2i : (8 : Int) < (T : Int) := by omega
  clear h2
  refine Bd Tryz.func47 Tryz.ntmps47 fun σ N hp hpn hk hkn hfree => ?_
  have hcs := And.intro c1 (And.intro c2 True.intro)
  clear c1 c2
  exact W0
 have g2i : ¬ (8 : Int) < (T : Int) := by omega
 have g3 : 8 < ds.length := by omega
 have g3i : (8 : Int) < (ds.length : Int) := by omega
 clear h2
 refine Bd Tryz.func47 Tryz.ntmps47 fun σ N hp hpn hk hkn hfree => ?_
 have hcs := And.intro c1 (And.intro c2 True.intro)
 clear c1 c2
 exact W0
set_option maxHeartbeats 8000000 in
theorem refChk_main (b : Bu) (hb : BuIn b) (h : rngB b = false) (h2 : cnt3B b = false) (k : Nat) : ACall Tryz.prog 47 [buAV b] k [] (.lit (.int .i64 (chkS b : Nat))) [] := by
 have c1 := refRqOk_spec b.req
 have c2 := refThirds_spec b.cavs (by have := hb.cl; omega)
 have c3 := AllValid_spec b.cavs (by have := hb.cl; omega) hb.ok
 have e2 : b.dis.any longB = true → chkS b = 2 := fun hl => chk_cnt h (by
  unfold cnt3B at h2; unfold cntB
  rw [hl]; simp)
 have hcn : b.dis.any longB = false → cntB b = false := fun hl => by
  unfold cnt3B at h2; unfold cntB
  rw [hl]; simpa using h2
 have e5 : b.dis.any longB = false → (b.cavs.any (fun c => !cavB c) || b.dis.any badBo) = true → chkS b = 5 := fun hl h3 => chk_frm h (hcn hl) h3
 have e6 : b.dis.any longB = false → (b.cavs.any (fun c => !cavB c) || b.dis.any badBo) = false → b.dis.any ridB = true → chkS b = 6 := fun hl h3 h4 => chk_rid h (hcn hl) h3 h4
 have e10 : b.dis.any longB = false → (b.cavs.any (fun c => !cavB c) || b.dis.any badBo) = false → b.dis.any ridB = false → twU b.dis b.dis.length = true → chkS b = 10 := fun hl h3 h4 h5 => chk_tw h (hcn hl) h3 h4 h5
 have e0 : b.dis.any longB = false → (b.cavs.any (fun c => !cavB c) || b.dis.any badBo) = false → b.dis.any ridB = false → twU b.dis b.dis.length = false → (chkS b = if 4096 < (encBu b).length then 2 else 0) ∧ ∀ k, ACall Tryz.prog 115 [buAV b] k [] (.slice none ((encBu b).map byteAV)) [] := fun hl h3 h4 h5 => by
  have hp := chk_len h (hcn hl) h3 h4 h5
  refine ⟨by unfold chkS; rw [if_neg (by rw [hp]; simp)], fun k => refBytes_spec b (parts_valid hb hp) k⟩
 obtain ⟨r1, r2, r3, r4, r5⟩ := rng_false h
 unfold cnt3B at h2
 rw [r1] at c1
 have hdi := hb.di
 have hdl := hb.dl
 clear h hb hcn
 generalize chkS b = R at *
 generalize encBu b = X at *
 obtain ⟨rq, ep, se, L, pf, ds⟩ := b
 have hbA : buAV ⟨rq, ep, se, L, pf, ds⟩ = .agg [rqAV rq, .lit (.int .i64 ep), .lit (.int .i64 se), .slice none (L.map caAV), tagAV pf, .slice none (ds.map boAV)] := rfl
 simp only at c1 c2 c3 h2 r2 r3 r4 r5 e2 e5 e6 e10 e0 hdi hdl
 clear r1
 generalize thirdsS L = T at *
 generalize (L.any fun c => !cavB c) = vl at *
 simp only [Bool.or_eq_false_iff, decide_eq_false_iff_not] at h2
 obtain ⟨g1, g2, g3⟩ := h2
 have g1i : ¬ (64 : Int) < (L.length : Int) := by omega
 have g2i : ¬ (8 : Int) < (T : Int) := by omega
 have g3i : ¬ (8 : Int) < (ds.length : Int) := by omega
 have z3 : (vl || (ds.take 0).any badBo) = vl := by simp
 have z4 : (ds.take 0).any ridB = false := by simp
 have z5 : twU ds 0 = false := rfl
 have z6 : (ds.take 0).any longB = false := by simp
 refine Bd Tryz.func47 Tryz.ntmps47 fun σ N hp hpn hk hkn hfree => ?_
 have hcs := And.intro c1 (And.intro c2 (And.intro c3 True.intro))
 clear c1 c2 c3
 refine Wk ?_
 clear hcs
 refine go_loopF mixed (by kernel_rfl) (2 :: 3 :: 4 :: 5 :: 6 :: 7 :: 8 :: 9 :: 54 :: 55 :: 56 :: 57 :: 58 :: 59 :: 60 :: 61 :: 62 :: 63 :: 64 :: 65 :: 66 :: 67 :: 68 :: 69 :: 70 :: 71 :: 72 :: 73 :: 74 :: 75 :: 76 :: 77 :: 78 :: 79 :: 80 :: 81 :: 82 :: 83 :: 84 :: 85 :: 86 :: 87 :: 88 :: 89 :: 90 :: 91 :: 92 :: 93 :: 94 :: 95 :: 96 :: 97 :: 98 :: 99 :: 100 :: 101 :: 102 :: 103 :: 104 :: 105 :: 106 :: 107 :: 108 :: 109 :: 110 :: 111 :: 112 :: 113 :: 114 :: 115 :: 116 :: 117 :: 118 :: 119 :: 120 :: 121 :: 122 :: 123 :: 124 :: 125 :: 126 :: []) [] (fun m_ s_ σ_ n_ => ∃ (u : Nat) (F3 : Bool) (F4 : Bool) (F5 : Bool), m_ = ds.length - u ∧ s_ 6 = .lit (.int .i64 u) ∧ s_ 3 = .lit (.bool F3) ∧ s_ 4 = .lit (.bool F4) ∧ s_ 5 = .lit (.bool F5) ∧ (u ≤ ds.length) ∧ ((ds.take u).any longB = false) ∧ ((vl || (ds.take u).any badBo) = F3) ∧ ((ds.take u).any ridB = F4) ∧ (twU ds u = F5)) ⟨_, 0, vl, false, false, rfl, WF, WF, WF, WF, WC, WC, WC, WC, WC⟩ ?_
 intro m_1 s_1 σ_1 n_1 hs_1 hf_1 hn_1 hI_1
 obtain ⟨u, F3, F4, F5, hm_1, h1_6, h1_3, h1_4, h1_5, hu, hfl, hf3, hf4, hf5⟩ := hI_1
 have h1_1 := KS hs_1 1
 have k1_0 := KE hf_1 (N)
 have hlow := KL (N := N) (σ := σ) hf_1
 clear z3 z4 z5 z6
 by_cases hul : u = ds.length
 ·subst hul
  rw [List.take_length] at hfl hf3 hf4
  clear e2
  by_cases a3 : F3 = true
  ·subst a3
   have hR := e5 hfl hf3
   clear e5 e6 e10 e0 hfl hf3 hf4 hf5 hdi
   subst hR
   exact W0
  ·have a3 : F3 = false := by simpa using a3
   subst a3
   by_cases a4 : F4 = true
   ·subst a4
    have hR := e6 hfl hf3 hf4
    clear e5 e6 e10 e0 hfl hf3 hf4 hf5 hdi
    subst hR
    exact W0
   ·have a4 : F4 = false := by simpa using a4
    subst a4
    by_cases a5 : F5 = true
    ·subst a5
     have hR := e10 hfl hf3 hf4 hf5
     clear e5 e6 e10 e0 hfl hf3 hf4 hf5 hdi
     subst hR
     exact W0
    ·have a5 : F5 = false := by simpa using a5
     subst a5
     obtain ⟨hR, c4⟩ := e0 hfl hf3 hf4 hf5
     rw [hbA] at c4
     clear e5 e6 e10 e0 hfl hf3 hf4 hf5 hdi
     by_cases hX : 4096 < X.length
     ·have hXi : (4096 : Int) < (X.length : Int) := by omega
      rw [if_pos hX] at hR
      subst hR
      have hcs := And.intro c4 True.intro
      clear c4
      exact W0
     ·have hXi : ¬ (4096 : Int) < (X.length : Int) := by omega
      rw [if_neg hX] at hR
      subst hR
      have hcs := And.intro c4 True.intro
      clear c4
      exact W0
 ·have hui : u < ds.length := by omega
  have hz1 := hdi _ (List.getElem_mem hui)
  obtain ⟨z, hz⟩ : ∃ z, ds[u] = z := ⟨_, rfl⟩
  rw [hz] at hz1
  have t6 := any_take longB hui hz
  have t3 := any_take badBo hui hz
  have t4 := any_take ridB hui hz
  have t5 := twU_succ ds u
  rw [List.getD_eq_getElem?_getD, List.getElem?_eq_getElem hui, Option.getD_some, hz] at t5
  rw [hfl, Bool.false_or] at t6
  rw [hf4] at t4
  rw [hf5] at t5
  have t3' : (vl || (ds.take (u + 1)).any badBo) = (F3 || badBo z) := by rw [t3, ← Bool.or_assoc, hf3]
  have hd1 := hz1.tl
  have hd2 := hz1.cl
  have hd3 := hz1.ok
  obtain ⟨ti, cs, pz⟩ := z
  have hbo : boAV ⟨ti, cs, pz⟩ = .agg [.slice none (ti.map byteAV), .slice none (cs.map prAV), tagAV pz] := rfl
  simp only at hd1 hd2 hd3
  clear hz1 t3 hf3 hf4 hf5 e5 e6 e10 e0
  by_cases hlg : 8 < cs.length
  ·have hlgi : (8 : Int) < (cs.length : Int) := by omega
   have hR : R = 2 := e2 (by
    rw [List.any_eq_true]
    refine ⟨_, List.getElem_mem hui, ?_⟩
    rw [hz]; unfold longB; simpa using hlg)
   subst hR
   clear e2 t3' t4 t5 t6 hdi hd3
   exact W0
  ·have hlgi : ¬ (8 : Int) < (cs.length : Int) := by omega
   have hlb : longB ⟨ti, cs, pz⟩ = false := by unfold longB; simpa using hlg
   rw [hlb] at t6
   have hbb : badBo ⟨ti, cs, pz⟩ = ((decide (ti.length < 1) || decide (1024 < ti.length)) || cs.any fun p => !predB p) := rfl
   have hrb : ridB ⟨ti, cs, pz⟩ = cs.any fun p => decide (p.kind = 7) := rfl
   rw [hbb, ← Bool.or_assoc] at t3'
   rw [hrb] at t4
   obtain ⟨G3, hG3⟩ : ∃ G, (F3 || (decide (ti.length < 1) || decide (1024 < ti.length))) = G := ⟨_, rfl⟩
   rw [hG3] at t3'
   clear hlb hbb hrb e2
   have y3 : (G3 || (cs.take 0).any fun p => !predB p) = G3 := by simp
   have y4 : (F4 || (cs.take 0).any fun p => decide (p.kind = 7)) = F4 := by simp
   have y5 : (F5 || (ds.take 0).any fun x => decide (x.ticket = ti)) = F5 := by simp
   refine Wm ?_
   iterate 3 refine Wz ?_
   refine go_join [3, 70, 71, 72, 73, 74, 75, 76, 77, 78, 79, 80, 81, 82] 3 (.lit (.bool G3)) (n_1 + 30) (fun hsr => ?_) (fun s9 hs9 h9_3 => ?_)
   ·by_cases a3 : F3 = true
    ·subst a3
     rw [Bool.true_or] at hG3
     subst hG3
     clear t3' t4 t5 t6 y3 y4 y5 hdi hd3
     refine Wk ?_
     exact ⟨WS, WF, rfl, by first | rfl | omega⟩
    ·have a3 : F3 = false := by simpa using a3
     subst a3
     rw [Bool.false_or] at hG3
     clear t3' t4 t5 t6 y3 y4 y5 hdi hd3
     by_cases b1 : ti.length < 1
     ·have b1i : (ti.length : Int) < 1 := by omega
      rw [decide_eq_true b1, Bool.true_or] at hG3
      subst hG3
      refine Wk ?_
      exact ⟨WS, WF, rfl, by first | rfl | omega⟩
     ·have b1i : ¬ (ti.length : Int) < 1 := by omega
      rw [decide_eq_false b1, Bool.false_or] at hG3
      by_cases b2 : 1024 < ti.length
      ·have b2i : (1024 : Int) < (ti.length : Int) := by omega
       rw [decide_eq_true b2] at hG3
       subst hG3
       refine Wk ?_
       exact ⟨WS, WF, rfl, by first | rfl | omega⟩
      ·have b2i : ¬ (1024 : Int) < (ti.length : Int) := by omega
       rw [decide_eq_false b2] at hG3
       subst hG3
       refine Wk ?_
       exact ⟨WS, WF, rfl, by first | rfl | omega⟩
   have j1 := (hs9.at 1 (by decide)).trans WE
   have j4 := (hs9.at 4 (by decide)).trans WE
   have j5 := (hs9.at 5 (by decide)).trans WE
   have j6 := (hs9.at 6 (by decide)).trans WE
   have j7 := (hs9.at 7 (by decide)).trans WE
   clear hG3
   refine Wk ?_
   refine go_loopF mixed (by kernel_rfl) [3, 4, 8, 83, 84, 85, 86, 87, 88, 89, 90, 91, 92, 93, 94, 95, 96, 97, 98, 99, 100, 101, 102, 103, 104, 105, 106, 107, 108, 109] [] (fun m_ s_ σ_ n_ => ∃ (v : Nat) (H3 : Bool) (H4 : Bool), m_ = cs.length - v ∧ s_ 8 = .lit (.int .i64 v) ∧ s_ 3 = .lit (.bool H3) ∧ s_ 4 = .lit (.bool H4) ∧ (v ≤ cs.length) ∧ ((G3 || (cs.take v).any fun p => !predB p) = H3) ∧ ((F4 || (cs.take v).any fun p => decide (p.kind = 7)) = H4)) ⟨_, 0, G3, F4, rfl, WF, WF, WF, WC, WC, WC⟩ ?_
   intro m_2 s_2 σ_2 n_2 hs_2 hf_2 hn_2 hI_2
   obtain ⟨v, H3, H4, hm_2, h2_8, h2_3, h2_4, hv, hh3, hh4⟩ := hI_2
   have h2_1 := KS hs_2 1
   have h2_2 := KS hs_2 2
   have h2_5 := KS hs_2 5
   have h2_6 := KS hs_2 6
   have h2_7 := KS hs_2 7
   have h2_54 := KS hs_2 54
   have h2_55 := KS hs_2 55
   have h2_56 := KS hs_2 56
   have h2_57 := KS hs_2 57
   have h2_58 := KS hs_2 58
   have h2_61 := KS hs_2 61
   have h2_62 := KS hs_2 62
   have h2_63 := KS hs_2 63
   have h2_64 := KS hs_2 64
   have h2_65 := KS hs_2 65
   have h2_66 := KS hs_2 66
   have h2_67 := KS hs_2 67
   have h2_68 := KS hs_2 68
   have h2_69 := KS hs_2 69
   have h2_70 := KS hs_2 70
   have h2_71 := KS hs_2 71
   have h2_72 := KS hs_2 72
   have h2_73 := KS hs_2 73
   have h2_74 := KS hs_2 74
   have h2_75 := KS hs_2 75
   have h2_76 := KS hs_2 76
   have h2_77 := KS hs_2 77
   have h2_78 := KS hs_2 78
   have h2_79 := KS hs_2 79
   have h2_80 := KS hs_2 80
   have h2_81 := KS hs_2 81
   have h2_82 := KS hs_2 82
   have k2_0 := KE hf_2 (N)
   have k2_1 := KE hf_2 (n_1 + 5 + 5)
   have hlow := KL (N := N) (σ := σ) hf_2
   clear y3 y4
   by_cases hvl : v = cs.length
   ·subst hvl
    rw [List.take_length] at hh3 hh4
    rw [hh3] at t3'
    rw [hh4] at t4
    clear hh3 hh4 hd3
    refine Wk ?_
    refine go_loopF mixed (by kernel_rfl) [5, 9, 110, 111, 112, 113, 114, 115, 116, 117, 118, 119, 120, 121, 122, 123, 124, 125, 126] [] (fun m_ s_ σ_ n_ => ∃ (w : Nat) (H5 : Bool), m_ = u - w ∧ s_ 9 = .lit (.int .i64 w) ∧ s_ 5 = .lit (.bool H5) ∧ (w ≤ u) ∧ ((F5 || (ds.take w).any fun x => decide (x.ticket = ti)) = H5)) ⟨_, 0, F5, rfl, WF, WF, WC, WC⟩ ?_
    intro m_3 s_3 σ_3 n_3 hs_3 hf_3 hn_3 hI_3
    obtain ⟨w, H5, hm_3, h3_9, h3_5, hw, hh5⟩ := hI_3
    have h3_1 := KS hs_3 1
    have h3_2 := KS hs_3 2
    have h3_3 := KS hs_3 3
    have h3_4 := KS hs_3 4
    have h3_6 := KS hs_3 6
    have h3_7 := KS hs_3 7
    have h3_8 := KS hs_3 8
    have h3_54 := KS hs_3 54
    have h3_55 := KS hs_3 55
    have h3_56 := KS hs_3 56
    have h3_57 := KS hs_3 57
    have h3_58 := KS hs_3 58
    have h3_61 := KS hs_3 61
    have h3_62 := KS hs_3 62
    have h3_63 := KS hs_3 63
    have h3_64 := KS hs_3 64
    have h3_65 := KS hs_3 65
    have h3_66 := KS hs_3 66
    have h3_67 := KS hs_3 67
    have h3_68 := KS hs_3 68
    have h3_69 := KS hs_3 69
    have h3_70 := KS hs_3 70
    have h3_71 := KS hs_3 71
    have h3_72 := KS hs_3 72
    have h3_73 := KS hs_3 73
    have h3_74 := KS hs_3 74
    have h3_75 := KS hs_3 75
    have h3_76 := KS hs_3 76
    have h3_77 := KS hs_3 77
    have h3_78 := KS hs_3 78
    have h3_79 := KS hs_3 79
    have h3_80 := KS hs_3 80
    have h3_81 := KS hs_3 81
    have h3_82 := KS hs_3 82
    have h3_83 := KS hs_3 83
    have h3_84 := KS hs_3 84
    have h3_85 := KS hs_3 85
    have h3_86 := KS hs_3 86
    have h3_87 := KS hs_3 87
    have h3_88 := KS hs_3 88
    have h3_89 := KS hs_3 89
    have h3_90 := KS hs_3 90
    have h3_91 := KS hs_3 91
    have h3_92 := KS hs_3 92
    have h3_93 := KS hs_3 93
    have h3_94 := KS hs_3 94
    have h3_95 := KS hs_3 95
    have h3_96 := KS hs_3 96
    have h3_97 := KS hs_3 97
    have h3_98 := KS hs_3 98
    have h3_99 := KS hs_3 99
    have h3_100 := KS hs_3 100
    have h3_101 := KS hs_3 101
    have h3_102 := KS hs_3 102
    have h3_103 := KS hs_3 103
    have h3_104 := KS hs_3 104
    have h3_105 := KS hs_3 105
    have h3_106 := KS hs_3 106
    have h3_107 := KS hs_3 107
    have h3_108 := KS hs_3 108
    have h3_109 := KS hs_3 109
    have k3_0 := KE hf_3 (N)
    have k3_1 := KE hf_3 (n_1 + 5 + 5)
    have hlow := KL (N := N) (σ := σ) hf_3
    clear y5
    by_cases hwl : w = u
    ·subst hwl
     rw [hh5] at t5
     clear hh5 hdi
     refine Wk ?_
     exact ⟨WS, WG, WN, _, (show ds.length - (w + 1) < m_1 by omega), w + 1, H3, H4, H5, rfl, WF, WF, WF, WF, WC, WC, WC, WC, WC⟩
    ·have hwi : w < ds.length := by omega
     have hwui : (w : Int) < (u : Int) := by omega
     obtain ⟨x, hx⟩ : ∃ x, ds[w] = x := ⟨_, rfl⟩
     have s5 := any_take (fun x => decide (x.ticket = ti)) hwi hx
     obtain ⟨xt, xc, xp⟩ := x
     have hxo : boAV ⟨xt, xc, xp⟩ = .agg [.slice none (xt.map byteAV), .slice none (xc.map prAV), tagAV xp] := rfl
     have c1 := SameX_spec ti xt hd1
     have hsym : decide (ti = xt) = decide (xt = ti) := by
      by_cases hq : ti = xt
      ·subst hq; rfl
      ·rw [decide_eq_false hq, decide_eq_false (fun h => hq h.symm)]
     rw [hsym] at c1
     simp only at s5
     have s5' : (F5 || (ds.take (w + 1)).any fun x => decide (x.ticket = ti)) = (H5 || decide (xt = ti)) := by rw [s5, ← Bool.or_assoc, hh5]
     clear hsym s5 hh5 t3' t4 t5 t6 hdi
     generalize decide (xt = ti) = q at *
     have hcs := And.intro c1 True.intro
     clear c1
     by_cases a5 : H5 = true
     ·subst a5
      rw [Bool.true_or] at s5'
      refine Wk ?_
      exact ⟨WS, WG, WN, _, (show u - (w + 1) < m_3 by omega), w + 1, true, rfl, WF, WF, WC, WC⟩
     ·have a5 : H5 = false := by simpa using a5
      subst a5
      rw [Bool.false_or] at s5'
      refine Wk ?_
      exact ⟨WS, WG, WN, _, (show u - (w + 1) < m_3 by omega), w + 1, q, rfl, WF, WF, WC, WC⟩
   ·have hvi : v < cs.length := by omega
    have hp1 := hd3 _ (List.getElem_mem hvi)
    obtain ⟨c, hcc⟩ : ∃ c, cs[v] = c := ⟨_, rfl⟩
    rw [hcc] at hp1
    have c1 := refPred_spec c hp1
    have s3 := any_take (fun p => !predB p) hvi hcc
    have s4 := any_take (fun p => decide (p.kind = 7)) hvi hcc
    have s3' : (G3 || (cs.take (v + 1)).any fun p => !predB p) = (H3 || !predB c) := by rw [s3, ← Bool.or_assoc, hh3]
    have s4' : (F4 || (cs.take (v + 1)).any fun p => decide (p.kind = 7)) = (H4 || decide (c.kind = 7)) := by rw [s4, ← Bool.or_assoc, hh4]
    generalize predB c = q at *
    obtain ⟨kd, ms, fr, to, nm, nu⟩ := c
    have hpr : prAV ⟨kd, ms, fr, to, nm, nu⟩ = .agg [.lit (.int .i64 kd), .lit (.int .u64 ms), .lit (.int .i64 fr), .lit (.int .i64 to), .lit (.string ⟨nm.toArray⟩), .lit (.int .i64 nu)] := rfl
    simp only at s4'
    clear s3 s4 hh3 hh4 t3' t4 t5 t6 hdi hd3 hp1
    have hcs := And.intro c1 True.intro
    clear c1
    obtain ⟨r7, hr7, hr7b⟩ : ∃ r, decide (kd = 7) = r ∧ (kd == 7) = r := ⟨_, rfl, by
     by_cases hk : kd = 7
     ·subst hk; rfl
     ·rw [decide_eq_false hk]; rw [beq_eq_false_iff_ne]; exact hk⟩
    rw [hr7] at s4'
    by_cases a3 : H3 = true
    ·subst a3
     rw [Bool.true_or] at s3'
     by_cases a4 : H4 = true
     ·subst a4
      rw [Bool.true_or] at s4'
      refine Wk ?_
      exact ⟨WS, WG, WN, _, (show cs.length - (v + 1) < m_2 by omega), v + 1, true, true, rfl, WF, WF, WF, WC, WC, WC⟩
     ·have a4 : H4 = false := by simpa using a4
      subst a4
      rw [Bool.false_or] at s4'
      refine Wk ?_
      exact ⟨WS, WG, WN, _, (show cs.length - (v + 1) < m_2 by omega), v + 1, true, r7, rfl, WF, WF, WF, WC, WC, WC⟩
    ·have a3 : H3 = false := by simpa using a3
     subst a3
     rw [Bool.false_or] at s3'
     by_cases a4 : H4 = true
     ·subst a4
      rw [Bool.true_or] at s4'
      refine Wk ?_
      exact ⟨WS, WG, WN, _, (show cs.length - (v + 1) < m_2 by omega), v + 1, !q, true, rfl, WF, WF, WF, WC, WC, WC⟩
     ·have a4 : H4 = false := by simpa using a4
      subst a4
      rw [Bool.false_or] at s4'
      refine Wk ?_
      exact ⟨WS, WG, WN, _, (show cs.length - (v + 1) < m_2 by omega), v + 1, !q, r7, rfl, WF, WF, WF, WC, WC, WC⟩
theorem refChk_spec (b : Bu) (hb : BuIn b) (k : Nat) : ACall Tryz.prog 47 [buAV b] k [] (.lit (.int .i64 (chkS b : Nat))) [] := by
 cases h : rngB b with
 | true => rw [chk_rng h]; exact refChk_rng b h k
 | false =>
  cases h2 : cnt3B b with
  | true =>
   rw [chk_cnt h (by
    unfold cnt3B at h2; unfold cntB
    simp only [Bool.or_eq_true, decide_eq_true_eq] at h2 ⊢
    rcases h2 with h2 | h2 | h2
    ·exact .inl h2
    ·exact .inr (.inl h2)
    ·exact .inr (.inr (.inl h2)))]
   exact refChk_cnt b hb h h2 k
  | false => exact refChk_main b hb h h2 k
end Go.Proofs.YtdmjpolnbmoehaaGreatDoor

namespace Go.Proofs.YtdmjpolnbmoehaaGreatDoor
open Go.Ab
attribute [local irreducible] Go.Ab.tyAV Go.Ab.aw Go.Ab.aops Go.Ab.kReg Go.Ab.aThen Go.Ab.aBlk Go.Ab.acond Go.Ab.aguard Go.Ab.astep Go.Ab.AStepX Go.Ab.aRet
attribute [local irreducible] shaG
section
variable [W : W32]
theorem refLook_spec (a : Alg) (key : Tg) (msg : List UInt8) (hl : a.macs.length ≤ 1000000) (hm : ∀ e ∈ a.macs, e.msg.length ≤ 100000) (k : Nat) :
  ACall Tryz.prog 94 [algAV a, tagAV key, .slice none (msg.map byteAV)] k [] (entAV (lookO a key msg)) [] := by
 have c1 := entry_spec a key msg hl hm
 obtain ⟨fr, sd, fs, L, B⟩ := a
 simp only at hl hm c1
 unfold lookO
 cases fr with
 | true =>
  simp only [if_true]
  generalize entL key msg L = R at *
  unfold entAV at *
  simp only [algAV] at *
  clear hm
  refine Bd Tryz.func94 Tryz.ntmps94 fun σ N hp hpn hk hkn hfree => ?_
  have hcs := And.intro c1 True.intro
  clear c1
  exact W0
 | false =>
  simp only [Bool.false_eq_true, if_false]
  clear c1 hm
  by_cases h1 : 4096 < msg.length
  ·rw [if_pos h1]
   have h1i : (4096 : Int) < (msg.length : Int) := by omega
   unfold entAV
   simp only [Option.getD_none, Option.isSome_none, algAV]
   refine Bd Tryz.func94 Tryz.ntmps94 fun σ N hp hpn hk hkn hfree => ?_
   exact W0
  ·rw [if_neg h1]
   have h1i : ¬ (4096 : Int) < (msg.length : Int) := by omega
   have c2 := Hmac_spec key.1 msg (by rw [key.2]; decide) (by omega)
   generalize hmacT key.1 msg = t at *
   have hs1 := tagAV_sz key
   have hs2 := tagAV_cell key
   obtain ⟨K, hK⟩ := key
   have hkA : tagAV ⟨K, hK⟩ = .agg (K.map byteAV) := rfl
   simp only [hkA] at hs1 hs2 c2 ⊢
   clear hkA
   have hs3 : AV.celll (K.map byteAV) = true := celll_bytes K
   have htk : (K.map byteAV).take 32 = K.map byteAV := List.take_of_length_le (by rw [List.length_map]; omega)
   unfold entAV
   simp only [Option.getD_some, Option.isSome_some, algAV]
   refine Bd Tryz.func94 Tryz.ntmps94 fun σ N hp hpn hk hkn hfree => ?_
   have hcs := And.intro c2 True.intro
   clear c2
   exact W0
end
end Go.Proofs.YtdmjpolnbmoehaaGreatDoor

namespace Go.Ab
open Go.RowKit
attribute [local irreducible] Go.Ab.tyAV Go.Ab.aw Go.Ab.aops Go.Ab.kReg Go.Ab.aThen Go.Ab.aBlk Go.Ab.acond Go.Ab.aguard Go.Ab.astep Go.Ab.AStepX Go.Ab.aRet
mutual
def AV.shut : AV → Bool
 | .any => true
 | .lit _ => true
 | .nils => true
 | .slice none xs => AV.shutl xs
 | .slice (some _) _ => false
 | .agg xs => AV.shutl xs
 | .ptr _ _ _ => false
 | .view x => AV.shut x
 | .fn _ xs => AV.shutl xs
 | .tup xs => AV.shutl xs
 | .clip xs => AV.shutl xs
 | .ms _ _ _ _ _ => false
 | .mp _ _ _ _ => false
 | .bs _ _ _ _ _ => false
 | .iface _ x => AV.shut x
def AV.shutl : List AV → Bool
 | [] => true
 | x :: r => AV.shut x && AV.shutl r
end
theorem AV.shutl_at {xs : List AV} (h : AV.shutl xs = true) : ∀ {i : Nat} {x : AV}, xs[i]? = some x → x.shut = true := by
 induction xs with
 | nil => intro i x hx; simp at hx
 | cons y r ih =>
  intro i x hx
  simp only [AV.shutl, Bool.and_eq_true] at h
  cases i with
  | zero => simp at hx; subst hx; exact h.1
  | succ i => exact ih h.2 (by simpa using hx)
theorem AV.shutl_map {α : Type} (f : α → AV) (hf : ∀ x, (f x).shut = true) : ∀ l : List α, AV.shutl (l.map f) = true
 | [] => rfl
 | x :: r => by simp only [List.map_cons, AV.shutl, hf x, AV.shutl_map f hf r, Bool.and_self]
theorem Rep.shut {g g' : Ghost} (hG : ∀ b o u, g.G b o = some u → g'.G b o = some u) {x : AV} {v : Value} (h : Rep g x v) : x.shut = true → Rep g' x v := by
 induction h with
 | any v h => exact fun _ => .any v h
 | lit v h => exact fun _ => .lit v h
 | nils => exact fun _ => .nils
 | slice own xs vs A c size hl hc hm h hs hcell hown ih =>
  intro hx
  cases own with
  | some o => simp [AV.shut] at hx
  | none =>
   simp only [AV.shut] at hx
   exact .slice none xs vs A c size hl hc hm (fun i x v h1 h2 => ih i x v h1 h2 (AV.shutl_at hx h1)) hs (hcell.imp (fun h => h) (fun ⟨b, o, h1, h2⟩ => ⟨b, o, h1, fun j u hu => hG _ _ _ (h2 j u hu)⟩)) (fun id hid => by cases hid)
 | agg xs vs hl h ih => exact fun hx => .agg xs vs hl fun i x v h1 h2 => ih i x v h1 h2 (AV.shutl_at (by simpa only [AV.shut] using hx) h1)
 | ptr id path off b h => intro hx; simp [AV.shut] at hx
 | view x v b o h hc ih => exact fun hx => .view x v b o (ih (by simpa only [AV.shut] using hx)) fun j u hu => hG _ _ _ (hc j u hu)
 | fn f xs vs hl h ih => exact fun hx => .fn f xs vs hl fun i x v h1 h2 => ih i x v h1 h2 (AV.shutl_at (by simpa only [AV.shut] using hx) h1)
 | tup xs vs hl h ih => exact fun hx => .tup xs vs hl fun i x v h1 h2 => ih i x v h1 h2 (AV.shutl_at (by simpa only [AV.shut] using hx) h1)
 | clip xs A n h ih => exact fun hx => .clip xs A n (ih (by simpa only [AV.shut] using hx))
 | ms id ver size lo len ver' u A c hm hv hl hc h => intro hx; simp [AV.shut] at hx
 | mp id ver path off ver' u a hm hv h => intro hx; simp [AV.shut] at hx
 | bs id path lo off len b c h hl hc => intro hx; simp [AV.shut] at hx
 | iface t x v h ih => exact fun hx => .iface t x v (ih (by simpa only [AV.shut] using hx))
theorem Sim.grown {W0 : World} {g : Ghost} {σ : Nat → Ent} {n : Nat} {w w' : World} (h : Sim W0 g σ n w) (hb : Below w.heap.size w w') : Sim W0 g σ n w' := by
 refine ⟨h.below.trans (hb.mono h.below.size), fun b o v hv => ?_, h.bound, fun id => (h.ents id).same g.le_refl rfl rfl rfl rfl fun b hbk => ⟨hb.block b (h.fresh id b hbk).2, fun _ => rfl⟩, h.sep, fun i b hbk => ⟨(h.fresh i b hbk).1, Nat.lt_of_lt_of_le (h.fresh i b hbk).2 hb.size⟩⟩
 have hc := h.imm b o v hv
 have hlt : b < w.heap.size := World.block_lt_of_cell? w ⟨b, o, none⟩ hc
 unfold World.cell? at hc ⊢
 rw [hb.block b hlt]
 exact hc
theorem Sim.toG0 {W0 : World} {g : Ghost} {σ : Nat → Ent} {n : Nat} {w : World} (h : Sim W0 g σ n w) : ∀ b o u, g.G b o = some u → (g0 w).G b o = some u := fun b o u hu => by
 have hc := h.imm b o u hu
 have hlt : b < w.heap.size := World.block_lt_of_cell? w ⟨b, o, none⟩ hc
 simp only [g0, if_pos hlt]
 exact hc
mutual
inductive Lend (pre : Foot) : AV → AV → Prop where
 | shut {x y : AV} : AV.le x y → y.shut = true → Lend pre x y
 | ms {r ver size k : Nat} {e : TypeId} {xs : List AV} : (r, Ent.mrow ver e size xs) ∈ pre → k = xs.length → AV.shutl xs = true → Lend pre (.ms r ver size 0 k) (.slice none xs)
 | agg {xs ys : List AV} : LendL pre xs ys → Lend pre (.agg xs) (.agg ys)
inductive LendL (pre : Foot) : List AV → List AV → Prop where
 | nil : LendL pre [] []
 | cons {x y : AV} {xs ys : List AV} : Lend pre x y → LendL pre xs ys → LendL pre (x :: xs) (y :: ys)
end
mutual
theorem Lend.rep {W0 : World} {g : Ghost} {σ : Nat → Ent} {n : Nat} {w : World} (hS : Sim W0 g σ n w) {pre : Foot} (hp : ∀ p ∈ pre, σ p.1 = p.2) : ∀ {x y : AV}, Lend pre x y → ∀ v, Rep g x v → Rep (g0 w) y v
 | _, _, .shut hle hy, v, hr => (hle g v hr).shut hS.toG0 hy
 | _, _, .ms (r := r) (ver := ver) (size := size) (e := e) (xs := xs) hm hk hx, v, hr => by
  subst hk
  obtain ⟨u, vs, hmr, hlen, hvl, hvr, hvs, hown⟩ := hS.mrowAt (hp _ hm)
  cases hr with
  | ms _ _ _ _ _ ver' u' A c hm' hv' hl hc h =>
   rw [hmr] at hm'; cases hm'
   obtain ⟨A0, n0, c0, rfl, j1, j2, j3⟩ := h rfl
   obtain ⟨rfl, rfl⟩ := j2 rfl
   refine .slice none xs vs A c size hvl hl hc (fun i x v h1 h2 => (hvr i x v h1 h2).shut hS.toG0 (AV.shutl_at hx h1)) hvs ?_ (fun id hid => by cases hid)
   by_cases h0 : xs.length = 0
   ·exact .inl h0
   ·obtain ⟨b, hb, _⟩ := j3 (by omega)
    refine .inr ⟨b, 0, hb, fun j u hu => ?_⟩
    have hc' := hown.cells (g := b) (by rw [hb]; rfl) j u hu
    have hlt : b < w.heap.size := World.block_lt_of_cell? w ⟨b, j, none⟩ hc'
    simp only [g0, if_pos hlt, Nat.zero_add]
    exact hc'
 | _, _, .agg hL, v, hr => by
  cases hr with
  | agg _ vs hvl hvr =>
   obtain ⟨k1, k2⟩ := LendL.rep hS hp hL vs hvl hvr
   exact .agg _ vs k1 k2
theorem LendL.rep {W0 : World} {g : Ghost} {σ : Nat → Ent} {n : Nat} {w : World} (hS : Sim W0 g σ n w) {pre : Foot} (hp : ∀ p ∈ pre, σ p.1 = p.2) : ∀ {xs ys : List AV}, LendL pre xs ys → ∀ vs : List Value, vs.length = xs.length → (∀ (i : Nat) (x : AV) (v : Value), xs[i]? = some x → vs[i]? = some v → Rep g x v) →
  vs.length = ys.length ∧ ∀ (i : Nat) (y : AV) (v : Value), ys[i]? = some y → vs[i]? = some v → Rep (g0 w) y v
 | _, _, .nil, vs, hl, _ => ⟨hl, fun i y v h _ => by simp at h⟩
 | _, _, .cons h hL, vs, hl, hr => by
  cases vs with
  | nil => simp at hl
  | cons u r =>
   obtain ⟨k1, k2⟩ := LendL.rep hS hp hL r (by simpa using hl) (fun i x v h1 h2 => hr (i + 1) x v (by simpa using h1) (by simpa using h2))
   refine ⟨by simp [k1], fun i y v h1 h2 => ?_⟩
   cases i with
   | zero => simp at h1 h2; subst h1; subst h2; exact Lend.rep hS hp h u (hr 0 _ u rfl rfl)
   | succ i => exact k2 i y v (by simpa using h1) (by simpa using h2)
end
section
variable {P : Program} {o : Oper} {s : Slots} {id : Nat}
theorem holds_lend {x : Operand} {args : Array Operand} {ts : Array TypeId} {f : FuncId} {pre : Foot} {as0 : List AV} {v : Value} (ho : o.op = .call { callee := .value x, args := args, argTypes := ts }) (hx : aeval s x = .fn f [])
  (hcb : callable P f = true) (hv : v.oneCell' = true) (hp : ∀ p ∈ pre, p.2 ≠ .none) (hL : LendL pre (args.toList.map (aeval s)) as0)
  (hrun : ∀ (W0 : World) (g : Ghost) (σ : Nat → Ent) (n : Nat) (w : World) (vals : List Value), Sim W0 g σ n w → (∀ p ∈ pre, σ p.1 = p.2) → vals.length = as0.length → (∀ (i : Nat) (y : AV) (u : Value), as0[i]? = some y → vals[i]? = some u → Rep (g0 w) y u) →
   Calls P f vals.toArray w fun e w' => e = .returned v ∧ Below w.heap.size w w') : OpHolds P o s id pre (.lit v) [] := by
 refine ⟨hp, fun q hq => absurd hq List.not_mem_nil, fun W0 g σ n w a hS hr hf hn hpre => ?_⟩
 have h1 := hr x (by simp [ho, Op.operands, Call.operands])
 have h2 : ∀ y ∈ args, Rep g (aeval s y) (a.eval y) := fun y hy => hr y (by simp [ho, Op.operands, Call.operands, hy])
 rw [hx] at h1
 generalize hvx : a.eval x = vx at h1
 cases h1 with
 | fn _ _ vs hvl hvr =>
  obtain rfl : vs = [] := List.eq_nil_of_length_eq_zero (by simpa using hvl)
  have hexec : (execOp a.eval o).run P w = .ok (.enter f ((args.toList.map a.eval).toArray)) w := by
   simp only [execOp, ho, resolve, hvx, Deferred.ofValue, Sem.run_bind, Sem.run_pure, Result.andThen_ok, invoke]
   rw [run_callFunc hcb]
   congr 2
   simp [← Array.toList_map]
  unfold runsTo
  rw [hexec]
  obtain ⟨k1, k2⟩ := LendL.rep hS hpre hL (args.toList.map a.eval) (by simp) (fun i y u h1 h2' => by
   rw [List.getElem?_map] at h1 h2'
   cases hz : args.toList[i]? with
   | none => rw [hz] at h1; cases h1
   | some z =>
    rw [hz] at h1 h2'
    cases h1; cases h2'
    exact h2 z (by have := List.mem_of_getElem? hz; simpa using this))
  refine (hrun W0 g σ n w _ hS hpre k1 k2).mono ?_
  rintro e w' ⟨rfl, hb⟩
  exact ⟨v, rfl, g, g.le_refl, hS.grown hb, .lit _ hv⟩
end
section
variable {P : Program} {ops : Array Oper} {m i n : Nat} {T : Trace} {k : Cfg → Trace → Prop} {ty : TypeId} {pos : String} {after : Array Edge} {r : List Oper} {s : Slots} {σ : Nat → Ent}
theorem go_callLend {t : Tmp} {x : Operand} {args : Array Operand} {ts : Array TypeId} {f : FuncId} {pre : Foot} {v : Value} {as0 : List AV} (hc : ACall P f as0 0 [] (.lit v) []) (hx : aeval s x = .fn f []) (hv : v.oneCell' = true) (hn : ∀ p ∈ pre, p.2 ≠ .none) (hL : LendL pre (args.toList.map (aeval s)) as0) (hp : ∀ p ∈ pre, σ p.1 = p.2)
  (h : aops P ops m r (i + 1) (addT i ⟨pre, .lit v, []⟩ T) k ⟨upd s t (.lit v), wr σ [], n⟩) : aops P ops m (⟨some t, .call { callee := .value x, args := args, argTypes := ts }, ty, pos, after, none⟩ :: r) i T k ⟨s, σ, n⟩ :=
 go_own (st := ⟨pre, .lit v, []⟩) (fun _o ho => ⟨holds_lend ho hx hc.1 hv hn hL fun _W0 _g _σ _n w vals _ _ h1 h2 => hc.walk w vals h1 h2, hp⟩) h
theorem go_callLendG {t : Tmp} {x : Operand} {args : Array Operand} {ts : Array TypeId} {f : FuncId} {pre : Foot} {v : Value} {as0 : List AV} {d hh : Nat} {X : AV} (hc : ACall P f as0 0 [(1, .glob hh X)] (.lit v) []) (hX : X.shut = true) (hd : (d, Ent.glob hh X) ∈ pre) (hx : aeval s x = .fn f []) (hv : v.oneCell' = true) (hn : ∀ p ∈ pre, p.2 ≠ .none)
  (hL : LendL pre (args.toList.map (aeval s)) as0) (hp : ∀ p ∈ pre, σ p.1 = p.2)
  (h : aops P ops m r (i + 1) (addT i ⟨pre, .lit v, []⟩ T) k ⟨upd s t (.lit v), wr σ [], n⟩) : aops P ops m (⟨some t, .call { callee := .value x, args := args, argTypes := ts }, ty, pos, after, none⟩ :: r) i T k ⟨s, σ, n⟩ :=
 go_own (st := ⟨pre, .lit v, []⟩) (fun o ho => ⟨holds_lend ho hx hc.1 hv hn hL fun W0 g σ' n w vals hS hp' h1 h2 => by
  have hE := hS.ents d
  rw [hp' _ hd] at hE
  obtain ⟨_, _, _, _, hv'⟩ := hE
  have hv2 := hv'.shut hS.toG0 (by simpa only [AV.shut] using hX)
  refine (hc.2.2.2 w (g1w w) _ 2 w vals (sim1 w hh X hv2) h1 (fun i x u hx hu => (h2 i x u hx hu).mono (g1w_le w)) (upd_ne _ _ _ _ (by omega)) (by omega) (fun p hp => by simp at hp; subst hp; simp [upd_same])).mono ?_
  rintro e w' ⟨u, rfl, g', _, hS', hu⟩
  rw [rep_lit_inv hu]
  exact ⟨rfl, hS'.below⟩, hp⟩) h
end
theorem go_nilMIn {P : Program} {N : Nat} {b : Code} {Q : AExit → Cfg → Prop} {s : Slots} {σ : Nat → Ent} {n : Nat} (id : Nat) (path : List Nat) (e : TypeId) (size : Nat) {bt : TypeId} {c : AV} (hσ : σ id = .box bt c) (hc : c.get path = some .nils)
  (h : aw P N b Q ⟨s, upd (upd σ n (.mrow 0 e size [])) id (.box bt (c.put path (.ms n 0 size 0 0))), n + 1⟩) : aw P N b Q ⟨s, σ, n⟩ := by
 refine go_ghost (fun W0 g a w hS => ?_) h
 have hf : σ n = .none := hS.sim.bound n (Nat.le_refl _)
 obtain ⟨hle1, hS1⟩ := (hS.sim.more (n' := n + 1) (Nat.le_succ n)).addM (k := n) (e := e) (size := size) (u := .slice none 0 0) (xs := []) (vs := []) hf (Nat.lt_succ_self n) (ownsR_nil w _ e size) rfl rfl (fun i x v h _ => by simp at h) (fun v hv => by simp at hv) (fun b hb => by simp [Value.ownBlock] at hb) (fun b hb => by simp [Value.ownBlock] at hb)
 refine ⟨_, hle1, hS.turnIn hle1 hS1 (Nat.le_succ n) hσ (by rw [upd_ne _ _ _ _ (fun e => by rw [e, hf] at hσ; cases hσ)]; exact hσ) hc (fun u hu => ?_) rfl rfl⟩
 cases hu
 exact .ms n 0 size 0 0 0 _ none 0 (by simp [upd_same]; rfl) (Nat.le_refl _) (Nat.le_refl _) (by unfold maxLen; omega) fun _ => ⟨_, _, _, rfl, by omega, fun _ => ⟨rfl, rfl⟩, fun h => absurd h (by omega)⟩
attribute [go_sem] AV.shut AV.shutl
end Go.Ab

namespace Go.Proofs.YtdmjpolnbmoehaaGreatDoor
open Go.Ab
attribute [local irreducible] Go.Ab.tyAV Go.Ab.aw Go.Ab.aops Go.Ab.kReg Go.Ab.aThen Go.Ab.aBlk Go.Ab.acond Go.Ab.aguard Go.Ab.astep Go.Ab.AStepX Go.Ab.aRet
attribute [local irreducible] shaG
def blankBo (d : Di) : Bo := ⟨d.ticket, d.conds, zeroTag⟩
def shellB (p : Pa) (gs : List Di) (r : Rq) : Bu := ⟨r, p.epoch, p.serial, p.cavs, zeroTag, gs.map blankBo⟩
def shX (gs : List Di) (u : Nat) : List AV := ((gs.take u).map blankBo).map boAV
theorem shX_len {gs : List Di} {u : Nat} (h : u ≤ gs.length) : (shX gs u).length = u := by unfold shX; simp; omega
theorem shX_succ {gs : List Di} {u : Nat} {z : Di} (h : u < gs.length) (hz : gs[u] = z) : shX gs u ++ [.agg [.slice none (z.ticket.map byteAV), .slice none (z.conds.map prAV), tagAV zeroTag]] = shX gs (u + 1) := by
 unfold shX
 rw [List.take_add_one, List.getElem?_eq_getElem h, hz]; simp; rfl
theorem shX_all {gs : List Di} : shX gs gs.length = (gs.map blankBo).map boAV := by unfold shX; rw [List.take_length]
@[go_sem] theorem tagAV_shut (t : Tg) : (tagAV t).shut = true := AV.shutl_map byteAV (fun _ => rfl) t.1
@[go_sem] theorem bytes_shut (l : List UInt8) : AV.shutl (l.map byteAV) = true := AV.shutl_map byteAV (fun _ => rfl) l
@[go_sem] theorem prAV_shut (p : Pr) : (prAV p).shut = true := by simp only [prAV, AV.shut, AV.shutl, Bool.and_self]
@[go_sem] theorem prs_shut (l : List Pr) : AV.shutl (l.map prAV) = true := AV.shutl_map prAV prAV_shut l
@[go_sem] theorem caAV_shut (p : Ca) : (caAV p).shut = true := by simp only [caAV, AV.shut, AV.shutl, prAV_shut, bytes_shut, Bool.and_self]
@[go_sem] theorem cas_shut (l : List Ca) : AV.shutl (l.map caAV) = true := AV.shutl_map caAV caAV_shut l
@[go_sem] theorem boAV_shut (p : Bo) : (boAV p).shut = true := by simp only [boAV, AV.shut, AV.shutl, tagAV_shut, prs_shut, bytes_shut, Bool.and_self]
@[go_sem] theorem bos_shut (l : List Bo) : AV.shutl (l.map boAV) = true := AV.shutl_map boAV boAV_shut l
section
variable [W : W32]
def bindL (leaf : Tg) (r : Rq) : List Di → Nat → Alg → List Bo → Alg × List Bo
 | [], _, a, D => (a, D)
 | d :: L, u, a, D => bindL leaf r L (u + 1) (bindS a d leaf r).1 (D.set u (bindS a d leaf r).2.1)
def prfS (a : Alg) (p : Pa) (r : Rq) : Alg × Tg × Nat := macS a p.tag (reqM r.gate.toNat r.nonce.toNat)
def presS (a : Alg) (p : Pa) (gs : List Di) (r : Rq) : Alg × Bu :=
 ((bindL p.tag r gs 0 (prfS a p r).1 (gs.map blankBo)).1, ⟨r, p.epoch, p.serial, p.cavs, (prfS a p r).2.1, (bindL p.tag r gs 0 (prfS a p r).1 (gs.map blankBo)).2⟩)
theorem bindS_ok {a : Alg} {m : Nat} (ha : AlgIn a m) (hm : m ≤ 60000) (d : Di) (leaf : Tg) {r : Rq} (hr : rqB r = true) :
  (macS a d.tag (bindM leaf r.gate.toNat r.nonce.toNat)).2.2 = 0 ∧ bindS a d leaf r = ((macS a d.tag (bindM leaf r.gate.toNat r.nonce.toNat)).1, ⟨d.ticket, d.conds, (macS a d.tag (bindM leaf r.gate.toNat r.nonce.toNat)).2.1⟩, 0) := by
 obtain ⟨⟨r1, r2⟩, r3, r4⟩ := rqB_iff.1 hr
 have hl := bindM_len leaf (g := r.gate.toNat) (n := r.nonce.toNat) (by omega) (by omega)
 have h0 := macS_ok (a := a) d.tag (msg := bindM leaf r.gate.toNat r.nonce.toNat) (by omega) (by have := ha.ml; omega)
 refine ⟨h0, ?_⟩
 unfold bindS
 rw [if_neg (by rw [hr]; simp), if_pos h0]
theorem prfS_ok {a : Alg} {m : Nat} (ha : AlgIn a m) (hm : m ≤ 60000) (p : Pa) {r : Rq} (hr : rqB r = true) : (prfS a p r).2.2 = 0 := by
 obtain ⟨⟨r1, r2⟩, r3, r4⟩ := rqB_iff.1 hr
 have hl := reqM_len (g := r.gate.toNat) (n := r.nonce.toNat) (by omega) (by omega)
 exact macS_ok (a := a) p.tag (msg := reqM r.gate.toNat r.nonce.toNat) (by omega) (by have := ha.ml; omega)
theorem bindL_len {leaf : Tg} {r : Rq} : ∀ (gs : List Di) (u : Nat) (a : Alg) (D : List Bo), (bindL leaf r gs u a D).2.length = D.length
 | [], _, _, _ => rfl
 | d :: L, u, a, D => by rw [bindL, bindL_len]; simp
set_option maxHeartbeats 8000000 in
theorem refPres_spec (a : Alg) (m : Nat) (ha : AlgIn a m) (p : Pa) (gs : List Di) (r : Rq) (hg : gs.length ≤ 100) (hm : m ≤ 50000) (hb : BuIn (shellB p gs r)) (h0 : chkS (shellB p gs r) = 0) (k : Nat) :
  ACall Tryz.prog 57 [algAV a, paAV p, .slice none (gs.map diAV), rqAV r] k [] (.tup [algAV (presS a p gs r).1, buAV (presS a p gs r).2, .lit (.int .i64 0)]) [] := by
 have hr : rqB r = true := (chk_valid hb h0).1.rq
 have hc := refChk_spec (shellB p gs r) hb 0
 rw [h0] at hc
 have hP := prfS_ok ha (by omega) p hr
 obtain ⟨⟨r1, r2⟩, r3, r4⟩ := rqB_iff.1 hr
 have c1 := refReqM_spec r.gate.toNat r.nonce.toNat (by omega) (by omega)
 have c2 := Mac_spec a p.tag (reqM r.gate.toNat r.nonce.toNat) (by have := ha.ml; omega) ha.mm
 have hin : AlgIn (prfS a p r).1 (m + 1) := macS_in ha _ _
 have hPd : macS a p.tag (reqM r.gate.toNat r.nonce.toNat) = prfS a p r := rfl
 rw [hPd] at c2
 clear hPd
 unfold mkAV at c2
 rw [hP] at c2
 unfold presS
 clear hb h0 ha hP
 generalize prfS a p r = M at *
 obtain ⟨aM, tM, eM⟩ := M
 obtain ⟨ep, se, L, tg⟩ := p
 obtain ⟨rg, rn⟩ := r
 simp only at *
 obtain ⟨A', D', hrun⟩ : ∃ A' D', bindL tg ⟨rg, rn⟩ gs 0 aM (gs.map blankBo) = (A', D') := ⟨_, _, rfl⟩
 have hDl : D'.length = gs.length := by have := bindL_len (leaf := tg) (r := ⟨rg, rn⟩) gs 0 aM (gs.map blankBo); rw [hrun] at this; simpa using this
 rw [hrun]
 simp only
 have hpA : paAV ⟨ep, se, L, tg⟩ = .agg [.lit (.int .i64 ep), .lit (.int .i64 se), .slice none (L.map caAV), tagAV tg] := rfl
 have hrA : rqAV ⟨rg, rn⟩ = .agg [.lit (.int .i64 rg), .lit (.int .i64 rn)] := rfl
 have hbA : buAV ⟨⟨rg, rn⟩, ep, se, L, tM, D'⟩ = .agg [.agg [.lit (.int .i64 rg), .lit (.int .i64 rn)], .lit (.int .i64 ep), .lit (.int .i64 se), .slice none (L.map caAV), tagAV tM, .slice none (D'.map boAV)] := rfl
 have hsA : buAV (shellB ⟨ep, se, L, tg⟩ gs ⟨rg, rn⟩) = .agg [.agg [.lit (.int .i64 rg), .lit (.int .i64 rn)], .lit (.int .i64 ep), .lit (.int .i64 se), .slice none (L.map caAV), tagAV zeroTag, .slice none ((gs.map blankBo).map boAV)] := rfl
 rw [hsA] at hc
 rw [hpA, hrA, hbA]
 rw [show ((rg.toNat : Nat) : Int) = rg by omega, show ((rn.toNat : Nat) : Int) = rn by omega] at c1
 generalize reqM rg.toNat rn.toNat = rm at *
 clear hpA hbA hsA
 have hb24 : gs.length * 80 ≤ 140737488355328 := by omega
 have hb25 : gs.length ≤ 140737488355327 := by omega
 refine Bd Tryz.func57 Tryz.ntmps57 fun σ N hp hpn hk hkn hfree => ?_
 refine Wk ?_
 refine go_nilMIn (N + 14) [5] 67 34 (bt := 97) (c := .agg [.agg [.lit (.int .i64 rg), .lit (.int .i64 rn)], .lit (.int .i64 ep), .lit (.int .i64 se), .slice none (L.map caAV), tagAV zeroTag, .nils]) (by simp (disch := omega) [go_sem, *, -List.reduceReplicate]; try rfl) rfl ?_
 refine go_loopF mixed (by kernel_rfl) [12, 25, 26, 27, 28, 29, 30, 31, 32, 33, 34, 35, 36, 37, 38, 39, 40, 41, 42, 43, 44, 45, 46] [N+14, N+17] (fun m_ s_ σ_ n_ => ∃ (u : Nat), m_ = gs.length - u ∧ s_ 12 = .lit (.int .i64 u) ∧ σ_ (N+14) = .box 97 (.agg [.agg [.lit (.int .i64 rg), .lit (.int .i64 rn)], .lit (.int .i64 ep), .lit (.int .i64 se), .slice none (L.map caAV), tagAV zeroTag, .ms (N + 17) u 34 0 u]) ∧ σ_ (N+17) = .mrow u 67 34 (shX gs u) ∧ (u ≤ gs.length)) ⟨_, 0, rfl, WF, WF, WF, WC⟩ ?_
 intro m_1 s_1 σ_1 n_1 hs_1 hf_1 hn_1 hI_1
 obtain ⟨u, hm_1, h1_12, e1_0, e1_1, hu⟩ := hI_1
 have h1_2 := KS hs_1 2
 have h1_4 := KS hs_1 4
 have h1_5 := KS hs_1 5
 have h1_7 := KS hs_1 7
 have h1_8 := KS hs_1 8
 have h1_9 := KS hs_1 9
 have h1_10 := KS hs_1 10
 have h1_11 := KS hs_1 11
 have k1_0 := KE hf_1 (N)
 have k1_1 := KE hf_1 (N + 1)
 have k1_2 := KE hf_1 (N + 2)
 have k1_3 := KE hf_1 (N + 3)
 have k1_4 := KE hf_1 (N + 4)
 have hlow := KL (N := N) (σ := σ) hf_1
 by_cases hul : u = gs.length
 ·subst hul
  rw [shX_all] at e1_1
  have hD0 : (gs.map blankBo).length = gs.length := List.length_map ..
  clear hu
  generalize gs.map blankBo = D0 at *
  iterate 2 refine Wz ?_
  (apply go_region; · (simp only [List.length_cons, List.length_nil, Nat.reduceAdd, Nat.add_assoc]; rfl))
  refine Wm ?_
  refine go_callLend (pre := [(N + 17, .mrow gs.length 67 34 (D0.map boAV))]) hc (by simp (disch := omega) [go_sem, *, -List.reduceReplicate]) rfl (by simp) (by
   simp (disch := omega) [go_sem, *, -List.reduceReplicate]
   exact .cons (.agg (.cons (.shut (AV.le_refl _) rfl) (.cons (.shut (AV.le_refl _) rfl) (.cons (.shut (AV.le_refl _) rfl) (.cons (.shut (AV.le_refl _) (cas_shut L)) (.cons (.shut (AV.le_refl _) (tagAV_shut _)) (.cons (.ms (List.mem_singleton.2 rfl) (by simp [hD0]) (bos_shut D0)) .nil))))))) .nil) (by simp (disch := omega) [go_sem, *, -List.reduceReplicate]) ?_
  refine Wm ?_
  have hcs := And.intro c1 (And.intro c2 True.intro)
  clear c1 c2 hc
  refine Wk ?_
  clear hcs
  refine go_loopF mixed (by kernel_rfl) [10, 15, 16, 71, 72, 73, 74, 75, 76, 77, 78, 79, 80, 81, 82, 83, 84, 85, 86, 87, 88, 89, 90, 91, 92, 93, 94, 95, 96, 97, 98] [N, N+14, N+17] (fun m_ s_ σ_ n_ => ∃ (v : Nat) (A : Alg) (D : List Bo), m_ = gs.length - v ∧ s_ 16 = .lit (.int .i64 v) ∧ σ_ (N) = .box 38 (algAV A) ∧ σ_ (N+14) = .box 97 (.agg [.agg [.lit (.int .i64 rg), .lit (.int .i64 rn)], .lit (.int .i64 ep), .lit (.int .i64 se), .slice none (L.map caAV), tagAV tM, .ms (N + 17) gs.length 34 0 gs.length]) ∧ σ_ (N+17) = .mrow gs.length 67 34 (D.map boAV) ∧ (v ≤ gs.length) ∧ (AlgIn A (m + 1 + v)) ∧ (D.length = gs.length) ∧ (bindL tg ⟨rg, rn⟩ (gs.drop v) v A D = (A', D'))) ⟨_, 0, aM, D0, rfl, WF, WF, WF, WF, WC, WC, WC, WC⟩ ?_
  intro m_2 s_2 σ_2 n_2 hs_2 hf_2 hn_2 hI_2
  obtain ⟨v, A, D, hm_2, h2_16, e2_0, e2_1, e2_2, hv, hA, hD, hrun⟩ := hI_2
  have h2_2 := KS hs_2 2
  have h2_4 := KS hs_2 4
  have h2_5 := KS hs_2 5
  have h2_7 := KS hs_2 7
  have h2_8 := KS hs_2 8
  have h2_9 := KS hs_2 9
  have h2_11 := KS hs_2 11
  have k2_0 := KE hf_2 (N + 1)
  have k2_1 := KE hf_2 (N + 2)
  have k2_2 := KE hf_2 (N + 3)
  have k2_3 := KE hf_2 (N + 4)
  have hlow := KL (N := N) (σ := σ) hf_2
  clear hin hD0
  by_cases hvl : v = gs.length
  ·subst hvl
   rw [List.drop_length, bindL, Prod.mk.injEq] at hrun
   obtain ⟨rfl, rfl⟩ := hrun
   clear hv hA
   iterate 2 refine Wz ?_
   refine go_freezeIn (N + 14) [5] (r := N + 17) (ver := gs.length) (size := 34) (e := 67) (xs := D.map boAV) (k := gs.length) (by simp (disch := omega) [go_sem, *, -List.reduceReplicate]; try exact ⟨rfl, rfl⟩) (by simp (disch := omega) [go_sem, *, -List.reduceReplicate]) (by simp (disch := omega) [go_sem, *, -List.reduceReplicate]) (by simp [hD]) ?_
   exact WT
  ·have hv1 : v < gs.length := by omega
   have hv1i : (v : Int) < (gs.length : Int) := by omega
   obtain ⟨z, hz⟩ : ∃ z, gs[v] = z := ⟨_, rfl⟩
   have hzm : (gs.map diAV)[v]? = some (diAV z) := by rw [List.getElem?_map, List.getElem?_eq_getElem hv1, hz]; rfl
   rw [List.drop_eq_getElem_cons hv1, hz, bindL] at hrun
   have c3 := refBind_spec A (m + 1 + v) hA (by omega) z tg ⟨rg, rn⟩
   have hBo := bindS_ok hA (by omega) z tg hr
   have hin2 := bindS_in hA z tg ⟨rg, rn⟩
   have hB0 : (bindS A z tg ⟨rg, rn⟩).2.2 = 0 := by rw [hBo.2]
   clear hBo
   unfold mbAV at c3
   rw [hB0] at c3
   clear hB0
   generalize bindS A z tg ⟨rg, rn⟩ = B at *
   obtain ⟨aB, bB, eB⟩ := B
   rw [hrA] at c3
   simp only at c3 hrun hin2
   have hv2 : v < D.length := by omega
   obtain ⟨y, hy⟩ : ∃ y, D[v] = y := ⟨_, rfl⟩
   have hy0 : D[v]? = some y := by rw [List.getElem?_eq_getElem hv2, hy]
   have hym : (D.map boAV)[v]? = some (boAV y) := by rw [List.getElem?_map, hy0]; rfl
   have hysz : AV.szl ((D.map boAV).take v) = v * 34 := by
    rw [← List.map_take, AV.szl_uniform _ 34 (fun x hx => by obtain ⟨c, _, rfl⟩ := List.mem_map.1 hx; exact boAV_sz c), List.length_map, List.length_take, Nat.min_eq_left (by omega)]
   have hyo : (AV.agg (D.map boAV)).offs [v] = v * 34 := by simp only [AV.offs, hym, hysz]; rfl
   clear hy
   have hset : (D.map boAV).set v (boAV bB) = (D.set v bB).map boAV := by rw [List.map_set]
   have hsl : (D.set v bB).length = gs.length := by rw [List.length_set]; exact hD
   generalize D.set v bB = D2 at *
   have hcs := And.intro c3 True.intro
   clear c3
   refine Wk ?_
   exact ⟨WS, WG, WN, _, (show gs.length - (v + 1) < m_2 by omega), v + 1, aB, D2, rfl, WF, WF, WF, WF, WC, WC, WC, WC⟩
 ·have hu1 : u < gs.length := by omega
  have hu1i : (u : Int) < (gs.length : Int) := by omega
  obtain ⟨z, hz⟩ : ∃ z, gs[u] = z := ⟨_, rfl⟩
  have hzm : (gs.map diAV)[u]? = some (.agg [.slice none (z.ticket.map byteAV), .slice none (z.conds.map prAV), tagAV z.tag]) := by rw [List.getElem?_map, List.getElem?_eq_getElem hu1, hz]; rfl
  have htk := shX_succ hu1 hz
  have htk2 : (shX gs u).take u ++ [.agg [.slice none (z.ticket.map byteAV), .slice none (z.conds.map prAV), tagAV zeroTag]] = shX gs (u + 1) := by rw [List.take_of_length_le (by rw [shX_len hu]; exact Nat.le_refl _)]; exact htk
  have hXl := shX_len hu
  have hb26 : (u + 1) * 80 ≤ 140737488355328 := by omega
  have hb27 : u ≤ 140737488355327 := by omega
  refine Wk ?_
  exact ⟨WS, WG, WN, _, (show gs.length - (u + 1) < m_1 by omega), u + 1, rfl, WF, WF, WF, WC⟩
end

theorem ClonePr_cons (l : List Pr) (he : l.isEmpty = false) (hl : l.length ≤ 100000) (k : Nat) :
  ACall Tryz.prog 156 [.slice none (l.map prAV)] k [] (.slice none (l.map prAV)) [] := by
 refine Bd Tryz.func156 Tryz.ntmps156 fun σ N hp hpn hk hkn hfree => ?_
 exact WM
theorem ClonePr_empty (A : Addr) (c k : Nat) : ACall Tryz.prog 156 [.lit (.slice (some A) 0 c)] k [] (.slice none []) [] := by
 refine Bd Tryz.func156 Tryz.ntmps156 fun σ N hp hpn hk hkn hfree => ?_
 exact WM
theorem ClonePr_nil (c k : Nat) : ACall Tryz.prog 156 [.lit (.slice none 0 c)] k [] (.slice none []) [] := by
 refine Bd Tryz.func156 Tryz.ntmps156 fun σ N hp hpn hk hkn hfree => ?_
 exact WM
theorem ClonePr_spec (l : List Pr) (hl : l.length ≤ 100000) (k : Nat) :
  ACall Tryz.prog 156 [.slice none (l.map prAV)] k [] (.slice none (l.map prAV)) [] := by
 cases l with
 | cons x r => exact ClonePr_cons (x :: r) rfl hl k
 | nil =>
  refine ACall.empty fun A c => ?_
  cases A with
  | none => exact ClonePr_nil c k
  | some A => exact ClonePr_empty A c k
theorem dMsg_spec (w b : List UInt8) (g n : Nat) (hw : w.length ≤ 1000) (hb : b.length ≤ 1000) (hg : g ≤ 281474976710656) (hn : n ≤ 281474976710656) (k : Nat) :
  ACall Tryz.prog 93 [.lit (.string ⟨w.toArray⟩), .slice none (b.map byteAV), .agg [.lit (.int .i64 g), .lit (.int .i64 n)]] k [] (.slice none ((w ++ (b ++ (leb g ++ leb n))).map byteAV)) [] := by
 have c1 := Message_spec w b (by omega) (by omega)
 have hwb : (w ++ b).length ≤ 2000 := by rw [List.length_append]; omega
 have hl := leb_len g 7 (by omega)
 have c2 := Append_ok_f (w ++ b) (by omega) g hg
 have c3 := Append_ok_f (w ++ b ++ leb g) (by rw [List.length_append]; omega) n hn
 have hA : w ++ b ++ leb g ++ leb n = w ++ (b ++ (leb g ++ leb n)) := by simp only [List.append_assoc]
 rw [hA] at c3
 generalize w ++ (b ++ (leb g ++ leb n)) = R at *
 generalize w ++ b ++ leb g = R2 at *
 generalize w ++ b = R1 at *
 clear hA
 refine Bd Tryz.func93 Tryz.ntmps93 fun σ N hp hpn hk hkn hfree => ?_
 have hcs := And.intro c1 (And.intro c2 (And.intro c3 True.intro))
 clear c1 c2 c3
 exact WM
section
variable [W : W32]
theorem macS_mMac {a : Alg} {key : Tg} {msg : List UInt8} (h : (macS a key msg).2.2 = 0) : mMac a 0 key msg = ((macS a key msg).1, 0, (macS a key msg).2.1) := by
 unfold mMac
 rw [if_neg (by simp), if_pos h]
set_option maxHeartbeats 4000000 in
theorem dInto_spec (a : Alg) (m : Nat) (ha : AlgIn a m) (hm : m ≤ 60000) (d : Di) (leaf : Tg) (r : Rq) (hr : rqB r = true) (ht : d.ticket.length ≤ 100000) (hc : d.conds.length ≤ 100000) (q r1 r2 g k : Nat) :
  ACall Tryz.prog 88 [.ptr q [] 0, diAV d, tagAV leaf, rqAV r] k (makE a 0 q r1 r2 ++ [(g, shaG)]) (boAV (bindS a d leaf r).2.1) [(q, makB (bindS a d leaf r).1 0 r1 r2), (r1, rowM (bindS a d leaf r).1.macs.length)] := by
 obtain ⟨h0, hB⟩ := bindS_ok ha hm d leaf hr
 rw [hB]
 simp only
 obtain ⟨⟨q1, q2⟩, q3, q4⟩ := rqB_iff.1 hr
 have c1 := Req_spec r
 rw [hr] at c1
 have c2 := Clone_spec d.ticket (by omega)
 have c3 := ClonePr_spec d.conds hc
 have c4 := dMsg_spec [98, 105, 110, 100] leaf.1 r.gate.toNat r.nonce.toNat (by decide) (by rw [leaf.2]; decide) (by omega) (by omega)
 have hml := bindM_len leaf (g := r.gate.toNat) (n := r.nonce.toNat) (by omega) (by omega)
 have hmp : 0 < (bindM leaf r.gate.toNat r.nonce.toNat).length := by simp [bindM]
 have hbm : [98, 105, 110, 100] ++ (leaf.1 ++ (leb r.gate.toNat ++ leb r.nonce.toNat)) = bindM leaf r.gate.toNat r.nonce.toNat := rfl
 rw [hbm] at c4
 have c5 := mMac_spec a 0 d.tag (bindM leaf r.gate.toNat r.nonce.toNat) (by have := ha.ml; omega) ha.mm (fun _ => hmp) (by omega) q r1 r2 g
 rw [macS_mMac h0] at c5
 have hbx := (macS_boxes a d.tag _ h0).1
 simp only at c5
 generalize macS a d.tag (bindM leaf r.gate.toNat r.nonce.toNat) = Y at *
 obtain ⟨a2, t2, e2⟩ := Y
 simp only at *
 obtain ⟨rg, rn⟩ := r
 simp only at *
 rw [show ((rg.toNat : Nat) : Int) = rg by omega, show ((rn.toNat : Nat) : Int) = rn by omega] at c4
 generalize bindM leaf rg.toNat rn.toNat = bm at *
 obtain ⟨ti, cs, dt⟩ := d
 simp only at *
 have hrA : rqAV ⟨rg, rn⟩ = .agg [.lit (.int .i64 rg), .lit (.int .i64 rn)] := rfl
 have hdA : diAV ⟨ti, cs, dt⟩ = .agg [.slice none (ti.map byteAV), .slice none (cs.map prAV), tagAV dt] := rfl
 have hoA : boAV ⟨ti, cs, t2⟩ = .agg [.slice none (ti.map byteAV), .slice none (cs.map prAV), tagAV t2] := rfl
 have hlA : tagAV leaf = .agg (leaf.1.map byteAV) := rfl
 have ps1 := tagAV_sz leaf
 have ps2 := tagAV_cell leaf
 obtain ⟨K, hK⟩ := leaf
 rw [hlA] at ps1 ps2 ⊢
 rw [hrA] at c1 ⊢
 rw [hdA, hoA]
 simp only at *
 clear hrA hdA hoA hlA hbm hB hml hmp h0 ha
 have htk : (K.map byteAV).take 32 = K.map byteAV := List.take_of_length_le (by rw [List.length_map]; omega)
 unfold makE at *
 simp only [List.cons_append, List.nil_append] at *
 simp only [makB_def, rowM_eq, rowB_eq, hbx] at *
 clear hbx
 refine Bd Tryz.func88 Tryz.ntmps88 fun σ N hp hpn hk hkn hfree => ?_
 simp only [List.mem_cons, List.not_mem_nil, or_false, forall_eq_or_imp, forall_eq] at hp hpn; obtain ⟨hd1, hd2, hd3, hd4⟩ := hp; obtain ⟨hdn1, hdn2, hdn3, hdn4⟩ := hpn
 have hne : q ≠ r1 := by rintro rfl; rw [hd1] at hd2; cases hd2
 have hne3 : q ≠ r2 := by rintro rfl; rw [hd1] at hd3; cases hd3
 have hneg : g ≠ q := by rintro rfl; rw [hd4] at hd1; exact shaG_nbox hd1
 have hneg1 : g ≠ r1 := by rintro rfl; rw [hd4] at hd2; exact shaG_nrow hd2
 have hne23 : r1 ≠ r2 := by rintro rfl; rw [hd2] at hd3; simp at hd3
 have hcs := And.intro c1 (And.intro c2 (And.intro c3 (And.intro c4 (And.intro c5 True.intro))))
 clear c1 c2 c3 c4 c5
 refine Wk ?_
 refine go_resultW [(q, (.box 203 (.agg [.agg [.lit (.bool a2.free), tagAV a2.seed, .lit (.int .i64 a2.fresh), .slice (some r1) (a2.macs.map macAV), .slice (some r2) (a.boxes.map sealAV)], .lit (.int .i64 0)]))), (r1, (.row 149 65 a2.macs.length))] (by simp (disch := omega) [go_sem, *, -List.reduceReplicate]; rfl) (by first | rfl | (simp (disch := omega) [go_sem]; done) | (simp (disch := omega) [go_sem, *]; done) | simp (disch := omega) [go_sem]) (fun id hid => by simp only [wr_cons, wr_nil]; (by_cases hdd : id = q; (· (subst hdd; simp (disch := omega) [go_sem, *])); (· (by_cases hdd2 : id = r1; (· (subst hdd2; simp (disch := omega) [go_sem, *])); (· (simp (disch := omega) only [upd_ne]; try (first | exact hlow id hid hdd hdd2 | exact hlow id hid))))))) (by simp) (by simp (disch := omega) [go_sem, *])
end

theorem bitsG_nbox {t : TypeId} {x : AV} (h : bitsG = .box t x) : False := by unfold bitsG at h; cases h
theorem bitsG_nrow {t : TypeId} {n m : Nat} (h : bitsG = .row t n m) : False := by unfold bitsG at h; cases h
theorem bitsG_eq : bitsG = .glob 0 (.agg bitsL) := rfl
theorem bitsL_shut : (AV.agg bitsL).shut = true := rfl
section
variable [W : W32]
set_option maxHeartbeats 16000000 in
theorem bInto_spec (a : Alg) (m : Nat) (ha : AlgIn a m) (p : Pa) (gs : List Di) (r : Rq) (hg : gs.length ≤ 100) (hm : m ≤ 50000) (hb : BuIn (shellB p gs r)) (h0 : chkS (shellB p gs r) = 0) (hcm : ∀ c ∈ p.cavs, CaSm c) (hgm : ∀ d ∈ gs, d.ticket.length ≤ 100000 ∧ d.conds.length ≤ 100000) (q r1 r2 g h k : Nat) :
  ACall Tryz.prog 117 [.ptr q [] 0, paAV p, .slice none (gs.map diAV), rqAV r] k (makE a 0 q r1 r2 ++ [(g, shaG), (h, bitsG)]) (buAV (presS a p gs r).2) [(q, makB (presS a p gs r).1 0 r1 r2), (r1, rowM (presS a p gs r).1.macs.length)] := by
 have hV := (chk_valid hb h0).1
 have hr : rqB r = true := hV.rq
 have hcl : p.cavs.length ≤ 64 := hV.cl
 have c0 := CopiedC_spec p.cavs (by omega) hcm
 have hc := Check_spec (shellB p gs r) hb 1 0
 rw [h0] at hc
 have hP := prfS_ok ha (by omega) p hr
 obtain ⟨⟨x1, x2⟩, x3, x4⟩ := rqB_iff.1 hr
 have c1 := Fail_spec a 0 0 q r1 r2
 rw [if_pos rfl] at c1
 have c2 := dMsg_spec [114, 101, 113, 117, 101, 115, 116] [] r.gate.toNat r.nonce.toNat (by decide) (by decide) (by omega) (by omega)
 have hbm : [114, 101, 113, 117, 101, 115, 116] ++ ([] ++ (leb r.gate.toNat ++ leb r.nonce.toNat)) = reqM r.gate.toNat r.nonce.toNat := rfl
 rw [hbm] at c2
 have hml := reqM_len (g := r.gate.toNat) (n := r.nonce.toNat) (by omega) (by omega)
 have hmp : 0 < (reqM r.gate.toNat r.nonce.toNat).length := by simp [reqM]
 have c3 := mMac_spec a 0 p.tag (reqM r.gate.toNat r.nonce.toNat) (by have := ha.ml; omega) ha.mm (fun _ => hmp) (by omega) q r1 r2 g
 rw [macS_mMac hP] at c3
 have hin : AlgIn (prfS a p r).1 (m + 1) := macS_in ha _ _
 have hbx : (prfS a p r).1.boxes = a.boxes := (macS_boxes a p.tag _ hP).1
 have hPd : macS a p.tag (reqM r.gate.toNat r.nonce.toNat) = prfS a p r := rfl
 rw [hPd] at c3
 simp only at c3
 unfold presS
 clear hb h0 ha hP hPd hml hmp hbm hV
 generalize prfS a p r = M at *
 obtain ⟨aM, tM, eM⟩ := M
 obtain ⟨ep, se, L, tg⟩ := p
 obtain ⟨rg, rn⟩ := r
 simp only at *
 obtain ⟨A', D', hrun⟩ : ∃ A' D', bindL tg ⟨rg, rn⟩ gs 0 aM (gs.map blankBo) = (A', D') := ⟨_, _, rfl⟩
 have hDl : D'.length = gs.length := by have := bindL_len (leaf := tg) (r := ⟨rg, rn⟩) gs 0 aM (gs.map blankBo); rw [hrun] at this; simpa using this
 rw [hrun]
 simp only
 have hpA : paAV ⟨ep, se, L, tg⟩ = .agg [.lit (.int .i64 ep), .lit (.int .i64 se), .slice none (L.map caAV), tagAV tg] := rfl
 have hrA : rqAV ⟨rg, rn⟩ = .agg [.lit (.int .i64 rg), .lit (.int .i64 rn)] := rfl
 have hbA : buAV ⟨⟨rg, rn⟩, ep, se, L, tM, D'⟩ = .agg [.agg [.lit (.int .i64 rg), .lit (.int .i64 rn)], .lit (.int .i64 ep), .lit (.int .i64 se), .slice none (L.map caAV), tagAV tM, .slice none (D'.map boAV)] := rfl
 have hsA : buAV (shellB ⟨ep, se, L, tg⟩ gs ⟨rg, rn⟩) = .agg [.agg [.lit (.int .i64 rg), .lit (.int .i64 rn)], .lit (.int .i64 ep), .lit (.int .i64 se), .slice none (L.map caAV), tagAV zeroTag, .slice none ((gs.map blankBo).map boAV)] := rfl
 rw [hsA] at hc
 rw [hpA, hrA, hbA]
 rw [show ((rg.toNat : Nat) : Int) = rg by omega, show ((rn.toNat : Nat) : Int) = rn by omega] at c2
 generalize reqM rg.toNat rn.toNat = rm at *
 clear hpA hbA hsA
 have hb24 : gs.length * 80 ≤ 140737488355328 := by omega
 have hb25 : gs.length ≤ 140737488355327 := by omega
 unfold makE at *
 simp only [List.cons_append, List.nil_append] at *
 simp only [makB_def, rowM_eq, rowB_eq] at *
 simp only [hbx] at c3
 have e00 : ((0 : Nat) : Int) = 0 := rfl
 simp only [e00] at *
 clear e00
 refine Bd Tryz.func117 Tryz.ntmps117 fun σ N hp hpn hk hkn hfree => ?_
 simp only [List.mem_cons, List.not_mem_nil, or_false, forall_eq_or_imp, forall_eq] at hp hpn
 obtain ⟨hd1, hd2, hd3, hd4, hd5⟩ := hp
 obtain ⟨hdn1, hdn2, hdn3, hdn4, hdn5⟩ := hpn
 have hne : q ≠ r1 := by rintro rfl; rw [hd1] at hd2; cases hd2
 have hne3 : q ≠ r2 := by rintro rfl; rw [hd1] at hd3; cases hd3
 have hneg : g ≠ q := by rintro rfl; rw [hd4] at hd1; exact shaG_nbox hd1
 have hneg1 : g ≠ r1 := by rintro rfl; rw [hd4] at hd2; exact shaG_nrow hd2
 have hneh : h ≠ q := by rintro rfl; rw [hd5] at hd1; exact bitsG_nbox hd1
 have hneh1 : h ≠ r1 := by rintro rfl; rw [hd5] at hd2; exact bitsG_nrow hd2
 have hne23 : r1 ≠ r2 := by rintro rfl; rw [hd2] at hd3; simp at hd3
 rw [bitsG_eq] at hd5 hc
 have hcs := And.intro c0 True.intro
 clear c0
 refine Wk ?_
 clear hcs
 refine go_nilMIn (N + 12) [5] 67 34 (bt := 97) (c := .agg [.agg [.lit (.int .i64 rg), .lit (.int .i64 rn)], .lit (.int .i64 ep), .lit (.int .i64 se), .slice none (L.map caAV), tagAV zeroTag, .nils]) (by simp (disch := omega) [go_sem, *, -List.reduceReplicate]; try rfl) rfl ?_
 refine go_loopF mixed (by kernel_rfl) [11, 25, 26, 27, 28, 29, 30, 31, 32, 33, 34, 35, 36, 37, 38, 39] [N+12, N+17] (fun m_ s_ σ_ n_ => ∃ (u : Nat), m_ = gs.length - u ∧ s_ 25 = .lit (.int .i64 u) ∧ σ_ (N+12) = .box 97 (.agg [.agg [.lit (.int .i64 rg), .lit (.int .i64 rn)], .lit (.int .i64 ep), .lit (.int .i64 se), .slice none (L.map caAV), tagAV zeroTag, .ms (N + 17) u 34 0 u]) ∧ σ_ (N+17) = .mrow u 67 34 (shX gs u) ∧ (u ≤ gs.length)) ⟨_, 0, rfl, WF, WF, WF, WC⟩ ?_
 intro m_1 s_1 σ_1 n_1 hs_1 hf_1 hn_1 hI_1
 obtain ⟨u, hm_1, h1_25, e1_0, e1_1, hu⟩ := hI_1
 have h1_0 := KS hs_1 0
 have h1_2 := KS hs_1 2
 have h1_5 := KS hs_1 5
 have h1_7 := KS hs_1 7
 have h1_8 := KS hs_1 8
 have h1_9 := KS hs_1 9
 have h1_23 := KS hs_1 23
 have h1_24 := KS hs_1 24
 have k1_0 := KE hf_1 (N)
 have k1_1 := KE hf_1 (N + 1)
 have k1_2 := KE hf_1 (N + 2)
 have k1_3 := KE hf_1 (q)
 have k1_4 := KE hf_1 (r1)
 have k1_5 := KE hf_1 (r2)
 have k1_6 := KE hf_1 (g)
 have k1_7 := KE hf_1 (h)
 have hlow := KL (N := N) (σ := σ) hf_1
 by_cases hul : u = gs.length
 ·subst hul
  rw [shX_all] at e1_1
  have hD0 : (gs.map blankBo).length = gs.length := List.length_map ..
  clear hu
  generalize gs.map blankBo = D0 at *
  iterate 2 refine Wz ?_
  (apply go_region; · (simp only [List.length_cons, List.length_nil, Nat.reduceAdd, Nat.add_assoc]; rfl))
  refine Wm ?_
  refine go_callLendG (d := h) (pre := [(N + 17, .mrow gs.length 67 34 (D0.map boAV)), (h, .glob 0 (.agg bitsL))]) hc bitsL_shut (by simp) (by simp (disch := omega) [go_sem, *, -List.reduceReplicate]) rfl (by simp) (by
   simp (disch := omega) [go_sem, *, -List.reduceReplicate]
   exact .cons (.agg (.cons (.shut (AV.le_refl _) rfl) (.cons (.shut (AV.le_refl _) rfl) (.cons (.shut (AV.le_refl _) rfl) (.cons (.shut (AV.le_refl _) (cas_shut L)) (.cons (.shut (AV.le_refl _) (tagAV_shut _)) (.cons (.ms (List.mem_cons_self ..) (by simp [hD0]) (bos_shut D0)) .nil))))))) .nil) (by simp (disch := omega) [go_sem, *, -List.reduceReplicate]) ?_
  have hcs := And.intro c1 True.intro
  refine Wm ?_
  have hcs := And.intro c2 (And.intro c3 True.intro)
  clear c1 c2 c3 hc
  refine Wk ?_
  clear hcs
  refine go_loopF mixed (by kernel_rfl) [12, 13, 53, 54, 55, 56, 57, 58, 59, 60, 61, 62, 63, 64, 65, 66, 67, 68] [q, r1, N+12, N+17] (fun m_ s_ σ_ n_ => ∃ (v : Nat) (A : Alg) (D : List Bo), m_ = gs.length - v ∧ s_ 53 = .lit (.int .i64 v) ∧ σ_ (q) = .box 203 (.agg [.agg [.lit (.bool A.free), tagAV A.seed, .lit (.int .i64 A.fresh), .slice (some r1) (A.macs.map macAV), .slice (some r2) (a.boxes.map sealAV)], .lit (.int .i64 0)]) ∧ σ_ (r1) = .row 149 65 A.macs.length ∧ σ_ (N+12) = .box 97 (.agg [.agg [.lit (.int .i64 rg), .lit (.int .i64 rn)], .lit (.int .i64 ep), .lit (.int .i64 se), .slice none (L.map caAV), tagAV tM, .ms (N + 17) gs.length 34 0 gs.length]) ∧ σ_ (N+17) = .mrow gs.length 67 34 (D.map boAV) ∧ (v ≤ gs.length) ∧ (AlgIn A (m + 1 + v)) ∧ (A.boxes = a.boxes) ∧ (D.length = gs.length) ∧ (bindL tg ⟨rg, rn⟩ (gs.drop v) v A D = (A', D'))) ⟨_, 0, aM, D0, rfl, WF, WF, WF, WF, WF, WC, WC, WC, WC, WC⟩ ?_
  intro m_2 s_2 σ_2 n_2 hs_2 hf_2 hn_2 hI_2
  obtain ⟨v, A, D, hm_2, h2_53, e2_0, e2_1, e2_2, e2_3, hv, hA, hbA, hD, hrun⟩ := hI_2
  have h2_0 := KS hs_2 0
  have h2_5 := KS hs_2 5
  have h2_7 := KS hs_2 7
  have h2_8 := KS hs_2 8
  have h2_9 := KS hs_2 9
  have h2_51 := KS hs_2 51
  have h2_52 := KS hs_2 52
  have k2_0 := KE hf_2 (N)
  have k2_1 := KE hf_2 (N + 1)
  have k2_2 := KE hf_2 (N + 2)
  have k2_3 := KE hf_2 (r2)
  have k2_4 := KE hf_2 (g)
  have hlow : ∀ id, id < N → id ≠ q → id ≠ r1 → σ_2 id = σ id := fun id hid hdd0 hdd1 => (hf_2.at id (by omega) (by simp [hdd0, hdd1]; try omega)).trans (by simp (disch := omega) only [upd_ne, wr_cons, wr_nil]; try first | exact hlow id hid hdd0 hdd1 | exact hlow id hid)
  clear hin hD0
  by_cases hvl : v = gs.length
  ·subst hvl
   rw [List.drop_length, bindL, Prod.mk.injEq] at hrun
   obtain ⟨rfl, rfl⟩ := hrun
   clear hv hA
   iterate 2 refine Wz ?_
   refine go_freezeIn (N + 12) [5] (r := N + 17) (ver := gs.length) (size := 34) (e := 67) (xs := D.map boAV) (k := gs.length) (by simp (disch := omega) [go_sem, *, -List.reduceReplicate]; try exact ⟨rfl, rfl⟩) (by simp (disch := omega) [go_sem, *, -List.reduceReplicate]) (by simp (disch := omega) [go_sem, *, -List.reduceReplicate]) (by simp [hD]) ?_
   refine Wk ?_
   refine go_resultW [(q, (.box 203 (.agg [.agg [.lit (.bool A.free), tagAV A.seed, .lit (.int .i64 A.fresh), .slice (some r1) (A.macs.map macAV), .slice (some r2) (a.boxes.map sealAV)], .lit (.int .i64 0)]))), (r1, (.row 149 65 A.macs.length))] (by simp (disch := omega) [go_sem, *, -List.reduceReplicate]; rfl) (by first | rfl | (simp (disch := omega) [go_sem]; done) | (simp (disch := omega) [go_sem, *]; done) | simp (disch := omega) [go_sem]) (fun id hid => by simp only [wr_cons, wr_nil]; (by_cases hdd : id = q; (· (subst hdd; simp (disch := omega) [go_sem, *])); (· (by_cases hdd2 : id = r1; (· (subst hdd2; simp (disch := omega) [go_sem, *])); (· (simp (disch := omega) only [upd_ne]; try (first | exact hlow id hid hdd hdd2 | exact hlow id hid))))))) (by simp) (by simp (disch := omega) [go_sem, *])
  ·have hv1 : v < gs.length := by omega
   have hv1i : (v : Int) < (gs.length : Int) := by omega
   obtain ⟨z, hz⟩ : ∃ z, gs[v] = z := ⟨_, rfl⟩
   have hzm : (gs.map diAV)[v]? = some (diAV z) := by rw [List.getElem?_map, List.getElem?_eq_getElem hv1, hz]; rfl
   have hzb := hgm z (by rw [← hz]; exact List.getElem_mem _)
   rw [List.drop_eq_getElem_cons hv1, hz, bindL] at hrun
   have c3 := dInto_spec A (m + 1 + v) hA (by omega) z tg ⟨rg, rn⟩ hr hzb.1 hzb.2 q r1 r2 g
   obtain ⟨hB1, hB2⟩ := bindS_ok hA (by omega) z tg hr
   have hin2 := bindS_in hA z tg ⟨rg, rn⟩
   have hbx2 : (bindS A z tg ⟨rg, rn⟩).1.boxes = a.boxes := by rw [hB2]; simp only; rw [(macS_boxes A z.tag _ hB1).1]; exact hbA
   clear hB1 hB2
   generalize bindS A z tg ⟨rg, rn⟩ = B at *
   obtain ⟨aB, bB, eB⟩ := B
   rw [hrA] at c3
   unfold makE at c3
   simp only [List.cons_append, List.nil_append] at c3
   simp only [makB_def, rowM_eq, rowB_eq, hbA] at c3
   simp only at c3 hrun hin2 hbx2
   simp only [hbx2] at c3
   have hv2 : v < D.length := by omega
   obtain ⟨y, hy⟩ : ∃ y, D[v] = y := ⟨_, rfl⟩
   have hy0 : D[v]? = some y := by rw [List.getElem?_eq_getElem hv2, hy]
   have hym : (D.map boAV)[v]? = some (boAV y) := by rw [List.getElem?_map, hy0]; rfl
   have hysz : AV.szl ((D.map boAV).take v) = v * 34 := by
    rw [← List.map_take, AV.szl_uniform _ 34 (fun x hx => by obtain ⟨c, _, rfl⟩ := List.mem_map.1 hx; exact boAV_sz c), List.length_map, List.length_take, Nat.min_eq_left (by omega)]
   have hyo : (AV.agg (D.map boAV)).offs [v] = v * 34 := by simp only [AV.offs, hym, hysz]; rfl
   clear hy
   have hset : (D.map boAV).set v (boAV bB) = (D.set v bB).map boAV := by rw [List.map_set]
   have hsl : (D.set v bB).length = gs.length := by rw [List.length_set]; exact hD
   generalize D.set v bB = D2 at *
   have e00 : ((0 : Nat) : Int) = 0 := rfl
   simp only [e00] at c3
   have hcs := And.intro c3 True.intro
   clear c3 e00
   refine Wk ?_
   clear hcs
   exact ⟨WS, WG, WN, _, (show gs.length - (v + 1) < m_2 by omega), v + 1, aB, D2, rfl, WF, WF, WF, WF, WF, WC, WC, WC, WC, WC⟩
 ·have hu1 : u < gs.length := by omega
  have hu1i : (u : Int) < (gs.length : Int) := by omega
  obtain ⟨z, hz⟩ : ∃ z, gs[u] = z := ⟨_, rfl⟩
  have hzm : (gs.map diAV)[u]? = some (.agg [.slice none (z.ticket.map byteAV), .slice none (z.conds.map prAV), tagAV z.tag]) := by rw [List.getElem?_map, List.getElem?_eq_getElem hu1, hz]; rfl
  have htk := shX_succ hu1 hz
  have htk2 : (shX gs u).take u ++ [.agg [.slice none (z.ticket.map byteAV), .slice none (z.conds.map prAV), tagAV zeroTag]] = shX gs (u + 1) := by rw [List.take_of_length_le (by rw [shX_len hu]; exact Nat.le_refl _)]; exact htk
  have hXl := shX_len hu
  have hb26 : (u + 1) * 80 ≤ 140737488355328 := by omega
  have hb27 : u ≤ 140737488355327 := by omega
  clear c1 c2 c3 hc
  refine Wk ?_
  exact ⟨WS, WG, WN, _, (show gs.length - (u + 1) < m_1 by omega), u + 1, rfl, WF, WF, WF, WC⟩
set_option maxHeartbeats 4000000 in
theorem Present_spec (a : Alg) (m : Nat) (ha : AlgIn a m) (p : Pa) (gs : List Di) (r : Rq) (hg : gs.length ≤ 100) (hm : m ≤ 50000) (hb : BuIn (shellB p gs r)) (h0 : chkS (shellB p gs r) = 0) (hcm : ∀ c ∈ p.cavs, CaSm c) (hgm : ∀ d ∈ gs, d.ticket.length ≤ 100000 ∧ d.conds.length ≤ 100000) (hbx : (presS a p gs r).1.boxes = a.boxes) (g h k : Nat) (_hgh : g ≠ h) :
  ACall Tryz.prog 49 [algAV a, paAV p, .slice none (gs.map diAV), rqAV r] k [(g, shaG), (h, bitsG)] (.tup [algAV (presS a p gs r).1, buAV (presS a p gs r).2, .lit (.int .i64 0)]) [] := by
 have cb := Begin_spec a (by have := ha.ml; omega) (by have := ha.bl; omega)
 have c1 := fun q r1 r2 => bInto_spec a m ha p gs r hg hm hb h0 hcm hgm q r1 r2 g h
 generalize presS a p gs r = X at *
 obtain ⟨a1, b1⟩ := X
 simp only at c1 hbx ⊢
 have cd := Done_ok a1
 clear ha hb h0 hcm hgm
 unfold makAV at cb
 unfold makE at c1 cd
 simp only [List.cons_append, List.nil_append] at *
 simp only [makB_def, rowM_eq, rowB_eq, hbx] at *
 refine Bd Tryz.func49 Tryz.ntmps49 fun σ N hp hpn hk hkn hfree => ?_
 simp only [List.mem_cons, List.not_mem_nil, or_false, forall_eq_or_imp, forall_eq] at hp hpn; obtain ⟨hd1, hd2⟩ := hp; obtain ⟨hdn1, hdn2⟩ := hpn
 have hcs := And.intro cb True.intro
 refine Wm ?_
 iterate 2 refine Wz ?_
 clear hcs
 refine go_cliprowIn (N + 6 + 1) [0, 3] 149 65 (bt := 203) (c := .agg [.agg [.lit (.bool a.free), tagAV a.seed, .lit (.int .i64 a.fresh), .clip (a.macs.map macAV), .clip (a.boxes.map sealAV)], .lit (.int .i64 ((0 : Nat) : Int))]) (xs := a.macs.map macAV) (by simp (disch := omega) [go_sem, *, -List.reduceReplicate]) rfl (all_macs1 _) ?_; refine go_cliprowIn (N + 6 + 1) [0, 4] 151 35 (bt := 203) (c := .agg [.agg [.lit (.bool a.free), tagAV a.seed, .lit (.int .i64 a.fresh), .slice (some (N + 6 + 3)) (a.macs.map macAV), .clip (a.boxes.map sealAV)], .lit (.int .i64 ((0 : Nat) : Int))]) (xs := a.boxes.map sealAV) (by simp (disch := omega) [go_sem, *, -List.reduceReplicate]) rfl (all_boxes1 _) ?_
 have hcs := And.intro (c1 (N + 6 + 1) (N + 6 + 3) (N + 6 + 3 + 1)) (And.intro (cd (N + 6 + 1) (N + 6 + 3) (N + 6 + 3 + 1)) True.intro)
 clear cb c1 cd
 refine Wk ?_
 exact WD
end

section
variable [W : W32]
end

section
variable [W : W32]
end

section
variable [W : W32]
end

section
variable [W : W32]
theorem Look_spec (a : Alg) (key : Tg) (msg : List UInt8) (hl : a.macs.length ≤ 1000000) (hm : ∀ e ∈ a.macs, e.msg.length ≤ 100000) (h0 : 0 < msg.length) (hmsg : msg.length ≤ 1000000) (g k : Nat) :
  ACall Tryz.prog 66 [algAV a, tagAV key, .slice none (msg.map byteAV)] k [(g, shaG)] (entAV (lookO a key msg)) [] := by
 have c1 := find_spec a.macs key msg hl hm hmsg
 obtain ⟨fr, sd, fs, L, B⟩ := a
 simp only at hl hm c1
 unfold lookO
 cases fr with
 | true =>
  simp only [if_true]
  cases he : entL key msg L with
  | none =>
   rw [fI_none L 0 he] at c1
   unfold entAV
   simp only [Option.getD_none, Option.isSome_none, algAV]
   clear hm he
   refine Bd Tryz.func66 Tryz.ntmps66 fun σ N hp hpn hk hkn hfree => ?_
   obtain ⟨hd, hdn⟩ := HD0 hp hpn; clear hp hpn
   have hcs := And.intro c1 True.intro
   clear c1
   exact W0
  | some t =>
   obtain ⟨i, hi, hfi, hti⟩ := fI_some L 0 he
   rw [hfi, Nat.zero_add] at c1
   obtain ⟨z, hz⟩ : ∃ z, L[i] = z := ⟨_, rfl⟩
   rw [hz] at hti
   obtain ⟨zk, zm, zt⟩ := z
   simp only at hti
   subst hti
   have hzd : macAV ⟨zk, zm, zt⟩ = .agg [tagAV zk, bAV zm, tagAV zt] := rfl
   have hi0 : ¬ (i : Int) < 0 := by omega
   unfold entAV
   simp only [Option.getD_some, Option.isSome_some, algAV]
   clear hm he hfi
   refine Bd Tryz.func66 Tryz.ntmps66 fun σ N hp hpn hk hkn hfree => ?_
   obtain ⟨hd, hdn⟩ := HD0 hp hpn; clear hp hpn
   have hcs := And.intro c1 True.intro
   clear c1
   exact W0
 | false =>
  simp only [Bool.false_eq_true, if_false]
  clear c1 hm
  by_cases h1 : 4096 < msg.length
  ·rw [if_pos h1]
   have h1i : (4096 : Int) < (msg.length : Int) := by omega
   unfold entAV
   simp only [Option.getD_none, Option.isSome_none, algAV]
   refine Bd Tryz.func66 Tryz.ntmps66 fun σ N hp hpn hk hkn hfree => ?_
   obtain ⟨hd, hdn⟩ := HD0 hp hpn; clear hp hpn
   exact W0
  ·rw [if_neg h1]
   have h1i : ¬ (4096 : Int) < (msg.length : Int) := by omega
   have c2 := hmacOf_spec key.1 msg (by rw [key.2]; decide) h0 (by omega) g
   generalize hmacT key.1 msg = t at *
   have hs1 := tagAV_sz key
   have hs2 := tagAV_cell key
   obtain ⟨K, hK⟩ := key
   have hkA : tagAV ⟨K, hK⟩ = .agg (K.map byteAV) := rfl
   simp only [hkA] at hs1 hs2 c2 ⊢
   clear hkA
   have hs3 : AV.celll (K.map byteAV) = true := celll_bytes K
   have htk : (K.map byteAV).take 32 = K.map byteAV := List.take_of_length_le (by rw [List.length_map]; omega)
   unfold entAV
   simp only [Option.getD_some, Option.isSome_some, algAV]
   refine Bd Tryz.func66 Tryz.ntmps66 fun σ N hp hpn hk hkn hfree => ?_
   obtain ⟨hd, hdn⟩ := HD0 hp hpn; clear hp hpn
   have hcs := And.intro c2 True.intro
   clear c2
   exact W0
end

theorem dMsg_any (w b : List UInt8) (r : Rq) (hw : w.length ≤ 1000) (hb : b.length ≤ 1000) : ∃ R : List UInt8, R.length ≤ 100000 ∧ ∀ k, ACall Tryz.prog 93 [.lit (.string ⟨w.toArray⟩), .slice none (b.map byteAV), rqAV r] k [] (.slice none (R.map byteAV)) [] := by
 have c1 := Message_spec w b (by omega) (by omega)
 have hwb : (w ++ b).length ≤ 2000 := by rw [List.length_append]; omega
 obtain ⟨rg, rn⟩ := r
 have hrA : rqAV ⟨rg, rn⟩ = .agg [.lit (.int .i64 rg), .lit (.int .i64 rn)] := rfl
 rw [hrA]
 clear hrA
 generalize w ++ b = R1 at *
 obtain ⟨X, hX, c2⟩ : ∃ (X : List UInt8 × Nat), X.1.length ≤ 3000 ∧ ∀ k, ACall Tryz.prog 158 [.slice none (R1.map byteAV), .lit (.int .i64 rg)] k [] (encAV X) [] := by
  by_cases h : rg < 0 ∨ 281474976710656 < rg
  ·exact ⟨([], 1), by simp, fun k => (Append_bad R1 rg h k).result (AV.sub_tup (.cons AV.le_nils0 (.cons (AV.le_refl _) .nil)))⟩
  ·obtain ⟨n, rfl⟩ := Int.eq_ofNat_of_zero_le (show 0 ≤ rg by omega)
   have hl := leb_len n 7 (by omega)
   exact ⟨(R1 ++ leb n, 0), by simp only [List.length_append]; omega, fun k => Append_ok_f R1 (by omega) n (by omega) k⟩
 obtain ⟨R2, E2⟩ := X
 simp only at hX
 obtain ⟨Y, hY, c3⟩ : ∃ (X : List UInt8 × Nat), X.1.length ≤ 4000 ∧ ∀ k, ACall Tryz.prog 158 [.slice none (R2.map byteAV), .lit (.int .i64 rn)] k [] (encAV X) [] := by
  by_cases h : rn < 0 ∨ 281474976710656 < rn
  ·exact ⟨([], 1), by simp, fun k => (Append_bad R2 rn h k).result (AV.sub_tup (.cons AV.le_nils0 (.cons (AV.le_refl _) .nil)))⟩
  ·obtain ⟨n, rfl⟩ := Int.eq_ofNat_of_zero_le (show 0 ≤ rn by omega)
   have hl := leb_len n 7 (by omega)
   exact ⟨(R2 ++ leb n, 0), by simp only [List.length_append]; omega, fun k => Append_ok_f R2 (by omega) n (by omega) k⟩
 obtain ⟨R3, E3⟩ := Y
 simp only at hY
 refine ⟨R3, by omega, fun k => ?_⟩
 unfold encAV at c2 c3
 simp only at c2 c3
 clear hX hY hwb
 refine Bd Tryz.func93 Tryz.ntmps93 fun σ N hp hpn hk hkn hfree => ?_
 have hcs := And.intro c1 (And.intro c2 (And.intro c3 True.intro))
 clear c1 c2 c3
 exact WM
section
variable [W : W32]
end

def bu0P : Bu := ⟨⟨0, 0⟩, 0, 0, [], zeroTag, []⟩
section
variable [W : W32]
set_option maxHeartbeats 4000000 in
theorem dInto_err (a : Alg) (m : Nat) (ha : AlgIn a m) (hm : m ≤ 60000) (e : Nat) (he : e ≠ 0) (d : Di) (leaf : Tg) (r : Rq) (ht : d.ticket.length ≤ 100000) (hc : d.conds.length ≤ 100000) (q r1 r2 g k : Nat) :
  ACall Tryz.prog 88 [.ptr q [] 0, diAV d, tagAV leaf, rqAV r] k (makE a e q r1 r2 ++ [(g, shaG)]) (boAV (blankBo d)) [(q, makB a e r1 r2), (r1, rowM a.macs.length)] := by
 have c1 := Req_spec r
 have cf := Fail_spec a e 1 q r1 r2
 rw [if_neg he] at cf
 have c2 := Clone_spec d.ticket (by omega)
 have c3 := ClonePr_spec d.conds hc
 obtain ⟨R, hRl, c4⟩ := dMsg_any [98, 105, 110, 100] leaf.1 r (by decide) (by rw [leaf.2]; decide)
 have c5 := mMac_spec a e d.tag R (by have := ha.ml; omega) ha.mm (fun h => absurd h he) hRl q r1 r2 g
 rw [mMac_err he] at c5
 simp only at c5
 obtain ⟨rg, rn⟩ := r
 obtain ⟨ti, cs, dt⟩ := d
 simp only at *
 have hrA : rqAV ⟨rg, rn⟩ = .agg [.lit (.int .i64 rg), .lit (.int .i64 rn)] := rfl
 have hdA : diAV ⟨ti, cs, dt⟩ = .agg [.slice none (ti.map byteAV), .slice none (cs.map prAV), tagAV dt] := rfl
 have hoA : boAV (blankBo ⟨ti, cs, dt⟩) = .agg [.slice none (ti.map byteAV), .slice none (cs.map prAV), tagAV zeroTag] := rfl
 have hlA : tagAV leaf = .agg (leaf.1.map byteAV) := rfl
 have ps1 := tagAV_sz leaf
 have ps2 := tagAV_cell leaf
 obtain ⟨K, hK⟩ := leaf
 rw [hlA] at ps1 ps2 ⊢
 rw [hrA] at c1 c4 ⊢
 rw [hdA, hoA]
 simp only at *
 clear hrA hdA hoA hlA ha hRl he
 have htk : (K.map byteAV).take 32 = K.map byteAV := List.take_of_length_le (by rw [List.length_map]; omega)
 have e01 : ((1 : Nat) : Int) = 1 := rfl
 unfold makE at *
 simp only [List.cons_append, List.nil_append] at *
 simp only [makB_def, rowM_eq, rowB_eq, e01] at *
 clear e01
 cases hr : rqB ⟨rg, rn⟩ with
 | false =>
  rw [hr] at c1
  clear hr
  refine Bd Tryz.func88 Tryz.ntmps88 fun σ N hp hpn hk hkn hfree => ?_
  simp only [List.mem_cons, List.not_mem_nil, or_false, forall_eq_or_imp, forall_eq] at hp hpn; obtain ⟨hd1, hd2, hd3, hd4⟩ := hp; obtain ⟨hdn1, hdn2, hdn3, hdn4⟩ := hpn
  have hne : q ≠ r1 := by rintro rfl; rw [hd1] at hd2; cases hd2
  have hne3 : q ≠ r2 := by rintro rfl; rw [hd1] at hd3; cases hd3
  have hneg : g ≠ q := by rintro rfl; rw [hd4] at hd1; exact shaG_nbox hd1
  have hneg1 : g ≠ r1 := by rintro rfl; rw [hd4] at hd2; exact shaG_nrow hd2
  have hne23 : r1 ≠ r2 := by rintro rfl; rw [hd2] at hd3; simp at hd3
  have hcs := And.intro c1 (And.intro cf (And.intro c2 (And.intro c3 (And.intro c4 (And.intro c5 True.intro)))))
  clear c1 cf c2 c3 c4 c5
  refine Wk ?_
  refine go_resultW [(q, (.box 203 (.agg [.agg [.lit (.bool a.free), tagAV a.seed, .lit (.int .i64 a.fresh), .slice (some r1) (a.macs.map macAV), .slice (some r2) (a.boxes.map sealAV)], .lit (.int .i64 (e : Int))]))), (r1, (.row 149 65 a.macs.length))] (by simp (disch := omega) [go_sem, *, -List.reduceReplicate]; rfl) (by first | rfl | (simp (disch := omega) [go_sem]; done) | (simp (disch := omega) [go_sem, *]; done) | simp (disch := omega) [go_sem]) (fun id hid => by simp only [wr_cons, wr_nil]; (by_cases hdd : id = q; (· (subst hdd; simp (disch := omega) [go_sem, *])); (· (by_cases hdd2 : id = r1; (· (subst hdd2; simp (disch := omega) [go_sem, *])); (· (simp (disch := omega) only [upd_ne]; try (first | exact hlow id hid hdd hdd2 | exact hlow id hid))))))) (by simp) (by simp (disch := omega) [go_sem, *])
 | true =>
  rw [hr] at c1
  clear hr
  refine Bd Tryz.func88 Tryz.ntmps88 fun σ N hp hpn hk hkn hfree => ?_
  simp only [List.mem_cons, List.not_mem_nil, or_false, forall_eq_or_imp, forall_eq] at hp hpn; obtain ⟨hd1, hd2, hd3, hd4⟩ := hp; obtain ⟨hdn1, hdn2, hdn3, hdn4⟩ := hpn
  have hne : q ≠ r1 := by rintro rfl; rw [hd1] at hd2; cases hd2
  have hne3 : q ≠ r2 := by rintro rfl; rw [hd1] at hd3; cases hd3
  have hneg : g ≠ q := by rintro rfl; rw [hd4] at hd1; exact shaG_nbox hd1
  have hneg1 : g ≠ r1 := by rintro rfl; rw [hd4] at hd2; exact shaG_nrow hd2
  have hne23 : r1 ≠ r2 := by rintro rfl; rw [hd2] at hd3; simp at hd3
  have hcs := And.intro c1 (And.intro c2 (And.intro c3 (And.intro c4 (And.intro c5 True.intro))))
  clear c1 cf c2 c3 c4 c5
  refine Wk ?_
  refine go_resultW [(q, (.box 203 (.agg [.agg [.lit (.bool a.free), tagAV a.seed, .lit (.int .i64 a.fresh), .slice (some r1) (a.macs.map macAV), .slice (some r2) (a.boxes.map sealAV)], .lit (.int .i64 (e : Int))]))), (r1, (.row 149 65 a.macs.length))] (by simp (disch := omega) [go_sem, *, -List.reduceReplicate]; rfl) (by first | rfl | (simp (disch := omega) [go_sem]; done) | (simp (disch := omega) [go_sem, *]; done) | simp (disch := omega) [go_sem]) (fun id hid => by simp only [wr_cons, wr_nil]; (by_cases hdd : id = q; (· (subst hdd; simp (disch := omega) [go_sem, *])); (· (by_cases hdd2 : id = r1; (· (subst hdd2; simp (disch := omega) [go_sem, *])); (· (simp (disch := omega) only [upd_ne]; try (first | exact hlow id hid hdd hdd2 | exact hlow id hid))))))) (by simp) (by simp (disch := omega) [go_sem, *])
set_option maxHeartbeats 16000000 in
theorem bInto_err (a : Alg) (m : Nat) (ha : AlgIn a m) (p : Pa) (gs : List Di) (r : Rq) (hg : gs.length ≤ 100) (hm : m ≤ 50000) (hb : BuIn (shellB p gs r)) (e : Nat) (hE : chkS (shellB p gs r) = e) (he : e ≠ 0) (hpl : p.cavs.length ≤ 1000) (hcm : ∀ c ∈ p.cavs, CaSm c) (hgm : ∀ d ∈ gs, d.ticket.length ≤ 100000 ∧ d.conds.length ≤ 100000) (q r1 r2 g h k : Nat) :
  ACall Tryz.prog 117 [.ptr q [] 0, paAV p, .slice none (gs.map diAV), rqAV r] k (makE a 0 q r1 r2 ++ [(g, shaG), (h, bitsG)]) (buAV (shellB p gs r)) [(q, makB a e r1 r2), (r1, rowM a.macs.length)] := by
 have c0 := CopiedC_spec p.cavs (by omega) hcm
 have hc := Check_spec (shellB p gs r) hb 1 0
 rw [hE] at hc
 have c1 := Fail_spec a 0 e q r1 r2
 rw [if_pos rfl] at c1
 obtain ⟨rm, hrml, c2⟩ := dMsg_any [114, 101, 113, 117, 101, 115, 116] [] r (by decide) (by decide)
 have c3 := mMac_spec a e p.tag rm (by have := ha.ml; omega) ha.mm (fun h => absurd h he) hrml q r1 r2 g
 rw [mMac_err he] at c3
 simp only at c3
 clear hE hb hrml
 obtain ⟨ep, se, L, tg⟩ := p
 obtain ⟨rg, rn⟩ := r
 simp only at *
 have hpA : paAV ⟨ep, se, L, tg⟩ = .agg [.lit (.int .i64 ep), .lit (.int .i64 se), .slice none (L.map caAV), tagAV tg] := rfl
 have hrA : rqAV ⟨rg, rn⟩ = .agg [.lit (.int .i64 rg), .lit (.int .i64 rn)] := rfl
 have hsA : buAV (shellB ⟨ep, se, L, tg⟩ gs ⟨rg, rn⟩) = .agg [.agg [.lit (.int .i64 rg), .lit (.int .i64 rn)], .lit (.int .i64 ep), .lit (.int .i64 se), .slice none (L.map caAV), tagAV zeroTag, .slice none ((gs.map blankBo).map boAV)] := rfl
 rw [hsA] at hc ⊢
 rw [hrA] at c2
 rw [hpA, hrA]
 clear hpA hsA
 have hb24 : gs.length * 80 ≤ 140737488355328 := by omega
 have hb25 : gs.length ≤ 140737488355327 := by omega
 unfold makE at *
 simp only [List.cons_append, List.nil_append, List.map_nil] at *
 simp only [makB_def, rowM_eq, rowB_eq] at *
 have e00 : ((0 : Nat) : Int) = 0 := rfl
 simp only [e00] at *
 clear e00
 obtain ⟨D0, hD00⟩ : ∃ D0, gs.map blankBo = D0 := ⟨_, rfl⟩
 have hD0 : D0.length = gs.length := by rw [← hD00]; exact List.length_map ..
 have hDv : ∀ (v : Nat) (z : Di), gs[v]? = some z → D0[v]? = some (blankBo z) ∧ (D0.map boAV).set v (boAV (blankBo z)) = D0.map boAV := fun v z hz => by
  have h1 : D0[v]? = some (blankBo z) := by rw [← hD00, List.getElem?_map, hz]; rfl
  refine ⟨h1, ?_⟩
  have h2 : (D0.map boAV)[v]? = some (boAV (blankBo z)) := by rw [List.getElem?_map, h1]; rfl
  obtain ⟨h3, h4⟩ := List.getElem?_eq_some_iff.1 h2
  rw [← h4, List.set_getElem_self]
 rw [hD00]
 refine Bd Tryz.func117 Tryz.ntmps117 fun σ N hp hpn hk hkn hfree => ?_
 simp only [List.mem_cons, List.not_mem_nil, or_false, forall_eq_or_imp, forall_eq] at hp hpn
 obtain ⟨hd1, hd2, hd3, hd4, hd5⟩ := hp
 obtain ⟨hdn1, hdn2, hdn3, hdn4, hdn5⟩ := hpn
 have hne : q ≠ r1 := by rintro rfl; rw [hd1] at hd2; cases hd2
 have hne3 : q ≠ r2 := by rintro rfl; rw [hd1] at hd3; cases hd3
 have hneg : g ≠ q := by rintro rfl; rw [hd4] at hd1; exact shaG_nbox hd1
 have hneg1 : g ≠ r1 := by rintro rfl; rw [hd4] at hd2; exact shaG_nrow hd2
 have hneh : h ≠ q := by rintro rfl; rw [hd5] at hd1; exact bitsG_nbox hd1
 have hneh1 : h ≠ r1 := by rintro rfl; rw [hd5] at hd2; exact bitsG_nrow hd2
 have hne23 : r1 ≠ r2 := by rintro rfl; rw [hd2] at hd3; simp at hd3
 rw [bitsG_eq] at hd5 hc
 have hcs := And.intro c0 True.intro
 clear c0
 refine Wk ?_
 clear hcs
 refine go_nilMIn (N + 12) [5] 67 34 (bt := 97) (c := .agg [.agg [.lit (.int .i64 rg), .lit (.int .i64 rn)], .lit (.int .i64 ep), .lit (.int .i64 se), .slice none (L.map caAV), tagAV zeroTag, .nils]) (by simp (disch := omega) [go_sem, *, -List.reduceReplicate]; try rfl) rfl ?_
 refine go_loopF mixed (by kernel_rfl) [11, 25, 26, 27, 28, 29, 30, 31, 32, 33, 34, 35, 36, 37, 38, 39] [N+12, N+17] (fun m_ s_ σ_ n_ => ∃ (u : Nat), m_ = gs.length - u ∧ s_ 25 = .lit (.int .i64 u) ∧ σ_ (N+12) = .box 97 (.agg [.agg [.lit (.int .i64 rg), .lit (.int .i64 rn)], .lit (.int .i64 ep), .lit (.int .i64 se), .slice none (L.map caAV), tagAV zeroTag, .ms (N + 17) u 34 0 u]) ∧ σ_ (N+17) = .mrow u 67 34 (shX gs u) ∧ (u ≤ gs.length)) ⟨_, 0, rfl, WF, WF, WF, WC⟩ ?_
 intro m_1 s_1 σ_1 n_1 hs_1 hf_1 hn_1 hI_1
 obtain ⟨u, hm_1, h1_25, e1_0, e1_1, hu⟩ := hI_1
 have h1_0 := KS hs_1 0
 have h1_2 := KS hs_1 2
 have h1_5 := KS hs_1 5
 have h1_7 := KS hs_1 7
 have h1_8 := KS hs_1 8
 have h1_9 := KS hs_1 9
 have h1_23 := KS hs_1 23
 have h1_24 := KS hs_1 24
 have k1_0 := KE hf_1 (N)
 have k1_1 := KE hf_1 (N + 1)
 have k1_2 := KE hf_1 (N + 2)
 have k1_3 := KE hf_1 (q)
 have k1_4 := KE hf_1 (r1)
 have k1_5 := KE hf_1 (r2)
 have k1_6 := KE hf_1 (g)
 have k1_7 := KE hf_1 (h)
 have hlow := KL (N := N) (σ := σ) hf_1
 by_cases hul : u = gs.length
 ·subst hul
  rw [shX_all, hD00] at e1_1
  clear hu
  rw [hD00] at hc
  clear hD00
  iterate 2 refine Wz ?_
  (apply go_region; · (simp only [List.length_cons, List.length_nil, Nat.reduceAdd, Nat.add_assoc]; rfl))
  refine Wm ?_
  refine go_callLendG (d := h) (pre := [(N + 17, .mrow gs.length 67 34 (D0.map boAV)), (h, .glob 0 (.agg bitsL))]) hc bitsL_shut (by simp) (by simp (disch := omega) [go_sem, *, -List.reduceReplicate]) rfl (by simp) (by
   simp (disch := omega) [go_sem, *, -List.reduceReplicate]
   exact .cons (.agg (.cons (.shut (AV.le_refl _) rfl) (.cons (.shut (AV.le_refl _) rfl) (.cons (.shut (AV.le_refl _) rfl) (.cons (.shut (AV.le_refl _) (cas_shut L)) (.cons (.shut (AV.le_refl _) (tagAV_shut _)) (.cons (.ms (List.mem_cons_self ..) (by simp [hD0]) (bos_shut D0)) .nil))))))) .nil) (by simp (disch := omega) [go_sem, *, -List.reduceReplicate]) ?_
  have hcs := And.intro c1 True.intro
  refine Wm ?_
  have hcs := And.intro c2 (And.intro c3 True.intro)
  clear c1 c2 c3 hc
  refine Wk ?_
  clear hcs
  refine go_loopF mixed (by kernel_rfl) [12, 13, 53, 54, 55, 56, 57, 58, 59, 60, 61, 62, 63, 64, 65, 66, 67, 68] [q, r1, N+12, N+17] (fun m_ s_ σ_ n_ => ∃ (v : Nat), m_ = gs.length - v ∧ s_ 53 = .lit (.int .i64 v) ∧ σ_ (q) = .box 203 (.agg [.agg [.lit (.bool a.free), tagAV a.seed, .lit (.int .i64 a.fresh), .slice (some r1) (a.macs.map macAV), .slice (some r2) (a.boxes.map sealAV)], .lit (.int .i64 (e : Int))]) ∧ σ_ (r1) = .row 149 65 a.macs.length ∧ σ_ (N+12) = .box 97 (.agg [.agg [.lit (.int .i64 rg), .lit (.int .i64 rn)], .lit (.int .i64 ep), .lit (.int .i64 se), .slice none (L.map caAV), tagAV zeroTag, .ms (N + 17) gs.length 34 0 gs.length]) ∧ σ_ (N+17) = .mrow gs.length 67 34 (D0.map boAV) ∧ (v ≤ gs.length)) ⟨_, 0, rfl, WF, WF, WF, WF, WF, WC⟩ ?_
  intro m_2 s_2 σ_2 n_2 hs_2 hf_2 hn_2 hI_2
  obtain ⟨v, hm_2, h2_53, e2_0, e2_1, e2_2, e2_3, hv⟩ := hI_2
  have h2_0 := KS hs_2 0
  have h2_5 := KS hs_2 5
  have h2_7 := KS hs_2 7
  have h2_8 := KS hs_2 8
  have h2_9 := KS hs_2 9
  have h2_51 := KS hs_2 51
  have h2_52 := KS hs_2 52
  have k2_0 := KE hf_2 (N)
  have k2_1 := KE hf_2 (N + 1)
  have k2_2 := KE hf_2 (N + 2)
  have k2_3 := KE hf_2 (r2)
  have k2_4 := KE hf_2 (g)
  have hlow : ∀ id, id < N → id ≠ q → id ≠ r1 → σ_2 id = σ id := fun id hid hdd0 hdd1 => (hf_2.at id (by omega) (by simp [hdd0, hdd1]; try omega)).trans (by simp (disch := omega) only [upd_ne, wr_cons, wr_nil]; try first | exact hlow id hid hdd0 hdd1 | exact hlow id hid)
  by_cases hvl : v = gs.length
  ·subst hvl
   clear hv hDv
   iterate 2 refine Wz ?_
   refine go_freezeIn (N + 12) [5] (r := N + 17) (ver := gs.length) (size := 34) (e := 67) (xs := D0.map boAV) (k := gs.length) (by simp (disch := omega) [go_sem, *, -List.reduceReplicate]; try exact ⟨rfl, rfl⟩) (by simp (disch := omega) [go_sem, *, -List.reduceReplicate]) (by simp (disch := omega) [go_sem, *, -List.reduceReplicate]) (by simp [hD0]) ?_
   refine Wk ?_
   refine go_resultW [(q, (.box 203 (.agg [.agg [.lit (.bool a.free), tagAV a.seed, .lit (.int .i64 a.fresh), .slice (some r1) (a.macs.map macAV), .slice (some r2) (a.boxes.map sealAV)], .lit (.int .i64 (e : Int))]))), (r1, (.row 149 65 a.macs.length))] (by simp (disch := omega) [go_sem, *, -List.reduceReplicate]; rfl) (by first | rfl | (simp (disch := omega) [go_sem]; done) | (simp (disch := omega) [go_sem, *]; done) | simp (disch := omega) [go_sem]) (fun id hid => by simp only [wr_cons, wr_nil]; (by_cases hdd : id = q; (· (subst hdd; simp (disch := omega) [go_sem, *])); (· (by_cases hdd2 : id = r1; (· (subst hdd2; simp (disch := omega) [go_sem, *])); (· (simp (disch := omega) only [upd_ne]; try (first | exact hlow id hid hdd hdd2 | exact hlow id hid))))))) (by simp) (by simp (disch := omega) [go_sem, *])
  ·have hv1 : v < gs.length := by omega
   have hv1i : (v : Int) < (gs.length : Int) := by omega
   obtain ⟨z, hz⟩ : ∃ z, gs[v] = z := ⟨_, rfl⟩
   have hz0 : gs[v]? = some z := by rw [List.getElem?_eq_getElem hv1, hz]
   have hzm : (gs.map diAV)[v]? = some (diAV z) := by rw [List.getElem?_map, hz0]; rfl
   obtain ⟨hgt, hgc⟩ := hgm z (by rw [← hz]; exact List.getElem_mem _)
   have c3 := dInto_err a m ha (by omega) e he z tg ⟨rg, rn⟩ hgt hgc q r1 r2 g
   obtain ⟨hy0, hset⟩ := hDv v z hz0
   rw [hrA] at c3
   unfold makE at c3
   simp only [List.cons_append, List.nil_append] at c3
   simp only [makB_def, rowM_eq, rowB_eq] at c3
   generalize blankBo z = y at *
   have hv2 : v < D0.length := by omega
   have hym : (D0.map boAV)[v]? = some (boAV y) := by rw [List.getElem?_map, hy0]; rfl
   have hysz : AV.szl ((D0.map boAV).take v) = v * 34 := by
    rw [← List.map_take, AV.szl_uniform _ 34 (fun x hx => by obtain ⟨c, _, rfl⟩ := List.mem_map.1 hx; exact boAV_sz c), List.length_map, List.length_take, Nat.min_eq_left (by omega)]
   have hyo : (AV.agg (D0.map boAV)).offs [v] = v * 34 := by simp only [AV.offs, hym, hysz]; rfl
   clear hDv hgt hgc hgm ha
   have hcs := And.intro c3 True.intro
   clear c3
   refine Wk ?_
   clear hcs
   exact ⟨WS, WG, WN, _, (show gs.length - (v + 1) < m_2 by omega), v + 1, rfl, WF, WF, WF, WF, WF, WC⟩
 ·have hu1 : u < gs.length := by omega
  have hu1i : (u : Int) < (gs.length : Int) := by omega
  obtain ⟨z, hz⟩ : ∃ z, gs[u] = z := ⟨_, rfl⟩
  have hzm : (gs.map diAV)[u]? = some (.agg [.slice none (z.ticket.map byteAV), .slice none (z.conds.map prAV), tagAV z.tag]) := by rw [List.getElem?_map, List.getElem?_eq_getElem hu1, hz]; rfl
  have htk := shX_succ hu1 hz
  have htk2 : (shX gs u).take u ++ [.agg [.slice none (z.ticket.map byteAV), .slice none (z.conds.map prAV), tagAV zeroTag]] = shX gs (u + 1) := by rw [List.take_of_length_le (by rw [shX_len hu]; exact Nat.le_refl _)]; exact htk
  have hXl := shX_len hu
  have hb26 : (u + 1) * 80 ≤ 140737488355328 := by omega
  have hb27 : u ≤ 140737488355327 := by omega
  clear c1 c2 c3 hc hDv
  refine Wk ?_
  exact ⟨WS, WG, WN, _, (show gs.length - (u + 1) < m_1 by omega), u + 1, rfl, WF, WF, WF, WC⟩
set_option maxHeartbeats 4000000 in
theorem Present_err (a : Alg) (m : Nat) (ha : AlgIn a m) (p : Pa) (gs : List Di) (r : Rq) (hg : gs.length ≤ 100) (hm : m ≤ 50000) (hb : BuIn (shellB p gs r)) (e : Nat) (hE : chkS (shellB p gs r) = e) (he : e ≠ 0) (hpl : p.cavs.length ≤ 1000) (hcm : ∀ c ∈ p.cavs, CaSm c) (hgm : ∀ d ∈ gs, d.ticket.length ≤ 100000 ∧ d.conds.length ≤ 100000) (g h k : Nat) (hgh : g ≠ h) :
  ACall Tryz.prog 49 [algAV a, paAV p, .slice none (gs.map diAV), rqAV r] k [(g, shaG), (h, bitsG)] (.tup [algAV alg0, buAV bu0P, .lit (.int .i64 (e : Int))]) [] := by
 have cb := Begin_spec a (by have := ha.ml; omega) (by have := ha.bl; omega)
 have c1 := fun q r1 r2 => bInto_err a m ha p gs r hg hm hb e hE he hpl hcm hgm q r1 r2 g h
 have cd := Done_bad a e he
 have h1i : ((e : Int) != 0) = true := by rw [bne_iff_ne]; omega
 generalize shellB p gs r = b1 at *
 clear ha hb hE hcm hgm
 have hz : buAV bu0P = .agg [.agg [.lit (.int .i64 0), .lit (.int .i64 0)], .lit (.int .i64 0), .lit (.int .i64 0), .slice none [], tagAV zeroTag, .slice none []] := rfl
 rw [hz]
 unfold makAV at cb
 unfold makE at c1 cd
 simp only [List.cons_append, List.nil_append] at *
 simp only [makB_def, rowM_eq, rowB_eq, alg0_eq] at *
 clear hz
 refine Bd Tryz.func49 Tryz.ntmps49 fun σ N hp hpn hk hkn hfree => ?_
 simp only [List.mem_cons, List.not_mem_nil, or_false, forall_eq_or_imp, forall_eq] at hp hpn; obtain ⟨hd1, hd2⟩ := hp; obtain ⟨hdn1, hdn2⟩ := hpn
 have hcs := And.intro cb True.intro
 refine Wm ?_
 iterate 2 refine Wz ?_
 clear hcs
 refine go_cliprowIn (N + 6 + 1) [0, 3] 149 65 (bt := 203) (c := .agg [.agg [.lit (.bool a.free), tagAV a.seed, .lit (.int .i64 a.fresh), .clip (a.macs.map macAV), .clip (a.boxes.map sealAV)], .lit (.int .i64 ((0 : Nat) : Int))]) (xs := a.macs.map macAV) (by simp (disch := omega) [go_sem, *, -List.reduceReplicate]) rfl (all_macs1 _) ?_; refine go_cliprowIn (N + 6 + 1) [0, 4] 151 35 (bt := 203) (c := .agg [.agg [.lit (.bool a.free), tagAV a.seed, .lit (.int .i64 a.fresh), .slice (some (N + 6 + 3)) (a.macs.map macAV), .clip (a.boxes.map sealAV)], .lit (.int .i64 ((0 : Nat) : Int))]) (xs := a.boxes.map sealAV) (by simp (disch := omega) [go_sem, *, -List.reduceReplicate]) rfl (all_boxes1 _) ?_
 have hcs := And.intro (c1 (N + 6 + 1) (N + 6 + 3) (N + 6 + 3 + 1)) (And.intro (cd (N + 6 + 1) (N + 6 + 3) (N + 6 + 3 + 1)) True.intro)
 clear cb c1 cd
 refine Wk ?_
 exact WD
omit W in
set_option maxHeartbeats 8000000 in
theorem refPres_err (a : Alg) (p : Pa) (gs : List Di) (r : Rq) (hg : gs.length ≤ 100) (hb : BuIn (shellB p gs r)) (e : Nat) (hE : chkS (shellB p gs r) = e) (he : e ≠ 0) (k : Nat) :
  ACall Tryz.prog 57 [algAV a, paAV p, .slice none (gs.map diAV), rqAV r] k [] (.tup [algAV alg0, buAV bu0P, .lit (.int .i64 (e : Int))]) [] := by
 have hc := refChk_spec (shellB p gs r) hb 0
 rw [hE] at hc
 have h1i : ((e : Int) != 0) = true := by rw [bne_iff_ne]; omega
 clear hb hE he
 obtain ⟨ep, se, L, tg⟩ := p
 obtain ⟨rg, rn⟩ := r
 have hpA : paAV ⟨ep, se, L, tg⟩ = .agg [.lit (.int .i64 ep), .lit (.int .i64 se), .slice none (L.map caAV), tagAV tg] := rfl
 have hrA : rqAV ⟨rg, rn⟩ = .agg [.lit (.int .i64 rg), .lit (.int .i64 rn)] := rfl
 have hsA : buAV (shellB ⟨ep, se, L, tg⟩ gs ⟨rg, rn⟩) = .agg [.agg [.lit (.int .i64 rg), .lit (.int .i64 rn)], .lit (.int .i64 ep), .lit (.int .i64 se), .slice none (L.map caAV), tagAV zeroTag, .slice none ((gs.map blankBo).map boAV)] := rfl
 have hz : buAV bu0P = .agg [.agg [.lit (.int .i64 0), .lit (.int .i64 0)], .lit (.int .i64 0), .lit (.int .i64 0), .slice none [], tagAV zeroTag, .slice none []] := rfl
 rw [hsA] at hc
 rw [hpA, hrA, hz, alg0_eq]
 clear hpA hsA hz hrA
 have hb24 : gs.length * 80 ≤ 140737488355328 := by omega
 have hb25 : gs.length ≤ 140737488355327 := by omega
 refine Bd Tryz.func57 Tryz.ntmps57 fun σ N hp hpn hk hkn hfree => ?_
 refine Wk ?_
 refine go_nilMIn (N + 14) [5] 67 34 (bt := 97) (c := .agg [.agg [.lit (.int .i64 rg), .lit (.int .i64 rn)], .lit (.int .i64 ep), .lit (.int .i64 se), .slice none (L.map caAV), tagAV zeroTag, .nils]) (by simp (disch := omega) [go_sem, *, -List.reduceReplicate]; try rfl) rfl ?_
 refine go_loopF mixed (by kernel_rfl) [12, 25, 26, 27, 28, 29, 30, 31, 32, 33, 34, 35, 36, 37, 38, 39, 40, 41, 42, 43, 44, 45, 46] [N+14, N+17] (fun m_ s_ σ_ n_ => ∃ (u : Nat), m_ = gs.length - u ∧ s_ 12 = .lit (.int .i64 u) ∧ σ_ (N+14) = .box 97 (.agg [.agg [.lit (.int .i64 rg), .lit (.int .i64 rn)], .lit (.int .i64 ep), .lit (.int .i64 se), .slice none (L.map caAV), tagAV zeroTag, .ms (N + 17) u 34 0 u]) ∧ σ_ (N+17) = .mrow u 67 34 (shX gs u) ∧ (u ≤ gs.length)) ⟨_, 0, rfl, WF, WF, WF, WC⟩ ?_
 intro m_3 s_3 σ_3 n_3 hs_3 hf_3 hn_3 hI_3
 obtain ⟨u, hm_3, h3_12, e3_0, e3_1, hu⟩ := hI_3
 have h3_2 := KS hs_3 2
 have h3_4 := KS hs_3 4
 have h3_5 := KS hs_3 5
 have h3_7 := KS hs_3 7
 have h3_8 := KS hs_3 8
 have h3_9 := KS hs_3 9
 have h3_10 := KS hs_3 10
 have h3_11 := KS hs_3 11
 have k3_0 := KE hf_3 (N)
 have k3_1 := KE hf_3 (N + 1)
 have k3_2 := KE hf_3 (N + 2)
 have k3_3 := KE hf_3 (N + 3)
 have k3_4 := KE hf_3 (N + 4)
 have hlow := KL (N := N) (σ := σ) hf_3
 by_cases hul : u = gs.length
 ·subst hul
  rw [shX_all] at e3_1
  have hD0 : (gs.map blankBo).length = gs.length := List.length_map ..
  clear hu
  generalize gs.map blankBo = D0 at *
  iterate 2 refine Wz ?_
  (apply go_region; · (simp only [List.length_cons, List.length_nil, Nat.reduceAdd, Nat.add_assoc]; rfl))
  refine Wm ?_
  refine go_callLend (pre := [(N + 17, .mrow gs.length 67 34 (D0.map boAV))]) hc (by simp (disch := omega) [go_sem, *, -List.reduceReplicate]) rfl (by simp) (by
   simp (disch := omega) [go_sem, *, -List.reduceReplicate]
   exact .cons (.agg (.cons (.shut (AV.le_refl _) rfl) (.cons (.shut (AV.le_refl _) rfl) (.cons (.shut (AV.le_refl _) rfl) (.cons (.shut (AV.le_refl _) (cas_shut L)) (.cons (.shut (AV.le_refl _) (tagAV_shut _)) (.cons (.ms (List.mem_singleton.2 rfl) (by simp [hD0]) (bos_shut D0)) .nil))))))) .nil) (by simp (disch := omega) [go_sem, *, -List.reduceReplicate]) ?_
  clear hc
  refine Wk ?_
  exact WD
 ·have hu1 : u < gs.length := by omega
  have hu1i : (u : Int) < (gs.length : Int) := by omega
  obtain ⟨z, hz⟩ : ∃ z, gs[u] = z := ⟨_, rfl⟩
  have hzm : (gs.map diAV)[u]? = some (.agg [.slice none (z.ticket.map byteAV), .slice none (z.conds.map prAV), tagAV z.tag]) := by rw [List.getElem?_map, List.getElem?_eq_getElem hu1, hz]; rfl
  have htk := shX_succ hu1 hz
  have htk2 : (shX gs u).take u ++ [.agg [.slice none (z.ticket.map byteAV), .slice none (z.conds.map prAV), tagAV zeroTag]] = shX gs (u + 1) := by rw [List.take_of_length_le (by rw [shX_len hu]; exact Nat.le_refl _)]; exact htk
  have hXl := shX_len hu
  have hb26 : (u + 1) * 80 ≤ 140737488355328 := by omega
  have hb27 : u ≤ 140737488355327 := by omega
  refine Wk ?_
  exact ⟨WS, WG, WN, _, (show gs.length - (u + 1) < m_3 by omega), u + 1, rfl, WF, WF, WF, WC⟩
def pprfO (a : Alg) (tag : Tg) (r : Rq) : Option Tg := if rqB r = true then lookO a tag (reqM r.gate.toNat r.nonce.toNat) else none
set_option maxHeartbeats 2000000 in
theorem bProof_spec (a : Alg) (m : Nat) (ha : AlgIn a m) (hm : m ≤ 60000) (tag : Tg) (r : Rq) (g k : Nat) :
  ACall Tryz.prog 59 [algAV a, tagAV tag, rqAV r] k [(g, shaG)] (entAV (pprfO a tag r)) [] := by
 have c1 := Req_spec r
 unfold pprfO
 cases hr : rqB r with
 | false =>
  rw [hr] at c1
  rw [if_neg (by simp)]
  unfold entAV
  simp only [Option.getD_none, Option.isSome_none]
  obtain ⟨rg, rn⟩ := r
  have hrA : rqAV ⟨rg, rn⟩ = .agg [.lit (.int .i64 rg), .lit (.int .i64 rn)] := rfl
  rw [hrA] at c1 ⊢
  clear ha hrA hr
  refine Bd Tryz.func59 Tryz.ntmps59 fun σ N hp hpn hk hkn hfree => ?_
  obtain ⟨hd, hdn⟩ := HD0 hp hpn; clear hp hpn
  have hcs := And.intro c1 True.intro
  clear c1
  exact W0
 | true =>
  rw [hr] at c1
  rw [if_pos rfl]
  obtain ⟨⟨q1, q2⟩, q3, q4⟩ := rqB_iff.1 hr
  have c4 := dMsg_spec [114, 101, 113, 117, 101, 115, 116] [] r.gate.toNat r.nonce.toNat (by decide) (by decide) (by omega) (by omega)
  have hml := reqM_len (g := r.gate.toNat) (n := r.nonce.toNat) (by omega) (by omega)
  have hmp : 0 < (reqM r.gate.toNat r.nonce.toNat).length := by simp [reqM]
  have hbm : [114, 101, 113, 117, 101, 115, 116] ++ ([] ++ (leb r.gate.toNat ++ leb r.nonce.toNat)) = reqM r.gate.toNat r.nonce.toNat := rfl
  rw [hbm] at c4
  simp only [List.map_nil] at c4
  have c5 := Look_spec a tag (reqM r.gate.toNat r.nonce.toNat) (by have := ha.ml; omega) ha.mm hmp (by omega) g
  generalize lookO a tag (reqM r.gate.toNat r.nonce.toNat) = o at *
  unfold entAV at *
  generalize o.getD zeroTag = t1 at *
  generalize o.isSome = ok1 at *
  obtain ⟨rg, rn⟩ := r
  simp only at *
  rw [show ((rg.toNat : Nat) : Int) = rg by omega, show ((rn.toNat : Nat) : Int) = rn by omega] at c4
  generalize reqM rg.toNat rn.toNat = bm at *
  have hrA : rqAV ⟨rg, rn⟩ = .agg [.lit (.int .i64 rg), .lit (.int .i64 rn)] := rfl
  rw [hrA] at c1 ⊢
  clear ha hrA hbm hml hmp hr
  refine Bd Tryz.func59 Tryz.ntmps59 fun σ N hp hpn hk hkn hfree => ?_
  obtain ⟨hd, hdn⟩ := HD0 hp hpn; clear hp hpn
  have hcs := And.intro c1 (And.intro c4 (And.intro c5 True.intro))
  clear c1 c4 c5
  exact W0
set_option maxHeartbeats 2000000 in
theorem refBProof_spec (a : Alg) (m : Nat) (ha : AlgIn a m) (hm : m ≤ 60000) (tag : Tg) (r : Rq) (k : Nat) :
  ACall Tryz.prog 60 [algAV a, tagAV tag, rqAV r] k [] (entAV (pprfO a tag r)) [] := by
 have c1 := refRqOk_spec r
 unfold pprfO
 cases hr : rqB r with
 | false =>
  rw [hr] at c1
  rw [if_neg (by simp)]
  unfold entAV
  simp only [Option.getD_none, Option.isSome_none]
  obtain ⟨rg, rn⟩ := r
  have hrA : rqAV ⟨rg, rn⟩ = .agg [.lit (.int .i64 rg), .lit (.int .i64 rn)] := rfl
  rw [hrA] at c1 ⊢
  clear ha hrA hr
  refine Bd Tryz.func60 Tryz.ntmps60 fun σ N hp hpn hk hkn hfree => ?_
  have hcs := And.intro c1 True.intro
  clear c1
  exact W0
 | true =>
  rw [hr] at c1
  rw [if_pos rfl]
  obtain ⟨⟨q1, q2⟩, q3, q4⟩ := rqB_iff.1 hr
  have c4 := refReqM_spec r.gate.toNat r.nonce.toNat (by omega) (by omega)
  have c5 := refLook_spec a tag (reqM r.gate.toNat r.nonce.toNat) (by have := ha.ml; omega) ha.mm
  generalize lookO a tag (reqM r.gate.toNat r.nonce.toNat) = o at *
  unfold entAV at *
  generalize o.getD zeroTag = t1 at *
  generalize o.isSome = ok1 at *
  obtain ⟨rg, rn⟩ := r
  simp only at *
  rw [show ((rg.toNat : Nat) : Int) = rg by omega, show ((rn.toNat : Nat) : Int) = rn by omega] at c4
  generalize reqM rg.toNat rn.toNat = bm at *
  have hrA : rqAV ⟨rg, rn⟩ = .agg [.lit (.int .i64 rg), .lit (.int .i64 rn)] := rfl
  rw [hrA] at c1 ⊢
  clear ha hrA hr
  refine Bd Tryz.func60 Tryz.ntmps60 fun σ N hp hpn hk hkn hfree => ?_
  have hcs := And.intro c1 (And.intro c4 (And.intro c5 True.intro))
  clear c1 c4 c5
  exact W0
end
end Go.Proofs.YtdmjpolnbmoehaaGreatDoor
