/- Texts E7, E12, E10, Y10, O9, E20, U26, Y13, joined. -/
import Derived.Test.YtemmlldpmgfblaaGreatDoorMD1

namespace Go.Proofs.YtemmlldpmgfblaaGreatDoor
open Go.Ab
attribute [local irreducible] Go.Ab.tyAV Go.Ab.aw Go.Ab.aops Go.Ab.kReg Go.Ab.aThen Go.Ab.aBlk Go.Ab.acond Go.Ab.aguard Go.Ab.astep Go.Ab.AStepX Go.Ab.aRet
end Go.Proofs.YtemmlldpmgfblaaGreatDoor

namespace Go.Proofs.YtemmlldpmgfblaaGreatDoor
open Go.Ab
theorem chunks6_len_eq (l : List Bool) : (chunks6 l).length = (l.length + 5) / 6 := by
 induction h : l.length using Nat.strongRecOn generalizing l with
 | _ n ih =>
  rw [chunks6]
  split
  ·rename_i h0; subst h0; simp at h; subst h; rfl
  ·rename_i hne
   have h0 : 0 < l.length := List.length_pos_iff.2 hne
   have hd : (l.drop 6).length = l.length - 6 := List.length_drop
   have := ih (l.drop 6).length (by omega) (l.drop 6) rfl
   simp only [List.length_cons]; omega
theorem textS_len_eq (b : List UInt8) : (textS b).length = (8 * b.length + 5) / 6 := by
 rw [textS, List.length_map, chunks6_len_eq, bitsB_len]
theorem decS_len (s : List UInt8) : (decS s).1.length ≤ 5000 := by
 unfold decS
 split
 ·simp
 ·split
  ·simp
  ·rename_i vs hv
   have := vals_len _ _ hv
   split
   ·simp
   ·split
    ·simp
    ·simp only [grp8_len, bits6_len]; omega

theorem bits6_chunks6 (l : List Bool) : bits6 (chunks6 l) = l ++ List.replicate ((6 - l.length % 6) % 6) false := by
 induction h : l.length using Nat.strongRecOn generalizing l with
 | _ n ih =>
  rw [chunks6]
  split
  ·rename_i h0; subst h0; simp at h; subst h; rfl
  ·rename_i hne
   have h0 : 0 < l.length := List.length_pos_iff.2 hne
   have hd : (l.drop 6).length = l.length - 6 := List.length_drop
   have hx : (l.take 6 ++ List.replicate (6 - l.length) false).length = 6 := by simp; omega
   have hb := bitsN_num (l.take 6 ++ List.replicate (6 - l.length) false)
   rw [hx] at hb
   rw [bits6_cons, hb, ih (l.drop 6).length (by omega) (l.drop 6) rfl, hd]
   by_cases h6 : 6 ≤ l.length
   ·rw [show 6 - l.length = 0 by omega, List.replicate_zero, List.append_nil, ← List.append_assoc, List.take_append_drop, show (l.length - 6) % 6 = n % 6 by omega]
   ·rw [List.drop_eq_nil_of_le (by omega), List.take_of_length_le (by omega), show (6 - (l.length - 6) % 6) % 6 = 0 by omega, show (6 - n % 6) % 6 = 6 - l.length by omega]
    simp
theorem chunks6_lt (l : List Bool) : ∀ v ∈ chunks6 l, v < 64 := by
 induction h : l.length using Nat.strongRecOn generalizing l with
 | _ n ih =>
  rw [chunks6]
  split
  ·intro v hv; cases hv
  ·rename_i hne
   have h0 : 0 < l.length := List.length_pos_iff.2 hne
   have hd : (l.drop 6).length = l.length - 6 := List.length_drop
   intro v hv
   rcases List.mem_cons.1 hv with rfl | hv
   ·have hx : (l.take 6 ++ List.replicate (6 - l.length) false).length = 6 := by simp; omega
    have := num_lt (l.take 6 ++ List.replicate (6 - l.length) false)
    rw [hx] at this; exact this
   ·exact ih (l.drop 6).length (by omega) (l.drop 6) rfl v hv
theorem vals_map : ∀ (L : List Nat), (∀ v ∈ L, v < 64) → vals (L.map alph) = some L
 | [], _ => rfl
 | v :: r, h => by
  obtain ⟨h1, h2⟩ := (alph_val (alph v) v (h v (by simp))).1 rfl
  simp only [List.map_cons, vals]
  rw [if_pos h1, vals_map r (fun x hx => h x (by simp [hx])), h2, Option.map_some]
theorem grp8_bitsB (b : List UInt8) (z : List Bool) (hz : z.length < 8) : grp8 (bitsB b ++ z) = b ∧ left8 (bitsB b ++ z) = z := by
 induction b with
 | nil => rw [bitsB_nil, List.nil_append]; exact ⟨grp8_small hz, left8_small hz⟩
 | cons x r ih =>
  have hl := bits8_len x
  have h8 : 8 ≤ (bitsB (x :: r) ++ z).length := by rw [bitsB_cons, List.length_append, List.length_append]; omega
  have h1 : (bitsB (x :: r) ++ z).take 8 = bits8 x := by rw [bitsB_cons, List.append_assoc, ← hl, List.take_left]
  have h2 : (bitsB (x :: r) ++ z).drop 8 = bitsB r ++ z := by rw [bitsB_cons, List.append_assoc, ← hl, List.drop_left]
  rw [grp8_big h8, left8_big h8, h1, h2, ih.1, ih.2, num_bits8, UInt8.ofNat_toNat]
  exact ⟨rfl, rfl⟩
theorem num_rep (n : Nat) : num (List.replicate n false) = 0 := num_zero _ fun j h => by
 rw [List.getElem?_replicate] at h
 split at h <;> simp at h
theorem back_plain (b : List UInt8) (h : b.length ≤ 4096) : decS (textS b) = (b, 0) := by
 have hl := textS_len_eq b
 have hb := bitsB_len b
 rw [decS, if_neg (by omega), textS, vals_map _ (chunks6_lt _)]
 simp only
 rw [if_neg (by rw [List.length_map, chunks6_len_eq, hb]; omega), bits6_chunks6]
 obtain ⟨h1, h2⟩ := grp8_bitsB b (List.replicate ((6 - (bitsB b).length % 6) % 6) false) (by rw [List.length_replicate]; omega)
 rw [h1, h2, num_rep, if_neg (by simp)]
end Go.Proofs.YtemmlldpmgfblaaGreatDoor

namespace Go.Proofs.YtemmlldpmgfblaaGreatDoor
open Go.Ab
attribute [local irreducible] Go.Ab.tyAV Go.Ab.aw Go.Ab.aops Go.Ab.kReg Go.Ab.aThen Go.Ab.aBlk Go.Ab.acond Go.Ab.aguard Go.Ab.astep Go.Ab.AStepX Go.Ab.aRet
def parB (s : List UInt8) : Bu × Nat := if (decS s).2 ≠ 0 then (bu0, (decS s).2) else decB (decS s).1
theorem BParse_spec (s : List UInt8) (hs : s.length ≤ 9223372036854775807) (d k : Nat) : ACall Tryz.prog 46 [strAV s] k [(d, bitsG)] (decBAV (parB s)) [] := by
 have c1 := dec_spec s hs
 have hl := decS_len s
 unfold parB
 generalize decS s = R at *
 obtain ⟨x, e⟩ := R
 simp only [decAV] at *
 by_cases he : e ≠ 0
 ·rw [if_pos he]
  have he' : ((e : Int) != 0) = true := by simp; omega
  simp only [decBAV]
  rw [bu0_eq]
  refine Bd Tryz.func46 Tryz.ntmps46 fun σ N hp hpn hk hkn hfree => ?_
  obtain ⟨hd, hdn⟩ := HD0 hp hpn; clear hp hpn
  have hcs := And.intro c1 True.intro
  clear c1
  exact WD
 ·obtain rfl : e = 0 := by omega
  rw [if_neg he]
  have c2 := bDec_spec x (by omega) d
  generalize decB x = Q at *
  obtain ⟨B, f⟩ := Q
  simp only [decBAV] at *
  refine Bd Tryz.func46 Tryz.ntmps46 fun σ N hp hpn hk hkn hfree => ?_
  obtain ⟨hd, hdn⟩ := HD0 hp hpn; clear hp hpn
  have hcs := And.intro c1 (And.intro c2 True.intro)
  clear c1 c2
  exact WD
theorem parB_text (z : Bu) (hz : BuIn z) (hc : chkS z = 0) : parB (textS (encBu z)) = (z, 0) := by
 unfold parB
 rw [back_plain _ (chk_valid hz hc).2, if_neg (by simp)]
 exact decB_enc z hz hc
theorem BuV.sm {z : Bu} (h : BuV z) : BuSm z :=
 ⟨Nat.le_trans h.cl (by decide), Nat.le_trans h.dl (by decide), fun c hc => by
  have := CV.of (h.cv c hc).1
  cases this with
  | first p hp => exact ⟨by simp, by simp⟩
  | third n hn t b ht hb => exact ⟨by simp only; omega, by simp only; omega⟩, fun d hd => by
  have := h.dv d hd
  exact ⟨Nat.le_trans this.t2 (by decide), Nat.le_trans this.cl (by decide)⟩⟩

def vD : List Bo → Nat
 | [] => 0
 | d :: r => 3 + d.conds.length + vD r
theorem vD_take : ∀ {l : List Bo} {u : Nat} {z : Bo} (h : u < l.length), l[u] = z → vD (l.take (u + 1)) = vD (l.take u) + (3 + z.conds.length)
 | d :: r, 0, z, _, hz => by subst hz; simp [vD]
 | d :: r, u + 1, z, h, hz => by
  have := vD_take (l := r) (u := u) (z := z) (by simpa using h) (by simpa using hz)
  rw [List.take_succ_cons, List.take_succ_cons, vD, vD, this]; omega
def verB (b : Bu) : Nat := 7 + b.cavs.length + vD b.dis
set_option maxHeartbeats 8000000 in
theorem refBytes_m (b : Bu) (hb : BuV b) (k : Nat) :
  ACall Tryz.prog 62 [buAV b] k [] (.ms k (verB b) 1 0 (encBu b).length) [(k, .mrow (verB b) 5 1 ((encBu b).map byteAV))] := by
 obtain ⟨⟨g, n⟩, e, s, cavs, pr, dis⟩ := b
 obtain ⟨⟨g0, g1⟩, n0, n1⟩ := rqB_iff.1 hb.rq
 have he1 := hb.e1
 have he2 := hb.e2
 have hs1 := hb.s1
 have hs2 := hb.s2
 have hcl := hb.cl
 have hcv := hb.cv
 have hdl := hb.dl
 have hdv := hb.dv
 clear hb
 simp only at g0 g1 n0 n1 he1 he2 hs1 hs2 hcl hcv hdl hdv
 obtain ⟨g, rfl⟩ := Int.eq_ofNat_of_zero_le g0
 obtain ⟨n, rfl⟩ := Int.eq_ofNat_of_zero_le (show 0 ≤ n by omega)
 obtain ⟨e, rfl⟩ := Int.eq_ofNat_of_zero_le (show 0 ≤ e by omega)
 obtain ⟨s, rfl⟩ := Int.eq_ofNat_of_zero_le (show 0 ≤ s by omega)
 unfold encBu headN buAV rqAV verB
 simp only [Int.toNat_natCast]
 obtain ⟨L5, hL5⟩ : ∃ L, [g, n, e, s, cavs.length] = L := ⟨_, rfl⟩
 have hL5n : ∀ x ∈ L5, x ≤ 281474976710656 := by rw [← hL5]; intro x hx; simp at hx; omega
 have hL5l : L5.length = 5 := by rw [← hL5]; rfl
 have hle5 : ∀ i : Option Nat, AV.le (.slice i [.lit (.int .i64 (g : Int)), .lit (.int .i64 (n : Int)), .lit (.int .i64 (e : Int)), .lit (.int .i64 (s : Int)), .lit (.int .i64 (cavs.length : Int))]) (natsAV L5) := fun i => by rw [← hL5]; exact AV.le_own _ _
 obtain ⟨R1, hR1⟩ : ∃ R, [1] ++ L5.flatMap leb = R := ⟨_, rfl⟩
 have hl1 : R1.length ≤ 48 := by
  have := flat_len leb 8 L5 fun x hx => by
   have := leb_len x 7 (by have := hL5n x hx; omega)
   omega
  rw [← hR1, List.length_append, List.length_singleton]; omega
 obtain ⟨R2, hR2⟩ : ∃ R, R1 ++ cavs.flatMap encC = R := ⟨_, rfl⟩
 have hl2 : R2.length ≤ 200000 := by
  rw [← hR2, List.length_append]
  have := flat_len encC 3000 cavs fun c hc => (encC_len c (hcv c hc).1).2
  omega
 obtain ⟨R3, hR3⟩ : ∃ R, R2 ++ pr.1 = R := ⟨_, rfl⟩
 have hl3 : R3.length = R2.length + 32 := by rw [← hR3, List.length_append, pr.2]
 have hm3 : R2.map byteAV ++ pr.1.map byteAV = R3.map byteAV := by rw [← hR3, List.map_append]
 obtain ⟨R4, hR4⟩ : ∃ R, R3 ++ leb dis.length = R := ⟨_, rfl⟩
 have c3 := fun k => Number_spec_f dis.length k (by omega)
 have hl4 : R4.length ≤ 200100 := by
  have := leb_len dis.length 7 (by omega)
  rw [← hR4, List.length_append]; omega
 have hm4 : R3.map byteAV ++ (leb dis.length).map byteAV = R4.map byteAV := by rw [← hR4, List.map_append]
 have hl4b : R3.length + (leb dis.length).length = R4.length := by rw [← hR4, List.length_append]
 have hhd : [1, g, n, e, s, cavs.length].flatMap leb = R1 := by
  have h1 : leb 1 = [1] := by rw [leb, dif_pos (by decide)]; rfl
  rw [← hR1, ← hL5, List.flatMap_cons, h1]
 have hfin : R1 ++ (cavs.flatMap encC ++ (pr.1 ++ (leb dis.length ++ dis.flatMap encBo))) = R4 ++ dis.flatMap encBo := by
  rw [← hR4, ← hR3, ← hR2]; simp
 rw [hhd, hfin]
 clear hfin hhd hL5 hR3 hR4
 generalize leb dis.length = lbd at *
 have ps1 := tagAV_sz pr
 have ps2 := tagAV_cell pr
 obtain ⟨K, hK⟩ := pr
 have hkA : tagAV ⟨K, hK⟩ = .agg (K.map byteAV) := rfl
 simp only [hkA] at ps1 ps2 hm3 ⊢
 clear hkA
 have ps3 : AV.celll (K.map byteAV) = true := celll_bytes K
 have htk : (K.map byteAV).take 32 = K.map byteAV := List.take_of_length_le (by rw [List.length_map]; omega)
 have b1 : AV.lit (.int .u8 1) = byteAV 1 := rfl
 have z1 : [1] ++ (L5.take 0).flatMap leb = [1] := by simp
 refine Bd Tryz.func62 Tryz.ntmps62 fun σ N hp hpn hk hkn hfree => ?_
 have M : Mut (N + 2) := ⟨⟩
 refine Wm ?_
 iterate 1 refine Wz ?_
 refine go_fixBox N (bt := 29) (x := .agg [.agg [.lit (.int .i64 (g : Int)), .lit (.int .i64 (n : Int))], .lit (.int .i64 (e : Int)), .lit (.int .i64 (s : Int)), .slice none (cavs.map caAV), .agg (K.map byteAV), .slice none (dis.map boAV)]) (by simp (disch := omega) [go_sem, *, -List.reduceReplicate]) ?_
 iterate 2 refine Wz ?_
 refine go_less 4 (by simp (disch := omega) [go_sem, *]) (hle5 (some (N + 4 + 13))) ?_
 refine Wk ?_
 clear hle5
 refine go_loopF mixed (by kernel_rfl) [3, 5, 29, 30, 31, 32, 33, 34, 35, 36, 37, 38, 39, 40, 41] [N+2] (fun m_ s_ σ_ n_ => ∃ (u : Nat) (acc : List UInt8), m_ = 5 - u ∧ s_ 5 = .lit (.int .i64 u) ∧ s_ 3 = .ms (N + 2) u 1 0 acc.length ∧ σ_ (N+2) = .mrow u 5 1 (acc.map byteAV) ∧ (u ≤ 5) ∧ (acc.length ≤ 1 + 8 * u) ∧ ([1] ++ (L5.take u).flatMap leb = acc)) ⟨_, 0, [1], rfl, WF, WF, WF, WC, WC, WC⟩ ?_
 intro m_1 s_1 σ_1 n_1 hs_1 hf_1 hn_1 hI_1
 obtain ⟨u, acc, hm_1, h1_5, h1_3, e1_0, hu, hal, hacc⟩ := hI_1
 have h1_1 := KS hs_1 1
 have h1_2 := KS hs_1 2
 have h1_4 := KS hs_1 4
 have k1_0 := KE hf_1 (N)
 have hlow := KL (N := N) (σ := σ) hf_1
 clear z1 b1
 by_cases hul : u = 5
 ·subst hul
  rw [List.take_of_length_le (by omega), hR1] at hacc
  subst hacc
  clear hR1 hL5n
  have z2 : R1 ++ (cavs.take 0).flatMap encC = R1 := by simp
  have hpre : ∀ u, (R1 ++ (cavs.take u).flatMap encC).length ≤ R2.length := fun u => by
   rw [← hR2, List.length_append, List.length_append]
   have := flat_take_le encC cavs u
   omega
  have hR12 : R1.length ≤ R2.length := by rw [← hR2, List.length_append]; omega
  refine Wk ?_
  refine go_loopF mixed (by kernel_rfl) [3, 6, 7, 8, 42, 43, 44, 45, 46, 47, 48, 49, 50, 51, 52, 53, 54, 55, 56, 57, 58, 59, 60] [N+2] (fun m_ s_ σ_ n_ => ∃ (u : Nat) (acc : List UInt8), m_ = cavs.length - u ∧ s_ 6 = .lit (.int .i64 u) ∧ s_ 3 = .ms (N + 2) (5 + u) 1 0 acc.length ∧ σ_ (N+2) = .mrow (5 + u) 5 1 (acc.map byteAV) ∧ (u ≤ cavs.length) ∧ (acc.length ≤ R2.length) ∧ (R1 ++ (cavs.take u).flatMap encC = acc)) ⟨_, 0, R1, rfl, WF, WF, WF, WC, WC, WC⟩ ?_
  intro m_2 s_2 σ_2 n_2 hs_2 hf_2 hn_2 hI_2
  obtain ⟨u, acc, hm_2, h2_6, h2_3, e2_0, hu, hal, hacc⟩ := hI_2
  have h2_1 := KS hs_2 1
  have h2_2 := KS hs_2 2
  have k2_0 := KE hf_2 (N)
  have hlow := KL (N := N) (σ := σ) hf_2
  clear z2 hR12
  by_cases hul : u = cavs.length
  ·rw [hul, List.take_length, hR2] at hacc
   subst hul hacc
   clear hR2 hcv hpre
   have z4 : R4 ++ (dis.take 0).flatMap encBo = R4 := by simp
   have z6 : vD (dis.take 0) = 0 := rfl
   have ht3 : (R3.map byteAV).take (R2.length + 32) = R3.map byteAV := List.take_of_length_le (by rw [List.length_map]; omega)
   have hcs := And.intro c3 True.intro
   clear c3
   refine Wk ?_
   clear hcs hm4
   refine go_loopF mixed (by kernel_rfl) (3 :: 9 :: 10 :: 11 :: 12 :: 13 :: 70 :: 71 :: 72 :: 73 :: 74 :: 75 :: 76 :: 77 :: 78 :: 79 :: 80 :: 81 :: 82 :: 83 :: 84 :: 85 :: 86 :: 87 :: 88 :: 89 :: 90 :: 91 :: 92 :: 93 :: 94 :: 95 :: 96 :: 97 :: 98 :: 99 :: 100 :: 101 :: 102 :: 103 :: 104 :: 105 :: 106 :: 107 :: 108 :: 109 :: 110 :: 111 :: 112 :: 113 :: 114 :: []) [N+2] (fun m_ s_ σ_ n_ => ∃ (u : Nat) (acc : List UInt8) (w : Nat), m_ = dis.length - u ∧ s_ 9 = .lit (.int .i64 u) ∧ s_ 3 = .ms (N + 2) w 1 0 acc.length ∧ σ_ (N+2) = .mrow w 5 1 (acc.map byteAV) ∧ (u ≤ dis.length) ∧ (acc.length ≤ R4.length + 1400 * u) ∧ (R4 ++ (dis.take u).flatMap encBo = acc) ∧ (w = 7 + cavs.length + vD (dis.take u))) ⟨_, 0, R4, 5 + cavs.length + 2, rfl, WF, WF, WF, WC, WC, WC, WC⟩ ?_
   intro m_3 s_3 σ_3 n_3 hs_3 hf_3 hn_3 hI_3
   obtain ⟨u, acc, w, hm_3, h3_9, h3_3, e3_0, hu, hal, hacc, hver⟩ := hI_3
   have h3_1 := KS hs_3 1
   have h3_2 := KS hs_3 2
   have k3_0 := KE hf_3 (N)
   have hlow := KL (N := N) (σ := σ) hf_3
   clear z4
   by_cases hul : u = dis.length
   ·rw [hul, List.take_length] at hacc hver
    subst hul hver
    rw [hacc]
    clear hdv hacc
    refine Wk ?_
    refine go_result1 (r0 := N + 2) (by simp (disch := omega) [go_sem, *, -List.reduceReplicate]; rfl) (by omega) (by simp (disch := omega) [go_sem]; try rfl) (fun id hid => by simp (disch := omega) only; try exact hlow id hid) (by simp (disch := omega) [go_sem, *, -List.reduceReplicate]; rfl) (by simp (disch := omega) [go_sem])
   ·have hui : u < dis.length := by omega
    have hv1 := hdv _ (List.getElem_mem hui)
    obtain ⟨c, hc⟩ : ∃ c, dis[u] = c := ⟨_, rfl⟩
    rw [hc] at hv1
    have hcl2 := encBo_len hv1
    have hacc2 := flat_take encBo hui hc
    have hvd := vD_take hui hc
    obtain ⟨ti, cs, pf⟩ := c
    have v1 := hv1.t1
    have v2 := hv1.t2
    have v3 := hv1.cl
    have v4 := hv1.cv
    simp only at v1 v2 v3 v4 hvd
    obtain ⟨w2, hw2⟩ : ∃ w2, w + 2 = w2 := ⟨_, rfl⟩
    clear hv1
    have hau : acc.length ≤ 240000 := by omega
    have k1 := Field_spec_f ti (by omega)
    have k2 := fun k => Number_spec_f cs.length k (by omega)
    have hf1 := fieldB_len ti v2
    have hf2 := leb_len cs.length 7 (by omega)
    obtain ⟨A2, hA2⟩ : ∃ A, acc ++ fieldB ti ++ leb cs.length = A := ⟨_, rfl⟩
    have lm2 : (acc.map byteAV ++ (fieldB ti).map byteAV) ++ (leb cs.length).map byteAV = A2.map byteAV := by rw [← hA2]; simp
    have la2 : acc.length + (fieldB ti).length + (leb cs.length).length = A2.length := by rw [← hA2]; simp; omega
    have la2b : A2.length ≤ 245000 := by omega
    obtain ⟨A3, hA3⟩ : ∃ A, A2 ++ cs.flatMap encP = A := ⟨_, rfl⟩
    have la3 : A3.length ≤ 251000 := by
     have := flat_len encP 40 cs fun p hp => (encP_len p (v4 p hp).1).2
     rw [← hA3, List.length_append]; omega
    have hpre : ∀ u, (A2 ++ (cs.take u).flatMap encP).length ≤ A3.length := fun u => by
     rw [← hA3, List.length_append, List.length_append]
     have := flat_take_le encP cs u
     omega
    have hA23 : A2.length ≤ A3.length := by rw [← hA3, List.length_append]; omega
    obtain ⟨A4, hA4⟩ : ∃ A, A3 ++ pf.1 = A := ⟨_, rfl⟩
    have lm4 : A3.map byteAV ++ pf.1.map byteAV = A4.map byteAV := by rw [← hA4, List.map_append]
    have la4 : A4.length = A3.length + 32 := by rw [← hA4, List.length_append, pf.2]
    have hfin : acc ++ encBo ⟨ti, cs, pf⟩ = A4 := by
     rw [← hA4, ← hA3, ← hA2]; simp [encBo]
    have hacc3 : R4 ++ (dis.take (u + 1)).flatMap encBo = A4 := by rw [hacc2, ← List.append_assoc, hacc, hfin]
    have hal2 : A4.length ≤ R4.length + 1400 * (u + 1) := by rw [← hfin, List.length_append]; omega
    have qs1 := tagAV_sz pf
    have qs2 := tagAV_cell pf
    obtain ⟨K2, hK2⟩ := pf
    have hkA : tagAV ⟨K2, hK2⟩ = .agg (K2.map byteAV) := rfl
    have hbo : boAV ⟨ti, cs, ⟨K2, hK2⟩⟩ = .agg [.slice none (ti.map byteAV), .slice none (cs.map prAV), .agg (K2.map byteAV)] := rfl
    simp only [hkA] at qs1 qs2 lm4
    have qs3 : AV.celll (K2.map byteAV) = true := celll_bytes K2
    have qtk : (K2.map byteAV).take 32 = K2.map byteAV := List.take_of_length_le (by rw [List.length_map]; omega)
    clear hkA hfin hacc hacc2 hA2 hA4 hdv hcl2
    generalize fieldB ti = ft at *
    generalize leb cs.length = lc at *
    have z5 : A2 ++ (cs.take 0).flatMap encP = A2 := by simp
    have hcs := And.intro k1 (And.intro k2 True.intro)
    clear k1 k2
    have hw3 : 7 + cavs.length + vD (dis.take u) + 1 + 1 = w2 := by omega
    have ht4 : (acc.map byteAV ++ ft.map byteAV).take (acc.length + ft.length) = acc.map byteAV ++ ft.map byteAV := List.take_of_length_le (by simp)
    refine Wk ?_
    clear hcs lm2 la2
    refine go_loopF mixed (by kernel_rfl) [3, 11, 12, 13, 92, 93, 94, 95, 96, 97, 98, 99, 100, 101, 102, 103, 104, 105, 106, 107, 108, 109, 110] [N+2] (fun m_ s_ σ_ n_ => ∃ (v : Nat) (acc : List UInt8) (w : Nat), m_ = cs.length - v ∧ s_ 11 = .lit (.int .i64 v) ∧ s_ 3 = .ms (N + 2) w 1 0 acc.length ∧ σ_ (N+2) = .mrow w 5 1 (acc.map byteAV) ∧ (v ≤ cs.length) ∧ (acc.length ≤ A3.length) ∧ (A2 ++ (cs.take v).flatMap encP = acc) ∧ (w = w2 + v)) ⟨_, 0, A2, w2, rfl, WF, WF, WF, WC, WC, WC, WC⟩ ?_
    intro m_4 s_4 σ_4 n_4 hs_4 hf_4 hn_4 hI_4
    obtain ⟨v, acc, w, hm_4, h4_11, h4_3, e4_0, hv, hal3, hacc, hver⟩ := hI_4
    have h4_1 := KS hs_4 1
    have h4_2 := KS hs_4 2
    have h4_9 := KS hs_4 9
    have h4_10 := KS hs_4 10
    have h4_70 := KS hs_4 70
    have h4_71 := KS hs_4 71
    have h4_72 := KS hs_4 72
    have h4_73 := KS hs_4 73
    have h4_74 := KS hs_4 74
    have h4_77 := KS hs_4 77
    have h4_78 := KS hs_4 78
    have h4_79 := KS hs_4 79
    have h4_80 := KS hs_4 80
    have h4_81 := KS hs_4 81
    have h4_82 := KS hs_4 82
    have h4_83 := KS hs_4 83
    have h4_84 := KS hs_4 84
    have h4_85 := KS hs_4 85
    have h4_86 := KS hs_4 86
    have h4_87 := KS hs_4 87
    have h4_88 := KS hs_4 88
    have h4_89 := KS hs_4 89
    have h4_90 := KS hs_4 90
    have h4_91 := KS hs_4 91
    have k4_0 := KE hf_4 (N)
    have k4_1 := KE hf_4 (n_3 + 5 + 5)
    have hlow := KL (N := N) (σ := σ) hf_4
    clear z5 hA23
    by_cases hvl : v = cs.length
    ·rw [hvl, List.take_length, hA3] at hacc
     subst hvl hacc
     clear hA3 v4 hpre
     refine Wk ?_
     exact ⟨WS, WG, WN, _, (show dis.length - (u + 1) < m_3 by omega), u + 1, A4, w + 1, rfl, WF, WF, WF, WC, WC, WC, WC⟩
    ·have hvi : v < cs.length := by omega
     have hv1 := v4 _ (List.getElem_mem hvi)
     obtain ⟨c, hcc⟩ : ∃ c, cs[v] = c := ⟨_, rfl⟩
     rw [hcc] at hv1
     have hcl := encP_len c hv1.1
     have c1 := refEnc_spec c hv1.2 hv1.1
     have hacc2 := flat_take encP hvi hcc
     rw [← List.append_cancel_left_eq A2, ← List.append_assoc, hacc] at hacc2
     have hal4 := hpre (v + 1)
     rw [hacc2] at hal4
     have hll : acc.length + (encP c).length = (acc ++ encP c).length := by simp
     have hmm : acc.map byteAV ++ (encP c).map byteAV = (acc ++ encP c).map byteAV := by simp
     clear hacc hA3 v4 hpre
     generalize encP c = X at *
     have hb2 : acc.length + X.length ≤ 140737488355328 := by omega
     clear hcl
     generalize hA2 : acc ++ X = acc2 at *
     have hcs := And.intro c1 True.intro
     clear c1 hA2
     refine Wk ?_
     exact ⟨WS, WG, WN, _, (show cs.length - (v + 1) < m_4 by omega), v + 1, acc2, w + 1, rfl, WF, WF, WF, WC, WC, WC, WC⟩
  ·have hui : u < cavs.length := by omega
   have hv1 := hcv _ (List.getElem_mem hui)
   obtain ⟨c, hc⟩ : ∃ c, cavs[u] = c := ⟨_, rfl⟩
   rw [hc] at hv1
   have hcl2 := encC_len c hv1.1
   have c1 := rEnc_ok c hv1.2 hv1.1
   have hacc2 := flat_take encC hui hc
   rw [← List.append_cancel_left_eq R1, ← List.append_assoc, hacc] at hacc2
   have hal4 := hpre (u + 1)
   rw [hacc2] at hal4
   have hll : acc.length + (encC c).length = (acc ++ encC c).length := by simp
   have hmm : acc.map byteAV ++ (encC c).map byteAV = (acc ++ encC c).map byteAV := by simp
   clear hacc hR2 hcv hpre c3
   generalize encC c = X at *
   have hb2 : acc.length + X.length ≤ 140737488355328 := by omega
   clear hcl2
   generalize hA2 : acc ++ X = acc2 at *
   have hcs := And.intro c1 True.intro
   clear c1 hA2
   refine Wk ?_
   exact ⟨WS, WG, WN, _, (show cavs.length - (u + 1) < m_2 by omega), u + 1, acc2, rfl, WF, WF, WF, WC, WC, WC⟩
 ·have hui : u < L5.length := by omega
  have hui5 : (u : Int) < 5 := by omega
  obtain ⟨c, hc⟩ : ∃ c, L5[u] = c := ⟨_, rfl⟩
  have hcn : c ≤ 281474976710656 := hL5n c (by rw [← hc]; exact List.getElem_mem hui)
  have c1 := fun k => Number_spec_f c k (by omega)
  have hcl2 := leb_len c 7 (by omega)
  have hacc2 := flat_take leb hui hc
  rw [← List.append_cancel_left_eq [1], ← List.append_assoc, hacc] at hacc2
  have hll : acc.length + (leb c).length = (acc ++ leb c).length := by simp
  have hmm : acc.map byteAV ++ (leb c).map byteAV = (acc ++ leb c).map byteAV := by simp
  have hal4 : (acc ++ leb c).length ≤ 1 + 8 * (u + 1) := by rw [← hll]; omega
  clear hacc hR1 hL5n c3 hcv hdv
  generalize leb c = X at *
  have hb2 : acc.length + X.length ≤ 140737488355328 := by omega
  clear hcl2
  generalize hA2 : acc ++ X = acc2 at *
  have hcs := And.intro c1 True.intro
  clear c1 hA2
  refine Wk ?_
  exact ⟨WS, WG, WN, _, (show 5 - (u + 1) < m_1 by omega), u + 1, acc2, rfl, WF, WF, WF, WC, WC, WC⟩
theorem refEncB_m (b : Bu) (hb : BuIn b) (h : chkS b = 0) (k : Nat) : ACall Tryz.prog 21 [buAV b] k [] (.tup [.ms k (verB b) 1 0 (encBu b).length, .lit (.int .i64 0)]) [(k, .mrow (verB b) 5 1 ((encBu b).map byteAV))] := by
 have c1 := refChk_spec b hb
 have c2 := refBytes_m b (chk_valid hb h).1
 rw [h] at c1
 clear hb h
 generalize encBu b = x at *
 generalize verB b = v at *
 refine Bd Tryz.func21 Tryz.ntmps21 fun σ N hp hpn hk hkn hfree => ?_
 have hcs := And.intro c1 (And.intro c2 True.intro)
 clear c1 c2
 refine Wk ?_
 refine go_result1 (r0 := N + 8 + 1) (by simp (disch := omega) [go_sem, *, -List.reduceReplicate]; rfl) (by omega) (by simp (disch := omega) [go_sem]; try rfl) (fun id hid => by simp (disch := omega) only [upd_ne, wr_cons, wr_nil]; try exact hlow id hid) (by simp (disch := omega) [go_sem, *, -List.reduceReplicate]; rfl) (by simp (disch := omega) [go_sem])

def encT (b : List UInt8) : List UInt8 × Nat := if 4096 < b.length then ([], 2) else (textS b, 0)
theorem EncT_spec (b : List UInt8) (hl : b.length ≤ 9223372036854775807) (k : Nat) :
  ACall Tryz.prog 63 [.slice none (b.map byteAV)] k [] (.tup [strAV (encT b).1, .lit (.int .i64 (encT b).2)]) [] := by
 unfold encT
 by_cases h : 4096 < b.length
 ·rw [if_pos h]; exact enc_long b h hl k
 ·rw [if_neg h]; exact enc_core b (by omega) k
theorem TextT_spec (b : List UInt8) (hl : b.length ≤ 9223372036854775807) (k : Nat) :
  ACall Tryz.prog 48 [.slice none (b.map byteAV)] k [] (.tup [strAV (encT b).1, .lit (.int .i64 (encT b).2)]) [] := by
 unfold encT
 by_cases h : 4096 < b.length
 ·rw [if_pos h]; exact text_long b h hl k
 ·rw [if_neg h]; exact text_core b (by omega) k

end Go.Proofs.YtemmlldpmgfblaaGreatDoor

namespace Go.Proofs.YtemmlldpmgfblaaGreatDoor
open Go.Ab
attribute [local irreducible] Go.Ab.tyAV Go.Ab.aw Go.Ab.aops Go.Ab.kReg Go.Ab.aThen Go.Ab.aBlk Go.Ab.acond Go.Ab.aguard Go.Ab.astep Go.Ab.AStepX Go.Ab.aRet
attribute [local irreducible] shaG
theorem decB_in (b : List UInt8) (h : (decB b).2 = 0) : BuIn (decB b).1 := by
 have hin := bunS_in b
 unfold decB at h ⊢
 generalize bunW b itS itS = R at *
 obtain ⟨B, u, e⟩ := R
 simp only at h hin ⊢
 by_cases h1 : 4096 < b.length
 ·rw [if_pos h1] at h; simp at h
 ·rw [if_neg h1] at h ⊢
  by_cases h2 : e ≠ 0
  ·rw [if_pos h2] at h; exact absurd h h2
  ·rw [if_neg h2] at h ⊢
   by_cases h3 : chkS B ≠ 0
   ·rw [if_pos h3] at h; exact absurd h h3
   ·rw [if_neg h3]; exact hin
def QAsks (d : Nat) (x : List UInt8) : Prop := (∃ (B : Bu) (v : Nat), v ≠ 0 ∧ ∀ k, ACall Tryz.prog 39 [.slice none (x.map byteAV)] k [(d, bitsG)] (.tup [buAV B, .lit (.int .i64 (v : Nat))]) []) ∨
 ∃ (z : Bu) (y : List UInt8), x.length ≤ 4096 ∧
 (∀ k, ACall Tryz.prog 39 [.slice none (x.map byteAV)] k [(d, bitsG)] (.tup [buAV z, .lit (.int .i64 0)]) []) ∧
 (∀ k, ACall Tryz.prog 20 [buAV z] k [(d, bitsG)] (.tup [.slice none (x.map byteAV), .lit (.int .i64 0)]) []) ∧
 (∀ k, ACall Tryz.prog 48 [.slice none (x.map byteAV)] k [] (.tup [strAV y, .lit (.int .i64 0)]) []) ∧
 (∀ k, ACall Tryz.prog 46 [strAV y] k [(d, bitsG)] (.tup [buAV z, .lit (.int .i64 0)]) []) ∧
 (∀ k, ACall Tryz.prog 24 [.slice none (x.map byteAV), .slice none (x.map byteAV)] k [] (.lit (.bool true)) []) ∧
 (∀ k, ACall Tryz.prog 41 [buAV z, buAV z] k [] (.lit (.bool true)) [])
theorem qasks (d : Nat) (x : List UInt8) (hx : x.length ≤ 5000) : QAsks d x := by
 have q1 := bDec_spec x (by omega) d
 obtain ⟨⟨z, e⟩, hD⟩ : ∃ R, decB x = R := ⟨_, rfl⟩
 rw [hD] at q1
 by_cases he : e = 0
 ·subst he
  obtain ⟨hc, hE, hl⟩ := decB_uniq hD
  have hz : BuIn z := by have := decB_in x (by rw [hD]); rw [hD] at this; exact this
  have q2 := EncodeB_spec z hz d
  have hE2 : encBS z = (x, 0) := by unfold encBS; rw [if_pos hc, hE]
  rw [hE2] at q2
  have q3 := TextT_spec x (by omega)
  have hT : encT x = (textS x, 0) := by unfold encT; rw [if_neg (by omega)]
  rw [hT] at q3
  have q4 := BParse_spec (textS x) (by rw [textS_len_eq]; omega) d
  have hP : parB (textS x) = (z, 0) := by rw [← hE]; exact parB_text z hz hc
  rw [hP] at q4
  have q5 := Same_spec x x (by omega)
  rw [decide_eq_true rfl] at q5
  exact .inr ⟨z, textS x, hl, q1, q2, q3, q4, q5, SameBu_refl z (chk_valid hz hc).1.sm⟩
 ·exact .inl ⟨z, e, he, q1⟩
def QN (d i : Nat) (x : List UInt8) : Prop := i < 2 → QAsks d x
section
variable [W : W32]
set_option maxHeartbeats 8000000 in
theorem BundleUnique_core (raw0 raw : List UInt8) (m1 : Nat) (h1 : (if (400 : Int) < (raw0.length : Int) then (400 : Int) else (raw0.length : Int)) = (m1 : Int)) (h2 : m1 ≤ raw0.length) (h3 : m1 ≤ 400) (h4 : raw.length = m1) (h5 : (raw0.map byteAV).take m1 = raw.map byteAV)
  (deck : List Int) (hd : deck.length ≤ 9223372036854775807) (at_ : Int) (xb : UInt8) (d k : Nat) :
  ACall Tryz.prog 10 [.slice none (raw0.map byteAV), .slice none (deck.map intAV), .lit (.int .i64 at_), byteAV xb] k [(d, bitsG)] (.lit (.bool true)) [] := by
 obtain ⟨s, j0, hs, hj0, c2⟩ := made_spec deck hd
 obtain ⟨_, _, hin, hck, _⟩ := bunS_ok hs
 have c3 := refEncB_m (bunS s).2 hin hck
 have hbl := (chk_valid hin hck).2
 have hbp : 32 ≤ (encBu (bunS s).2).length := by
  unfold encBu
  simp only [List.length_append, (bunS s).2.proof.2]; omega
 clear hck hin hs hj0
 generalize encBu (bunS s).2 = b at *
 generalize verB (bunS s).2 = vb at *
 generalize (bunS s).2 = B0 at *
 generalize ({ s with alg := (bunS s).1 } : Sc) = s1 at *
 have g1 := Int.emod_nonneg at_ (show (b.length : Int) ≠ 0 by omega)
 have g2 := Int.emod_lt_of_pos at_ (show (0 : Int) < (b.length : Int) by omega)
 obtain ⟨j, hj⟩ := Int.eq_ofNat_of_zero_le g1
 have hj2 : j < b.length := by omega
 have a8 := Within_spec at_ b.length (by omega) (by omega)
 rw [hj] at a8
 have hset := set_bytes b j xb
 obtain ⟨y, hy⟩ : ∃ y, b.set j xb = y := ⟨_, rfl⟩
 have hyl : y.length = b.length := by rw [← hy]; simp
 rw [hy] at hset
 have hne : ((b.length : Int) == 0) = false := by rw [beq_eq_false_iff_ne]; omega
 have d0 : QN d 0 raw := fun _ => qasks d raw (by omega)
 have d1 := qasks d y (by omega)
 have c9 := awake16_spec d
 clear hy g1 g2 hj
 refine Bd Tryz.func10 Tryz.ntmps10 fun σ N hp hpn hk hkn hfree => ?_
 obtain ⟨hd, hdn⟩ := HD0 hp hpn; clear hp hpn
 have hcs := And.intro c2 (And.intro c3 (And.intro a8 True.intro))
 clear c2 c3 a8
 refine Wm ?_
 iterate 6 refine Wz ?_
 refine go_freeze 12 (id := N + 18 + 1) (ver := vb) (size := 1) (e := 5) (xs := y.map byteAV) (k := b.length) (by simp (disch := omega) [go_sem, *, -List.reduceReplicate]) (by simp (disch := omega) [go_sem, *, -List.reduceReplicate]) (by simp (disch := omega) [go_sem, *, -List.reduceReplicate]) ?_
 refine go_less 12 (show _ = AV.slice (some (N + 18 + 1)) (y.map byteAV) by simp (disch := omega) [go_sem, *, -List.reduceReplicate]) (AV.le_own _ _) ?_
 clear hcs
 refine Wk ?_
 refine go_loopF mixed (by kernel_rfl) (0 :: 8 :: 14 :: 15 :: 16 :: 17 :: 18 :: 19 :: 20 :: 21 :: 22 :: 49 :: 50 :: 51 :: 52 :: 53 :: 54 :: 55 :: 56 :: 57 :: 58 :: 59 :: 60 :: 61 :: 62 :: 63 :: 64 :: 65 :: 66 :: 67 :: 68 :: 69 :: 70 :: 71 :: 72 :: 73 :: 74 :: 75 :: 76 :: 77 :: 78 :: 79 :: 80 :: 81 :: 82 :: 83 :: 84 :: 85 :: 86 :: 87 :: 88 :: 89 :: 90 :: 91 :: 92 :: 93 :: 94 :: 95 :: 96 :: 97 :: []) [] (fun m_ s_ σ_ n_ => ∃ (i : Nat) (x : List UInt8), m_ = 2 - i ∧ s_ 14 = .lit (.int .i64 i) ∧ s_ 0 = .slice none (x.map byteAV) ∧ (i ≤ 2) ∧ (QN d i x)) ⟨_, 0, raw, rfl, WF, WF, WC, WC⟩ ?_
 intro m_1 s_1 σ_1 n_1 hs_1 hf_1 hn_1 hI_1
 obtain ⟨i, x, hm_1, h1_14, h1_0, hi, hq⟩ := hI_1
 have h1_12 := KS hs_1 12
 have k1_0 := KE hf_1 (d)
 have hlow := KL (N := N) (σ := σ) hf_1
 by_cases hi2 : i = 2
 ·subst hi2
  have hcs := And.intro c9 True.intro
  clear c9 d0 d1 hq
  exact W0
 ·have hii : (i : Int) < 2 := by omega
  have hq' := hq (by omega)
  have d1' : QN d (i + 1) y := fun _ => d1
  clear hq c9 d0 d1
  rcases hq' with ⟨B, v, hv, q1⟩ | ⟨z, t, hl, q1, q2, q3, q4, q5, q6⟩
  ·have hv' : ((v : Int) == 0) = false := by rw [beq_eq_false_iff_ne]; omega
   have hcs := And.intro q1 True.intro
   clear q1
   refine Wk ?_
   clear hcs
   exact ⟨WS, WG, WN, _, (show 2 - (i + 1) < m_1 by omega), i + 1, y, rfl, WF, WF, WC, WC⟩
  ·have hcs := And.intro q1 (And.intro q2 (And.intro q3 (And.intro q4 (And.intro q5 (And.intro q6 True.intro)))))
   clear q1 q2 q3 q4 q5 q6
   refine Wk ?_
   clear hcs
   exact ⟨WS, WG, WN, _, (show 2 - (i + 1) < m_1 by omega), i + 1, y, rfl, WF, WF, WC, WC⟩
end
theorem BundleUnique_spec (raw : List UInt8) (deck : List Int) (_ : ∀ n ∈ deck, (Lit.int .i64 n).wf = true) (hd : deck.length ≤ 9223372036854775807) (at_ : Int) (x : Int) (w : (Lit.int .u8 x).wf = true) (d k : Nat) :
  ACall Tryz.prog 10 [.slice none (raw.map byteAV), .slice none (deck.map intAV), .lit (.int .i64 at_), .lit (.int .u8 x)] k [(d, bitsG)] (.lit (.bool true)) [] := by
 obtain ⟨xb, hx, _⟩ := byte_of_wf w
 rw [hx]
 obtain ⟨m, r, q1, q2, q3, q4, q5⟩ := cutAt 400 raw
 exact @BundleUnique_core w32 raw r m q1 q2 q3 q4 q5 deck hd at_ xb d k
end Go.Proofs.YtemmlldpmgfblaaGreatDoor
