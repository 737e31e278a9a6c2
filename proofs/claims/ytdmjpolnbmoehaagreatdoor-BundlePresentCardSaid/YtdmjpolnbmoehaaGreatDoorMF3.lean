/- Texts U17, U18, U27, U24, U9, Y1, Y8, W17, Y15, joined. -/
import Derived.Test.YtdmjpolnbmoehaaGreatDoorMF2

namespace Go.Proofs.YtdmjpolnbmoehaaGreatDoor
open Go.Ab
attribute [local irreducible] Go.Ab.tyAV Go.Ab.aw Go.Ab.aops Go.Ab.kReg Go.Ab.aThen Go.Ab.aBlk Go.Ab.acond Go.Ab.aguard Go.Ab.astep Go.Ab.AStepX Go.Ab.aRet
attribute [local irreducible] shaG
section
variable [W : W32]
end

section
variable [W : W32]
theorem bindL_tk {leaf : Tg} {r : Rq} (hr : rqB r = true) (gs : List Di) : ∀ (L : List Di) (u : Nat) (a : Alg) (D : List Bo) (m : Nat), AlgIn a m → m + L.length ≤ 60000 → gs.drop u = L → D.length = gs.length →
  (∀ i (hi : i < gs.length) (hj : i < D.length), (D[i]).ticket = (gs[i]).ticket ∧ (D[i]).conds = (gs[i]).conds) →
  AlgIn (bindL leaf r L u a D).1 (m + L.length) ∧ ∀ i (hi : i < gs.length) (hj : i < (bindL leaf r L u a D).2.length), ((bindL leaf r L u a D).2[i]).ticket = (gs[i]).ticket ∧ ((bindL leaf r L u a D).2[i]).conds = (gs[i]).conds
 | [], u, a, D, m, ha, _, _, _, hD => ⟨ha, hD⟩
 | d :: L, u, a, D, m, ha, hm, hL, hDl, hD => by
  have hu : u < gs.length := by
   have := congrArg List.length hL
   rw [List.length_drop, List.length_cons] at this; omega
  rw [List.drop_eq_getElem_cons hu, List.cons.injEq] at hL
  obtain ⟨hd, hL⟩ := hL
  obtain ⟨_, hB⟩ := bindS_ok ha (by rw [List.length_cons] at hm; omega) d leaf hr
  have := bindL_tk (leaf := leaf) hr gs L (u + 1) (bindS a d leaf r).1 (D.set u (bindS a d leaf r).2.1) (m + 1) (bindS_in ha d leaf r) (by rw [List.length_cons] at hm; omega) hL (by rw [List.length_set]; exact hDl) (fun i hi hj => by
   rw [List.getElem_set]
   split
   ·rename_i h
    subst h
    rw [hB]
    simp only
    rw [hd]; exact ⟨rfl, rfl⟩
   ·exact hD i hi (by rw [List.length_set] at hj; exact hj))
  rw [bindL]
  rw [show m + (d :: L).length = m + 1 + L.length by rw [List.length_cons]; omega]
  exact this
end

def shwT (L : List MacE) (t : Tg) : Prop := ∃ e ∈ L, e.tag = t ∧ hidB e.msg = false
theorem shwT.sub {L L' : List MacE} {t : Tg} (h : shwT L t) (hs : ∀ e ∈ L, e ∈ L') : shwT L' t := by
 obtain ⟨e, he, h1, h2⟩ := h
 exact ⟨e, hs e he, h1, h2⟩
section
variable [W : W32]
theorem macS_shw {a : Alg} {key : Tg} {msg : List UInt8} (h : (macS a key msg).2.2 = 0) (hb : hidB msg = false) : shwT (macS a key msg).1.macs (macS a key msg).2.1 := by
 obtain ⟨e, he, h1, h2⟩ := macS_ent h
 exact ⟨e, he, h1, by rw [h2]; exact hb⟩
theorem bindL_shw {leaf : Tg} {r : Rq} (hr : rqB r = true) : ∀ (L : List Di) (u m : Nat) (a : Alg) (D : List Bo), AlgIn a m → AlgOk a → m + L.length ≤ 60000 → u + L.length = D.length → (∀ i (h : i < D.length), i < u → shwT a.macs (D[i]).proof) →
  AlgOk (bindL leaf r L u a D).1 ∧ AlgIn (bindL leaf r L u a D).1 (m + L.length) ∧ (bindL leaf r L u a D).1.free = a.free ∧ (∀ e ∈ a.macs, e ∈ (bindL leaf r L u a D).1.macs) ∧ ∀ x ∈ (bindL leaf r L u a D).2, shwT (bindL leaf r L u a D).1.macs x.proof
 | [], u, m, a, D, ha, ok, _, hu, hD => by
  refine ⟨ok, ha, rfl, fun e he => he, fun x hx => ?_⟩
  obtain ⟨i, hi, rfl⟩ := List.getElem_of_mem hx
  have hi' : i < D.length := hi
  exact hD i hi' (by simp at hu; omega)
 | d :: L, u, m, a, D, ha, ok, hm, hu, hD => by
  simp only [List.length_cons] at hm hu
  obtain ⟨h0, hB⟩ := bindS_ok ha (by omega) d leaf hr
  have h1 := macS_sub h0
  have h2 := macS_shw h0 (rfl : hidB (bindM leaf r.gate.toNat r.nonce.toNat) = false)
  have h3 := macS_in ha d.tag (bindM leaf r.gate.toNat r.nonce.toNat)
  have h4 := ok.mac d.tag (bindM leaf r.gate.toNat r.nonce.toNat)
  have h5 := (macS_free h0).1
  rw [bindL, hB]
  simp only
  generalize macS a d.tag (bindM leaf r.gate.toNat r.nonce.toNat) = Y at *
  obtain ⟨a2, t2, e2⟩ := Y
  simp only at *
  obtain ⟨k1, k2, k3, k4, k5⟩ := bindL_shw hr L (u + 1) (m + 1) a2 (D.set u ⟨d.ticket, d.conds, t2⟩) h3 h4 (by omega) (by rw [List.length_set]; omega) (fun i hi hiu => by
   rw [List.length_set] at hi
   rcases Nat.lt_or_ge i u with h | h
   ·rw [List.getElem_set_ne (by omega)]; exact (hD i hi h).sub h1
   ·obtain rfl : i = u := by omega
    rw [List.getElem_set_self]; exact h2)
  exact ⟨k1, by rw [List.length_cons, show m + (L.length + 1) = m + 1 + L.length by omega]; exact k2, k3.trans h5, fun e he => k4 e (h1 e he), k5⟩
theorem pres_shw {a : Alg} {m : Nat} (ha : AlgIn a m) (ok : AlgOk a) (p : Pa) (gs : List Di) {r : Rq} (hr : rqB r = true) (hm : m + gs.length ≤ 50000) :
  AlgOk (presS a p gs r).1 ∧ AlgIn (presS a p gs r).1 (m + 1 + gs.length) ∧ (presS a p gs r).1.free = a.free ∧ (∀ e ∈ a.macs, e ∈ (presS a p gs r).1.macs) ∧ shwT (presS a p gs r).1.macs (presS a p gs r).2.proof ∧ (∀ x ∈ (presS a p gs r).2.dis, shwT (presS a p gs r).1.macs x.proof) := by
 have h0 := prfS_ok ha (by omega) p hr
 have h1 : ∀ e ∈ a.macs, e ∈ (prfS a p r).1.macs := macS_sub h0
 have h2 : shwT (prfS a p r).1.macs (prfS a p r).2.1 := macS_shw h0 rfl
 have h3 : AlgIn (prfS a p r).1 (m + 1) := macS_in ha _ _
 have h4 : AlgOk (prfS a p r).1 := ok.mac _ _
 have h5 : (prfS a p r).1.free = a.free := (macS_free h0).1
 unfold presS
 simp only
 generalize prfS a p r = Y at *
 obtain ⟨a2, t2, e2⟩ := Y
 simp only at *
 obtain ⟨k1, k2, k3, k4, k5⟩ := bindL_shw (leaf := p.tag) hr gs 0 (m + 1) a2 (gs.map blankBo) h3 h4 (by omega) (by simp) (fun i _ hi => absurd hi (by omega))
 exact ⟨k1, k2, k3.trans h5, fun e he => k4 e (h1 e he), h2.sub k4, k5⟩
theorem bindL_boxes {leaf : Tg} {r : Rq} (hr : rqB r = true) : ∀ (L : List Di) (u m : Nat) (a : Alg) (D : List Bo), AlgIn a m → m + L.length ≤ 60000 → (bindL leaf r L u a D).1.boxes = a.boxes
 | [], _, _, _, _, _, _ => rfl
 | d :: L, u, m, a, D, ha, hm => by
  simp only [List.length_cons] at hm
  obtain ⟨h0, hB⟩ := bindS_ok ha (by omega) d leaf hr
  have h1 := (macS_free h0).2.2.2
  have h3 := macS_in ha d.tag (bindM leaf r.gate.toNat r.nonce.toNat)
  rw [bindL, hB]
  simp only
  rw [bindL_boxes hr L (u + 1) (m + 1) _ _ h3 (by omega)]
  exact h1
theorem pres_boxes {a : Alg} {m : Nat} (ha : AlgIn a m) (p : Pa) (gs : List Di) {r : Rq} (hr : rqB r = true) (hm : m + gs.length ≤ 50000) : (presS a p gs r).1.boxes = a.boxes := by
 have h0 := prfS_ok ha (by omega) p hr
 have h1 : (prfS a p r).1.boxes = a.boxes := (macS_free h0).2.2.2
 have h3 : AlgIn (prfS a p r).1 (m + 1) := macS_in ha _ _
 unfold presS
 simp only
 rw [bindL_boxes hr gs 0 (m + 1) _ _ h3 (by omega)]
 exact h1
end
end Go.Proofs.YtdmjpolnbmoehaaGreatDoor

namespace Go.Proofs.YtdmjpolnbmoehaaGreatDoor
open Go.Ab
attribute [local irreducible] Go.Ab.tyAV Go.Ab.aw Go.Ab.aops Go.Ab.kReg Go.Ab.aThen Go.Ab.aBlk Go.Ab.acond Go.Ab.aguard Go.Ab.astep Go.Ab.AStepX Go.Ab.aRet
def tag9 : Tg := ⟨9 :: List.replicate 31 0, rfl⟩
def awB : Bu := ⟨⟨0, 1⟩, 1, 1, [], tag9, []⟩
theorem awB_in : BuIn awB := ⟨by decide, by decide, (fun c hc => by cases hc), (fun d hd => by cases hd)⟩
theorem leb_0 : leb 0 = [0] := by rw [leb]; rfl
theorem leb_1 : leb 1 = [1] := by rw [leb]; rfl
theorem awB_enc : encBu awB = [1, 0, 1, 1, 1, 0] ++ (9 :: List.replicate 31 0) ++ [0] := by
 unfold encBu headN awB
 simp only [List.flatMap_cons, List.flatMap_nil, List.length_nil]
 rw [show Int.toNat 0 = 0 from rfl, show Int.toNat 1 = 1 from rfl, leb_0, leb_1]
 rfl
theorem awB_S : encBS awB = ([1, 0, 1, 1, 1, 0, 9, 0, 0, 0, 0, 0, 0, 0, 0, 0, 0, 0, 0, 0, 0, 0, 0, 0, 0, 0, 0, 0, 0, 0, 0, 0, 0, 0, 0, 0, 0, 0, 0], 0) := by
 have hp : partsS awB = 0 := by decide
 have hc : chkS awB = 0 := by
  unfold chkS
  rw [if_neg (by rw [hp]; simp), if_neg (by rw [awB_enc]; decide)]
 unfold encBS
 rw [if_pos hc, awB_enc]
 rfl
theorem awake16_spec (d k : Nat) : ACall Tryz.prog 48 [] k [(d, bitsG)] (.lit (.bool true)) [] := by
 have c1 := EncodeB_spec awB awB_in d
 rw [awB_S] at c1
 have hB : buAV awB = .agg [.agg [.lit (.int .i64 0), .lit (.int .i64 1)], .lit (.int .i64 1), .lit (.int .i64 1), .slice none [], tagAV tag9, .slice none []] := rfl
 have hT : tagAV tag9 = .agg [.lit (.int .u8 9), .lit (.int .u8 0), .lit (.int .u8 0), .lit (.int .u8 0), .lit (.int .u8 0), .lit (.int .u8 0), .lit (.int .u8 0), .lit (.int .u8 0), .lit (.int .u8 0), .lit (.int .u8 0), .lit (.int .u8 0), .lit (.int .u8 0), .lit (.int .u8 0), .lit (.int .u8 0), .lit (.int .u8 0), .lit (.int .u8 0), .lit (.int .u8 0), .lit (.int .u8 0), .lit (.int .u8 0), .lit (.int .u8 0), .lit (.int .u8 0), .lit (.int .u8 0), .lit (.int .u8 0), .lit (.int .u8 0), .lit (.int .u8 0), .lit (.int .u8 0), .lit (.int .u8 0), .lit (.int .u8 0), .lit (.int .u8 0), .lit (.int .u8 0), .lit (.int .u8 0), .lit (.int .u8 0)] := rfl
 rw [hB, hT] at c1
 clear hB hT
 unfold encAV at c1
 refine Bd Tryz.func48 Tryz.ntmps48 fun σ N hp hpn hk hkn hfree => ?_
 obtain ⟨hd, hdn⟩ := HD0 hp hpn; clear hp hpn
 have hcs := And.intro c1 True.intro
 clear c1
 exact W0
end Go.Proofs.YtdmjpolnbmoehaaGreatDoor

namespace Go.Proofs.YtdmjpolnbmoehaaGreatDoor
open Go.Ab
attribute [local irreducible] Go.Ab.tyAV Go.Ab.aw Go.Ab.aops Go.Ab.kReg Go.Ab.aThen Go.Ab.aBlk Go.Ab.acond Go.Ab.aguard Go.Ab.astep Go.Ab.AStepX Go.Ab.aRet
attribute [local irreducible] shaG
theorem Same_refl (b : List UInt8) (hb : b.length ≤ 140737488351232) (k : Nat) : ACall Tryz.prog 69 [.slice none (b.map byteAV), .slice none (b.map byteAV)] k [] (.lit (.bool true)) [] := by
 have := Same_spec b b hb k
 rw [decide_eq_true rfl] at this
 exact this
set_option maxHeartbeats 1000000 in
theorem SameAlg_refl (a : Alg) (m : Nat) (ha : AlgIn a m) (hm : m ≤ 1000000) (k : Nat) :
  ACall Tryz.prog 22 [algAV a, algAV a] k [] (.lit (.bool true)) [] := by
 obtain ⟨fr, sd, fs, L, B⟩ := a
 have hL := ha.ml
 have hB := ha.bl
 have hmm := ha.mm
 have hbm := ha.bm
 simp only at hL hB hmm hbm
 clear ha
 simp only [algAV]
 refine Bd Tryz.func22 Tryz.ntmps22 fun σ N hp hpn hk hkn hfree => ?_
 refine Wk ?_
 refine go_loopF mixed (by kernel_rfl) (4 :: 5 :: 46 :: 47 :: 48 :: 49 :: 50 :: 51 :: 52 :: 53 :: 54 :: 55 :: 56 :: 57 :: 58 :: 59 :: 60 :: 61 :: 62 :: 63 :: 64 :: 65 :: 66 :: 67 :: 68 :: 69 :: 70 :: 71 :: 72 :: 73 :: 74 :: 75 :: 76 :: 77 :: 78 :: 79 :: 80 :: 81 :: 82 :: 83 :: 84 :: 85 :: 86 :: 87 :: 88 :: 89 :: 90 :: 91 :: 92 :: 93 :: 94 :: 95 :: 96 :: []) [N, N+1] (fun m_ s_ σ_ n_ => ∃ (u : Nat), m_ = L.length - u ∧ s_ 5 = .lit (.int .i64 u) ∧ σ_ (N) = .box 38 (.agg [.lit (.bool fr), tagAV sd, .lit (.int .i64 fs), .slice none (L.map macAV), .slice none (B.map sealAV)]) ∧ σ_ (N+1) = .box 38 (.agg [.lit (.bool fr), tagAV sd, .lit (.int .i64 fs), .slice none (L.map macAV), .slice none (B.map sealAV)]) ∧ (u ≤ L.length)) ⟨_, 0, rfl, WF, WF, WF, WC⟩ ?_
 intro m_1 s_1 σ_1 n_1 hs_1 hf_1 hn_1 hI_1
 obtain ⟨u, hm_1, h1_5, e1_0, e1_1, hu⟩ := hI_1
 have h1_2 := KS hs_1 2
 have h1_3 := KS hs_1 3
 have hlow := KL (N := N) (σ := σ) hf_1
 by_cases hul : u = L.length
 ·subst hul
  refine Wk ?_
  refine go_loopF mixed (by kernel_rfl) [4, 6, 7, 8, 97, 98, 99, 100, 101, 102, 103, 104, 105, 106, 107, 108, 109, 110, 111, 112, 113, 114, 115, 116, 117, 118, 119, 120, 121, 122, 123, 124, 125, 126, 127, 128, 129, 130, 131, 132, 133, 134, 135, 136, 137, 138, 139, 140, 141] [N, N+1] (fun m_ s_ σ_ n_ => ∃ (v : Nat), m_ = B.length - v ∧ s_ 6 = .lit (.int .i64 v) ∧ σ_ (N) = .box 38 (.agg [.lit (.bool fr), tagAV sd, .lit (.int .i64 fs), .slice none (L.map macAV), .slice none (B.map sealAV)]) ∧ σ_ (N+1) = .box 38 (.agg [.lit (.bool fr), tagAV sd, .lit (.int .i64 fs), .slice none (L.map macAV), .slice none (B.map sealAV)]) ∧ (v ≤ B.length)) ⟨_, 0, rfl, WF, WF, WF, WC⟩ ?_
  intro m_2 s_2 σ_2 n_2 hs_2 hf_2 hn_2 hI_2
  obtain ⟨v, hm_2, h2_6, e2_0, e2_1, hv⟩ := hI_2
  have h2_2 := KS hs_2 2
  have h2_3 := KS hs_2 3
  have hlow := KL (N := N) (σ := σ) hf_2
  by_cases hvl : v = B.length
  ·subst hvl
   exact W0
  ·have hv1 : v < B.length := by omega
   have hmz := hbm _ (List.getElem_mem hv1)
   obtain ⟨z, hz⟩ : ∃ z, B[v] = z := ⟨_, rfl⟩
   rw [hz] at hmz
   obtain ⟨zk, zn, zp, zb⟩ := z
   simp only at hmz
   have hzd : sealAV ⟨zk, zn, zp, zb⟩ = .agg [tagAV zk, .lit (.int .i64 zn), bAV zp, bAV zb] := rfl
   have hzb := bAV_def zp
   have hzb2 := bAV_def zb
   have c1 := Same_refl zp (by omega)
   have c2 := Same_refl zb (by omega)
   have hcs := And.intro c1 (And.intro c2 True.intro)
   clear c1 c2 hmm hbm
   refine Wk ?_
   exact ⟨WS, WG, WN, _, (show B.length - (v + 1) < m_2 by omega), v + 1, rfl, WF, WF, WF, WC⟩
 ·have hu1 : u < L.length := by omega
  have hmz := hmm _ (List.getElem_mem hu1)
  obtain ⟨z, hz⟩ : ∃ z, L[u] = z := ⟨_, rfl⟩
  rw [hz] at hmz
  obtain ⟨zk, zm, zt⟩ := z
  simp only at hmz
  have hzd : macAV ⟨zk, zm, zt⟩ = .agg [tagAV zk, bAV zm, tagAV zt] := rfl
  have hzb := bAV_def zm
  have c1 := Same_refl zm (by omega)
  have hcs := And.intro c1 True.intro
  clear c1 hmm hbm
  refine Wk ?_
  exact ⟨WS, WG, WN, _, (show L.length - (u + 1) < m_1 by omega), u + 1, rfl, WF, WF, WF, WC⟩
theorem SameDis_refl (p : Di) (hp : p.ticket.length ≤ 100000000) (hc : p.conds.length ≤ 100000) (k : Nat) :
  ACall Tryz.prog 23 [diAV p, diAV p] k [] (.lit (.bool true)) [] := by
 have c1 := Same_refl p.ticket (by omega)
 have c2 := SamePredicates_refl p.conds hc
 obtain ⟨ti, L, tg⟩ := p
 unfold diAV
 simp only at c1 c2 ⊢
 refine Bd Tryz.func23 Tryz.ntmps23 fun σ N hp hpn hk hkn hfree => ?_
 have hcs := And.intro c1 (And.intro c2 True.intro)
 clear c1 c2
 exact W0
theorem SameBound_refl (p : Bo) (hp : p.ticket.length ≤ 100000000) (hc : p.conds.length ≤ 100000) (k : Nat) :
  ACall Tryz.prog 28 [boAV p, boAV p] k [] (.lit (.bool true)) [] := by
 have c1 := Same_refl p.ticket (by omega)
 have c2 := SamePredicates_refl p.conds hc
 obtain ⟨ti, L, tg⟩ := p
 unfold boAV
 simp only at c1 c2 ⊢
 refine Bd Tryz.func28 Tryz.ntmps28 fun σ N hp hpn hk hkn hfree => ?_
 have hcs := And.intro c1 (And.intro c2 True.intro)
 clear c1 c2
 exact W0
end Go.Proofs.YtdmjpolnbmoehaaGreatDoor

namespace Go.Proofs.YtdmjpolnbmoehaaGreatDoor
open Go.Ab
attribute [local irreducible] Go.Ab.tyAV Go.Ab.aw Go.Ab.aops Go.Ab.kReg Go.Ab.aThen Go.Ab.aBlk Go.Ab.acond Go.Ab.aguard Go.Ab.astep Go.Ab.AStepX Go.Ab.aRet

structure BuSm (z : Bu) : Prop where
 cl : z.cavs.length ≤ 100000
 dl : z.dis.length ≤ 100000
 cs : ∀ c ∈ z.cavs, CaSm c
 ds : ∀ d ∈ z.dis, d.ticket.length ≤ 100000000 ∧ d.conds.length ≤ 100000
theorem SameBu_refl (z : Bu) (h : BuSm z) (k : Nat) : ACall Tryz.prog 58 [buAV z, buAV z] k [] (.lit (.bool true)) [] := by
 obtain ⟨⟨g, n⟩, ep, se, L, tg, D⟩ := z
 have hdl := h.dl
 have hds := h.ds
 have c1 := refSame_cav L L h.cs h.cs (by have := h.cl; simp only at this; omega) (by have := h.cl; simp only at this; omega)
 rw [decide_eq_true rfl] at c1
 clear h
 simp only [buAV, rqAV] at *
 refine Bd Tryz.func58 Tryz.ntmps58 fun σ N hp hpn hk hkn hfree => ?_
 have hcs := And.intro c1 True.intro
 clear c1
 refine Wk ?_
 clear hcs
 refine go_loopF mixed (by kernel_rfl) [4, 5, 49, 50, 51, 52, 53, 54, 55, 56, 57, 58, 59, 60, 61, 62, 63, 64, 65, 66, 67] [] (fun m_ s_ σ_ n_ => ∃ (u : Nat), m_ = D.length - u ∧ s_ 5 = .lit (.int .i64 u) ∧ (u ≤ D.length)) ⟨_, 0, rfl, WF, WC⟩ ?_
 intro m_1 s_1 σ_1 n_1 hs_1 hf_1 hn_1 hI_1
 obtain ⟨u, hm_1, h1_5, hu⟩ := hI_1
 have h1_2 := KS hs_1 2
 have h1_3 := KS hs_1 3
 have k1_0 := KE hf_1 (N)
 have k1_1 := KE hf_1 (N + 1)
 have hlow := KL (N := N) (σ := σ) hf_1
 by_cases hul : u = D.length
 ·subst hul
  exact W0
 ·have hlt : u < D.length := by omega
  obtain ⟨z, hz⟩ : ∃ z, D[u] = z := ⟨_, rfl⟩
  have hm := hds z (by rw [← hz]; exact List.getElem_mem _)
  have c2 := SameBound_refl z hm.1 hm.2
  clear hds hm
  have hcs := And.intro c2 True.intro
  clear c2
  refine Wk ?_
  clear hcs
  exact ⟨WS, WG, WN, _, (show D.length - (u + 1) < m_1 by omega), u + 1, rfl, WF, WC⟩

theorem u64W {a : Int} (h : (Lit.int .u64 a).wf = true) : 0 ≤ a ∧ a < 18446744073709551616 := by
 have hw : IntKind.u64.min ≤ a ∧ a ≤ IntKind.u64.max := by simpa [Lit.wf] using h
 have e1 : IntKind.u64.min = 0 := by decide
 have e2 : IntKind.u64.max = 18446744073709551615 := by decide
 omega
theorem predW {m : Nat} {x : AV} (h : tyAV Tryz.prog (m + 2) 25 x) : ∃ p : Pr, PrOk p ∧ x = prAV p := by
 obtain ⟨xs, rfl, h1, h2⟩ := ty_struct Tryz.underlying25 h
 obtain ⟨a, b, c, d, e, f, rfl⟩ : ∃ a b c d e f, xs = [a, b, c, d, e, f] := by
  match xs, h1 with
  | [a, b, c, d, e, f], _ => exact ⟨a, b, c, d, e, f, rfl⟩
 obtain ⟨v1, _, rfl⟩ := ty_int it3 (h2 0 _ _ rfl rfl)
 obtain ⟨v2, w2, rfl⟩ := ty_int it23 (h2 1 _ _ rfl rfl)
 obtain ⟨v3, _, rfl⟩ := ty_int it3 (h2 2 _ _ rfl rfl)
 obtain ⟨v4, _, rfl⟩ := ty_int it3 (h2 3 _ _ rfl rfl)
 obtain ⟨v5, w5, rfl⟩ := ty_str st9 (h2 4 _ _ rfl rfl)
 obtain ⟨v6, _, rfl⟩ := ty_int it3 (h2 5 _ _ rfl rfl)
 exact ⟨⟨v1, v2, v3, v4, v5, v6⟩, ⟨(u64W w2).1, (u64W w2).2, w5⟩, rfl⟩
structure DiW (d : Di) : Prop where
 tl : d.ticket.length ≤ 140737488351232
 cl : d.conds.length ≤ 9223372036854775807
 ok : ∀ p ∈ d.conds, PrOk p
def CaW (c : Ca) : Prop := PrOk c.first ∧ CaSm c
theorem caveatW {m : Nat} {x : AV} (h : tyAV Tryz.prog (m + 4) 76 x) : ∃ c : Ca, CaW c ∧ x = caAV c := by
 obtain ⟨ys, rfl, h3, h4⟩ := ty_struct Tryz.underlying76 h
 obtain ⟨a, b, c, d, e, rfl⟩ : ∃ a b c d e, ys = [a, b, c, d, e] := by
  match ys, h3 with
  | [a, b, c, d, e], _ => exact ⟨a, b, c, d, e, rfl⟩
 obtain ⟨v1, rfl⟩ := ty_bool bt4 (h4 0 _ _ rfl rfl)
 obtain ⟨v2, w2, rfl⟩ := predW (h4 1 _ _ rfl rfl)
 obtain ⟨v3, _, rfl⟩ := ty_int it3 (h4 2 _ _ rfl rfl)
 obtain ⟨v4, w4, rfl⟩ := ty_bytesW sl26 by5 (by kernel_rfl) (h4 3 _ _ rfl rfl)
 obtain ⟨v5, w5, rfl⟩ := ty_bytesW sl26 by5 (by kernel_rfl) (h4 4 _ _ rfl rfl)
 exact ⟨⟨v1, v2, v3, v4, v5⟩, ⟨w2, w4, w5⟩, rfl⟩
structure PaW (p : Pa) : Prop where
 cl : p.cavs.length ≤ 9223372036854775807
 ok : ∀ c ∈ p.cavs, CaW c
theorem passW_of {x : AV} (h : tyAV Tryz.prog 8 47 x) : ∃ p : Pa, PaW p ∧ x = paAV p := by
 obtain ⟨ys, rfl, h3, h4⟩ := ty_struct Tryz.underlying47 h
 obtain ⟨a, b, c, d, rfl⟩ : ∃ a b c d, ys = [a, b, c, d] := by
  match ys, h3 with
  | [a, b, c, d], _ => exact ⟨a, b, c, d, rfl⟩
 obtain ⟨v1, _, rfl⟩ := ty_int it3 (h4 0 _ _ rfl rfl)
 obtain ⟨v2, _, rfl⟩ := ty_int it3 (h4 1 _ _ rfl rfl)
 obtain ⟨v3, ⟨w3, w3'⟩, rfl⟩ := ty_list sl45 (fun y hy => caveatW hy) (h4 2 _ _ rfl rfl)
 obtain ⟨v4, _, rfl⟩ := ty_tag ar29 by5 (h4 3 _ _ rfl rfl)
 exact ⟨⟨v1, v2, v3, v4⟩, ⟨w3, w3'⟩, rfl⟩
theorem requestW_of {x : AV} (h : tyAV Tryz.prog 8 50 x) : ∃ r : Rq, True ∧ x = rqAV r := by
 obtain ⟨ys, rfl, h3, h4⟩ := ty_struct Tryz.underlying50 h
 obtain ⟨a, b, rfl⟩ : ∃ a b, ys = [a, b] := by
  match ys, h3 with
  | [a, b], _ => exact ⟨a, b, rfl⟩
 obtain ⟨v1, _, rfl⟩ := ty_int it3 (h4 0 _ _ rfl rfl)
 obtain ⟨v2, _, rfl⟩ := ty_int it3 (h4 1 _ _ rfl rfl)
 exact ⟨⟨v1, v2⟩, trivial, rfl⟩
theorem tagW_of {x : AV} (h : tyAV Tryz.prog 8 29 x) : ∃ a : Tg, True ∧ x = tagAV a := ty_tag ar29 by5 h
end Go.Proofs.YtdmjpolnbmoehaaGreatDoor

namespace Go.Proofs.YtdmjpolnbmoehaaGreatDoor
open Go.Ab
attribute [local irreducible] Go.Ab.tyAV Go.Ab.aw Go.Ab.aops Go.Ab.kReg Go.Ab.aThen Go.Ab.aBlk Go.Ab.acond Go.Ab.aguard Go.Ab.astep Go.Ab.AStepX Go.Ab.aRet
attribute [local irreducible] shaG
section
variable [W : W32]
def mbuAV (r : Alg × Bu × Nat) : AV := .tup [algAV r.1, buAV r.2.1, .lit (.int .i64 (r.2.2 : Nat))]
def PrQ (a : Alg) (p : Pa) (gs : List Di) (r : Rq) (ky : Tg) (g h : Nat) : Prop := ∃ (R : Alg × Bu × Nat) (B : Alg) (T1 T2 : Tg) (o1 o2 : Bool),
 (∀ k, ACall Tryz.prog 49 [algAV a, paAV p, .slice none (gs.map diAV), rqAV r] k [(g, shaG), (h, bitsG)] (mbuAV R) []) ∧
 (∀ k, ACall Tryz.prog 57 [algAV a, paAV p, .slice none (gs.map diAV), rqAV r] k [] (mbuAV R) []) ∧
 (∀ k, ACall Tryz.prog 22 [algAV R.1, algAV R.1] k [] (.lit (.bool true)) []) ∧
 (∀ k, ACall Tryz.prog 58 [buAV R.2.1, buAV R.2.1] k [] (.lit (.bool true)) []) ∧
 ((R.2.2 = 0 ∧ B = R.1) ∨ (R.2.2 ≠ 0 ∧ B = a)) ∧
 (∀ k, ACall Tryz.prog 59 [algAV B, tagAV p.tag, rqAV r] k [(g, shaG)] (.tup [tagAV T1, .lit (.bool o1)]) []) ∧
 (∀ k, ACall Tryz.prog 60 [algAV B, tagAV p.tag, rqAV r] k [] (.tup [tagAV T1, .lit (.bool o1)]) []) ∧
 (∀ k, ACall Tryz.prog 59 [algAV B, tagAV ky, rqAV r] k [(g, shaG)] (.tup [tagAV T2, .lit (.bool o2)]) []) ∧
 (∀ k, ACall Tryz.prog 60 [algAV B, tagAV ky, rqAV r] k [] (.tup [tagAV T2, .lit (.bool o2)]) [])
theorem PrQ_ex {a : Alg} (ha : AlgIn a 1000) {p : Pa} (hpl : p.cavs.length ≤ 100) (hpc : ∀ c ∈ p.cavs, PrOk c.first ∧ CaSm c) {gs : List Di} (hgl : gs.length ≤ 5) (hgv : ∀ d ∈ gs, DiV d) (r : Rq) (ky : Tg) {g h : Nat} (hgh : g ≠ h) : PrQ a p gs r ky g h := by
 have hgm : ∀ d ∈ gs, d.ticket.length ≤ 100000 ∧ d.conds.length ≤ 100000 := fun d hd => ⟨Nat.le_trans (hgv d hd).t2 (by decide), Nat.le_trans (hgv d hd).cl (by decide)⟩
 have hb : BuIn (shellB p gs r) := by
  refine ⟨by simp only [shellB]; omega, by simp only [shellB, List.length_map]; omega, fun c hc => (hpc c hc).1, fun d hd => ?_⟩
  simp only [shellB] at hd
  obtain ⟨z, hz, rfl⟩ := List.mem_map.1 hd
  have hv := hgv z hz
  exact ⟨Nat.le_trans hv.t2 (by decide), Nat.le_trans hv.cl (by decide), fun q hq => (hv.cv q hq).2.1⟩
 have hcm : ∀ c ∈ p.cavs, CaSm c := fun c hc => (hpc c hc).2
 have hR : ∃ R : Alg × Bu × Nat, AlgIn R.1 1010 ∧ BuSm R.2.1 ∧ (∀ k, ACall Tryz.prog 49 [algAV a, paAV p, .slice none (gs.map diAV), rqAV r] k [(g, shaG), (h, bitsG)] (mbuAV R) []) ∧
   (∀ k, ACall Tryz.prog 57 [algAV a, paAV p, .slice none (gs.map diAV), rqAV r] k [] (mbuAV R) []) := by
  by_cases h0 : chkS (shellB p gs r) = 0
  ·have hV := (chk_valid hb h0).1
   have hr : rqB r = true := hV.rq
   have hbx := pres_boxes ha p gs hr (by omega)
   have hin : AlgIn (prfS a p r).1 1001 := macS_in ha _ _
   obtain ⟨b1, b2⟩ := bindL_tk (leaf := p.tag) hr gs gs 0 _ (gs.map blankBo) 1001 hin (by omega) rfl (by simp) (fun i hi hj => by rw [List.getElem_map]; exact ⟨rfl, rfl⟩)
   refine ⟨((presS a p gs r).1, (presS a p gs r).2, 0), b1.more (by omega), ⟨?_, ?_, hcm, fun d hd => ?_⟩, fun k => Present_spec a 1000 ha p gs r (by omega) (by decide) hb h0 hcm hgm hbx g h k hgh, fun k => refPres_spec a 1000 ha p gs r (by omega) (by decide) hb h0 k⟩
   ·simp only [presS]; omega
   ·simp only [presS]; rw [bindL_len]; simp; omega
   ·simp only [presS] at hd
    obtain ⟨i, hi, rfl⟩ := List.getElem_of_mem hd
    have hi2 : i < gs.length := by rw [bindL_len] at hi; simpa using hi
    obtain ⟨t1, t2⟩ := b2 i hi2 hi
    obtain ⟨m1, m2⟩ := hgm _ (List.getElem_mem hi2)
    exact ⟨by rw [t1]; omega, by rw [t2]; omega⟩
  ·exact ⟨(alg0, bu0P, chkS (shellB p gs r)), alg0_in _, ⟨by simp [bu0P], by simp [bu0P], fun c hc => by simp [bu0P] at hc, fun d hd => by simp [bu0P] at hd⟩, fun k => Present_err a 1000 ha p gs r (by omega) (by decide) hb _ rfl h0 (by omega) hcm hgm g h k hgh, fun k => refPres_err a p gs r (by omega) hb _ rfl h0 k⟩
 obtain ⟨R, hin, hsm, k1, k2⟩ := hR
 have hB : ∃ B : Alg, AlgIn B 1010 ∧ ((R.2.2 = 0 ∧ B = R.1) ∨ (R.2.2 ≠ 0 ∧ B = a)) := by
  by_cases h0 : R.2.2 = 0
  ·exact ⟨R.1, hin, .inl ⟨h0, rfl⟩⟩
  ·exact ⟨a, ha.more (by decide), .inr ⟨h0, rfl⟩⟩
 obtain ⟨B, hBi, hB⟩ := hB
 exact ⟨R, B, _, _, _, _, k1, k2, SameAlg_refl _ 1010 hin (by decide), SameBu_refl _ hsm, hB, bProof_spec B 1010 hBi (by decide) p.tag r g, refBProof_spec B 1010 hBi (by decide) p.tag r, bProof_spec B 1010 hBi (by decide) ky r g, refBProof_spec B 1010 hBi (by decide) ky r⟩
set_option maxHeartbeats 16000000 in
theorem BundlePresent_core (xs : List Int) (hx : xs.length ≤ 9223372036854775807) (q : Rq) (raw : Pa) (hr : PaW raw) (key : Tg) (g h : Nat) (hgh : g ≠ h) (k : Nat) :
  ACall Tryz.prog 10 [.slice none (xs.map intAV), rqAV q, paAV raw, tagAV key] k [(g, shaG), (h, bitsG)] (.lit (.bool true)) [] := by
 have c9 := awake16_spec h
 obtain ⟨hr1, hr2⟩ := hr
 obtain ⟨re, rs, rc, rt⟩ := raw
 simp only at hr1 hr2
 have hrA : paAV ⟨re, rs, rc, rt⟩ = .agg [.lit (.int .i64 re), .lit (.int .i64 rs), .slice none (rc.map caAV), tagAV rt] := rfl
 by_cases h1 : 70 < rc.length
 ·have h1i : (70 : Int) < (rc.length : Int) := by omega
  rw [hrA]
  clear hrA hr2
  refine Bd Tryz.func10 Tryz.ntmps10 fun σ N hp hpn hk hkn hfree => ?_
  simp only [List.mem_cons, List.not_mem_nil, or_false, forall_eq_or_imp, forall_eq] at hp hpn; obtain ⟨hd1, hd2⟩ := hp; obtain ⟨hdn1, hdn2⟩ := hpn
  have hcs := And.intro c9 True.intro
  clear c9
  exact W0
 ·have h1i : ¬ (70 : Int) < (rc.length : Int) := by omega
  have c1 := New_spec xs
  obtain ⟨s, j, hs, hj, c2⟩ := Scene_ex xs 0 ⟨hx, Nat.zero_le _⟩
  obtain ⟨se, hG, _⟩ := hs.good
  have hin := hG.ain
  have hgv := hG.gv
  have hgl := hG.gl
  have hcv := hG.cv
  have hcl := hG.cl
  obtain ⟨sa, sr, sc, sp, sg, sq, sh, sm⟩ := s
  simp only at *
  have hsA : scAV ⟨sa, sr, sc, sp, sg, sq, sh, sm⟩ = .agg [algAV sa, rgAV sr, concAV sc, paAV sp, .slice none (sg.map diAV), rqAV sq, .lit (.string ⟨sh.toArray⟩), .lit (.int .i64 sm)] := rfl
  rw [hsA] at c2
  obtain ⟨PL, hPL⟩ : ∃ PL : List Pa, PL = [sp, ⟨re, rs, rc, rt⟩] := ⟨_, rfl⟩
  have hP2 : PL.length = 2 := by rw [hPL]; rfl
  have hlP : ∀ r : Nat, AV.le (.slice (some r) [paAV sp, .agg [.lit (.int .i64 re), .lit (.int .i64 rs), .slice none (rc.map caAV), tagAV rt]]) (.slice none (PL.map paAV)) := fun r => by rw [hPL]; exact AV.le_own _ _
  obtain ⟨QL, hQL⟩ : ∃ QL : List Rq, QL = [sq, q] := ⟨_, rfl⟩
  have hQ2 : QL.length = 2 := by rw [hQL]; rfl
  have hlQ : ∀ r : Nat, AV.le (.slice (some r) [rqAV sq, rqAV q]) (.slice none (QL.map rqAV)) := fun r => by rw [hQL]; exact AV.le_own _ _
  have hPu : ∀ u : Nat, u < 2 → ∃ y : Pa, (PL.map paAV)[u]? = some (paAV y) ∧ y.cavs.length ≤ 100 ∧ ∀ c ∈ y.cavs, PrOk c.first ∧ CaSm c := fun u hu => by
   rw [hPL]
   obtain rfl | rfl : u = 0 ∨ u = 1 := by omega
   ·exact ⟨sp, rfl, by omega, fun c hc => ⟨(hcv c hc).2.1, by have := hcv c hc; exact ⟨by omega, by omega⟩⟩⟩
   ·exact ⟨⟨re, rs, rc, rt⟩, rfl, by simp only; omega, fun c hc => hr2 c hc⟩
  have hQu : ∀ u : Nat, u < 2 → ∃ y : Rq, (QL.map rqAV)[u]? = some (rqAV y) := fun u hu => by
   rw [hQL]
   obtain rfl | rfl : u = 0 ∨ u = 1 := by omega
   ·exact ⟨_, rfl⟩
   ·exact ⟨_, rfl⟩
  rw [hrA]
  clear hPL hQL hG hs hcv hcl hsA hr2 hj hr1 hrA
  refine Bd Tryz.func10 Tryz.ntmps10 fun σ N hp hpn hk hkn hfree => ?_
  simp only [List.mem_cons, List.not_mem_nil, or_false, forall_eq_or_imp, forall_eq] at hp hpn; obtain ⟨hd1, hd2⟩ := hp; obtain ⟨hdn1, hdn2⟩ := hpn
  have hcs := And.intro c1 (And.intro (c2 (N + 8 + 1)) True.intro)
  clear c1 c2
  refine Wk ?_
  clear hcs
  refine go_less 41 (by simp (disch := omega) [go_sem, *, -List.reduceReplicate]; rfl) (hlP _) ?_
  clear hlP
  refine go_loopF mixed (by kernel_rfl) (8 :: 12 :: 14 :: 15 :: 16 :: 17 :: 18 :: 19 :: 20 :: 21 :: 22 :: 23 :: 24 :: 25 :: 26 :: 27 :: 28 :: 43 :: 44 :: 45 :: 46 :: 47 :: 48 :: 49 :: 50 :: 51 :: 52 :: 53 :: 54 :: 55 :: 56 :: 57 :: 58 :: 59 :: 60 :: 61 :: 62 :: 63 :: 64 :: 65 :: 66 :: 67 :: 68 :: 69 :: 70 :: 71 :: 72 :: 73 :: 74 :: 75 :: 76 :: 77 :: 78 :: 79 :: 80 :: 81 :: 82 :: 83 :: 84 :: 85 :: 86 :: 87 :: 88 :: 89 :: 90 :: 91 :: 92 :: 93 :: 94 :: 95 :: 96 :: 97 :: 98 :: 99 :: 100 :: 101 :: 102 :: 103 :: 104 :: 105 :: 106 :: 107 :: 108 :: 109 :: 110 :: 111 :: 112 :: 113 :: 114 :: 115 :: 116 :: 117 :: 118 :: 119 :: 120 :: 121 :: 122 :: 123 :: 124 :: 125 :: 126 :: 127 :: 128 :: 129 :: 130 :: 131 :: 132 :: 133 :: 134 :: 135 :: 136 :: 137 :: 138 :: 139 :: 140 :: 141 :: 142 :: 143 :: 144 :: 145 :: 146 :: []) [] (fun m_ s_ σ_ n_ => ∃ (u : Nat), m_ = 2 - u ∧ s_ 43 = .lit (.int .i64 u) ∧ (u ≤ 2)) ⟨_, 0, rfl, WF, WC⟩ ?_
  intro m_1 s_1 σ_1 n_1 hs_1 hf_1 hn_1 hI_1
  obtain ⟨u, hm_1, h1_43, hu⟩ := hI_1
  have h1_5 := KS hs_1 5
  have h1_7 := KS hs_1 7
  have h1_10 := KS hs_1 10
  have h1_41 := KS hs_1 41
  have h1_42 := KS hs_1 42
  have k1_0 := KE hf_1 (N)
  have k1_1 := KE hf_1 (N + 1)
  have k1_2 := KE hf_1 (N + 2)
  have k1_3 := KE hf_1 (N + 11 + 2)
  have k1_4 := KE hf_1 (g)
  have k1_5 := KE hf_1 (h)
  have hlow := KL (N := N) (σ := σ) hf_1
  obtain hul | hul : u = 2 ∨ u < 2 := by omega
  ·subst hul
   have hcs := And.intro c9 True.intro
   clear c9 hPu hQu hlQ hgv hin
   exact W0
  ·obtain ⟨⟨ye, ys, yc, yt⟩, hy1, hy2, hy3⟩ := hPu u hul
   have hyA : paAV ⟨ye, ys, yc, yt⟩ = .agg [.lit (.int .i64 ye), .lit (.int .i64 ys), .slice none (yc.map caAV), tagAV yt] := rfl
   rw [hyA] at hy1
   clear hPu c9
   refine Wk ?_
   refine go_less 50 (by simp (disch := omega) [go_sem, *, -List.reduceReplicate]; rfl) (hlQ _) ?_
   clear hlQ
   refine go_loopF mixed (by kernel_rfl) (8 :: 14 :: 15 :: 16 :: 17 :: 18 :: 19 :: 20 :: 21 :: 22 :: 23 :: 24 :: 25 :: 26 :: 27 :: 28 :: 52 :: 53 :: 54 :: 55 :: 56 :: 57 :: 58 :: 59 :: 60 :: 61 :: 62 :: 63 :: 64 :: 65 :: 66 :: 67 :: 68 :: 69 :: 70 :: 71 :: 72 :: 73 :: 74 :: 75 :: 76 :: 77 :: 78 :: 79 :: 80 :: 81 :: 82 :: 83 :: 84 :: 85 :: 86 :: 87 :: 88 :: 89 :: 90 :: 91 :: 92 :: 93 :: 94 :: 95 :: 96 :: 97 :: 98 :: 99 :: 100 :: 101 :: 102 :: 103 :: 104 :: 105 :: 106 :: 107 :: 108 :: 109 :: 110 :: 111 :: 112 :: 113 :: 114 :: 115 :: 116 :: 117 :: 118 :: 119 :: 120 :: 121 :: 122 :: 123 :: 124 :: 125 :: 126 :: 127 :: 128 :: 129 :: 130 :: 131 :: 132 :: 133 :: 134 :: 135 :: 136 :: 137 :: 138 :: 139 :: 140 :: 141 :: 142 :: 143 :: 144 :: 145 :: []) [] (fun m_ s_ σ_ n_ => ∃ (v : Nat), m_ = 2 - v ∧ s_ 52 = .lit (.int .i64 v) ∧ (v ≤ 2)) ⟨_, 0, rfl, WF, WC⟩ ?_
   intro m_2 s_2 σ_2 n_2 hs_2 hf_2 hn_2 hI_2
   obtain ⟨v, hm_2, h2_52, hv⟩ := hI_2
   have h2_5 := KS hs_2 5
   have h2_7 := KS hs_2 7
   have h2_10 := KS hs_2 10
   have h2_12 := KS hs_2 12
   have h2_41 := KS hs_2 41
   have h2_42 := KS hs_2 42
   have h2_43 := KS hs_2 43
   have h2_44 := KS hs_2 44
   have h2_45 := KS hs_2 45
   have h2_46 := KS hs_2 46
   have h2_47 := KS hs_2 47
   have h2_48 := KS hs_2 48
   have h2_49 := KS hs_2 49
   have h2_50 := KS hs_2 50
   have h2_51 := KS hs_2 51
   have k2_0 := KE hf_2 (N)
   have k2_1 := KE hf_2 (N + 1)
   have k2_2 := KE hf_2 (N + 2)
   have k2_3 := KE hf_2 (N + 11 + 2)
   have k2_4 := KE hf_2 (n_1 + 3)
   have k2_5 := KE hf_2 (g)
   have k2_6 := KE hf_2 (h)
   have hlow := KL (N := N) (σ := σ) hf_2
   obtain hvl | hvl : v = 2 ∨ v < 2 := by omega
   ·subst hvl
    clear hQu hgv hin hy3
    refine Wk ?_
    exact ⟨WS, WG, WN, _, (show 2 - (u + 1) < m_1 by omega), u + 1, rfl, WF, WC⟩
   ·obtain ⟨z, hz⟩ := hQu v hvl
    have hq := PrQ_ex hin (p := ⟨ye, ys, yc, yt⟩) hy2 hy3 hgl hgv z key hgh
    clear hQu hgv hin hy3
    obtain ⟨⟨RA, RB, RE⟩, B, T1, T2, o1, o2, k1, k2, k3, k4, hB, k5, k6, k7, k8⟩ := hq
    unfold mbuAV at k1 k2
    rw [hyA] at k1 k2
    simp only at k1 k2 k3 k4 k5 k6 k7 k8 hB
    clear hyA
    rcases hB with ⟨h0, rfl⟩ | ⟨h0, rfl⟩
    ·subst h0
     have e00 : ((0 : Nat) : Int) = 0 := rfl
     rw [e00] at k1 k2
     clear e00
     have hcs := And.intro k1 (And.intro k2 (And.intro k3 (And.intro k4 (And.intro k5 (And.intro k6 (And.intro k7 (And.intro k8 True.intro)))))))
     clear k1 k2 k3 k4 k5 k6 k7 k8
     refine Wk ?_
     clear hcs
     exact ⟨WS, WG, WN, _, (show 2 - (v + 1) < m_2 by omega), v + 1, rfl, WF, WC⟩
    ·have hei : ((RE : Int) != 0) = true := by rw [bne_iff_ne]; omega
     have hcs := And.intro k1 (And.intro k2 (And.intro k3 (And.intro k4 (And.intro k5 (And.intro k6 (And.intro k7 (And.intro k8 True.intro)))))))
     clear k1 k2 k3 k4 k5 k6 k7 k8
     refine Wk ?_
     clear hcs
     exact ⟨WS, WG, WN, _, (show 2 - (v + 1) < m_2 by omega), v + 1, rfl, WF, WC⟩
end
theorem BundlePresent_spec (xs : List Int) (_ : ∀ n ∈ xs, (Lit.int .i64 n).wf = true) (hx : xs.length ≤ 9223372036854775807) (q : Rq) (_ : True) (raw : Pa) (hr : PaW raw) (key : Tg) (_ : True) (g h : Nat) (hgh : g ≠ h) (k : Nat) :
  ACall Tryz.prog 10 [.slice none (xs.map intAV), rqAV q, paAV raw, tagAV key] k [(g, shaG), (h, bitsG)] (.lit (.bool true)) [] :=
 @BundlePresent_core w32 xs hx q raw hr key g h hgh k
end Go.Proofs.YtdmjpolnbmoehaaGreatDoor
