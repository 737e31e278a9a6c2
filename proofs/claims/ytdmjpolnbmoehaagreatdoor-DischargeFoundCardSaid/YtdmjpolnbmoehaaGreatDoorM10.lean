/- Texts O2, O3, O6, U12, U13, M9, U14, U16, joined. -/
import Derived.Test.YtdmjpolnbmoehaaGreatDoorM9

namespace Go.Proofs.YtdmjpolnbmoehaaGreatDoor
open Go.Ab
attribute [local irreducible] Go.Ab.tyAV Go.Ab.aw Go.Ab.aops Go.Ab.kReg Go.Ab.aThen Go.Ab.aBlk Go.Ab.acond Go.Ab.aguard Go.Ab.astep Go.Ab.AStepX Go.Ab.aRet
theorem flat_take_le {α : Type} (f : α → List UInt8) : ∀ (l : List α) (u : Nat), ((l.take u).flatMap f).length ≤ (l.flatMap f).length
 | [], _ => by simp
 | x :: r, 0 => by simp
 | x :: r, u + 1 => by
  have := flat_take_le f r u
  simp only [List.take_succ_cons, List.flatMap_cons, List.length_append]; omega
theorem bpreds_spec (bs : List UInt8) (l : List Pr) (hv : ∀ p ∈ l, predB p = true ∧ PrOk p) (hl : l.length ≤ 100) (hb : bs.length ≤ 1000000) (R : List UInt8) (hR : bs ++ l.flatMap encP = R) (r d k : Nat) (hrd : r ≠ d) :
  ACall Tryz.prog 176 [.slice (some r) (bs.map byteAV), .slice none (l.map prAV)] k [(r, .row 5 1 bs.length), (d, bitsG)] (.slice (some r) (R.map byteAV)) [(r, .row 5 1 R.length)] := by
 have h0 : bs ++ (l.take 0).flatMap encP = bs := by simp
 refine Bd Tryz.func176 Tryz.ntmps176 fun σ N hp hpn hk hkn hfree => ?_
 simp only [List.mem_cons, List.not_mem_nil, or_false, forall_eq_or_imp, forall_eq] at hp hpn; obtain ⟨hd1, hd2⟩ := hp; obtain ⟨hdn1, hdn2⟩ := hpn
 refine Wk ?_
 refine go_loopB (N) mixed (by kernel_rfl) [0, 6, 7, 8, 11, 12, 13, 14, 15, 16, 17, 18, 19, 20, 21, 22, 23] [r] (fun m_ s_ σ_ n_ => ∃ (u : Nat) (acc : List UInt8), m_ = l.length - u ∧ s_ 11 = .lit (.int .i64 u) ∧ s_ 0 = .slice (some r) (acc.map byteAV) ∧ σ_ (r) = .row 5 1 acc.length ∧ (u ≤ l.length) ∧ (acc.length ≤ bs.length + 40 * u) ∧ (bs ++ (l.take u).flatMap encP = acc)) ⟨_, 0, bs, rfl, WF, WF, WF, WC, WC, WC⟩ ?_
 intro m_1 s_1 σ_1 n_1 hs_1 hf_1 hn_1 hI_1
 obtain ⟨u, acc, hm_1, h1_11, h1_0, e1_0, hu, hal, hacc⟩ := hI_1
 have h1_4 := KS hs_1 4
 have h1_9 := KS hs_1 9
 have h1_10 := KS hs_1 10
 have k1_0 := KE hf_1 (d)
 have hlow := KD (N := N) (d := r) (σ := σ) hf_1
 clear h0
 by_cases hul : u = l.length
 ·rw [hul, List.take_length, hR] at hacc
  subst hul hacc
  clear hR hv
  refine Wk ?_
  exact RW (r) (.row 5 1 R.length)
 ·have hui : u < l.length := by omega
  have hv1 := hv _ (List.getElem_mem hui)
  obtain ⟨c, hc⟩ : ∃ c, l[u] = c := ⟨_, rfl⟩
  rw [hc] at hv1
  have hcl := encP_len c hv1.1
  have c1 := Enc_spec c hv1.2 hv1.1 d
  have hacc2 : acc ++ encP c = bs ++ (l.take (u + 1)).flatMap encP := by
   rw [List.take_add_one, List.getElem?_eq_getElem hui, hc, ← hacc]
   simp
  have hal2 : (acc ++ encP c).length ≤ bs.length + 40 * (u + 1) := by rw [List.length_append]; omega
  have hll : acc.length + (encP c).length = (acc ++ encP c).length := by simp
  have hmm : acc.map byteAV ++ (encP c).map byteAV = (acc ++ encP c).map byteAV := by simp
  have hacc3 := hacc2.symm
  clear hacc hR hv hacc2
  generalize encP c = X at *
  have hXl : X.length ≤ 40 := hcl.2
  have hb2 : acc.length + X.length ≤ 140737488355328 := by omega
  generalize hA2 : acc ++ X = acc2 at *
  have hcs := And.intro c1 True.intro
  clear c1 hA2
  refine Wk ?_
  exact ⟨WS, WG, WN, _, (show l.length - (u + 1) < m_1 by omega), u + 1, acc2, rfl, WF, WF, WF, WC, WC, WC⟩
theorem bcavs_spec (bs : List UInt8) (l : List Ca) (hv : ∀ p ∈ l, cavB p = true ∧ PrOk p.first) (hl : l.length ≤ 100) (R : List UInt8) (hR : bs ++ l.flatMap encC = R) (hRl : R.length ≤ 10000000) (r d k : Nat) (hrd : r ≠ d) :
  ACall Tryz.prog 175 [.slice (some r) (bs.map byteAV), .slice none (l.map caAV)] k [(r, .row 5 1 bs.length), (d, bitsG)] (.slice (some r) (R.map byteAV)) [(r, .row 5 1 R.length)] := by
 have h0 : bs ++ (l.take 0).flatMap encC = bs := by simp
 have hpre : ∀ u, (bs ++ (l.take u).flatMap encC).length ≤ R.length := fun u => by
  rw [← hR, List.length_append, List.length_append]
  have := flat_take_le encC l u
  omega
 have hbR : bs.length ≤ R.length := by rw [← hR, List.length_append]; omega
 refine Bd Tryz.func175 Tryz.ntmps175 fun σ N hp hpn hk hkn hfree => ?_
 simp only [List.mem_cons, List.not_mem_nil, or_false, forall_eq_or_imp, forall_eq] at hp hpn; obtain ⟨hd1, hd2⟩ := hp; obtain ⟨hdn1, hdn2⟩ := hpn
 refine Wk ?_
 refine go_loopB (N) mixed (by kernel_rfl) [0, 6, 7, 8, 11, 12, 13, 14, 15, 16, 17, 18, 19, 20, 21, 22, 23] [r] (fun m_ s_ σ_ n_ => ∃ (u : Nat) (acc : List UInt8), m_ = l.length - u ∧ s_ 11 = .lit (.int .i64 u) ∧ s_ 0 = .slice (some r) (acc.map byteAV) ∧ σ_ (r) = .row 5 1 acc.length ∧ (u ≤ l.length) ∧ (acc.length ≤ R.length) ∧ (bs ++ (l.take u).flatMap encC = acc)) ⟨_, 0, bs, rfl, WF, WF, WF, WC, WC, WC⟩ ?_
 intro m_2 s_2 σ_2 n_2 hs_2 hf_2 hn_2 hI_2
 obtain ⟨u, acc, hm_2, h2_11, h2_0, e2_0, hu, hal, hacc⟩ := hI_2
 have h2_4 := KS hs_2 4
 have h2_9 := KS hs_2 9
 have h2_10 := KS hs_2 10
 have k2_0 := KE hf_2 (d)
 have hlow := KD (N := N) (d := r) (σ := σ) hf_2
 clear h0
 by_cases hul : u = l.length
 ·rw [hul, List.take_length, hR] at hacc
  subst hul hacc
  clear hR hv hpre
  refine Wk ?_
  exact RW (r) (.row 5 1 R.length)
 ·have hui : u < l.length := by omega
  have hv1 := hv _ (List.getElem_mem hui)
  obtain ⟨c, hc⟩ : ∃ c, l[u] = c := ⟨_, rfl⟩
  rw [hc] at hv1
  have hcl := encC_len c hv1.1
  have c1 := cEnc_ok c hv1.2 hv1.1 d
  have hacc2 : acc ++ encC c = bs ++ (l.take (u + 1)).flatMap encC := by
   rw [List.take_add_one, List.getElem?_eq_getElem hui, hc, ← hacc]
   simp
  have hal2 : (acc ++ encC c).length ≤ R.length := by rw [hacc2]; exact hpre (u + 1)
  have hab : acc.length ≤ 10000000 := by omega
  have hll : acc.length + (encC c).length = (acc ++ encC c).length := by simp
  have hmm : acc.map byteAV ++ (encC c).map byteAV = (acc ++ encC c).map byteAV := by simp
  have hacc3 := hacc2.symm
  clear hacc hR hv hacc2 hpre hbR
  generalize encC c = X at *
  have hXl : X.length ≤ 3000 := hcl.2
  clear hcl
  have hb2 : acc.length + X.length ≤ 140737488355328 := by omega
  clear hXl hab
  generalize hA2 : acc ++ X = acc2 at *
  have hcs := And.intro c1 True.intro
  clear c1 hA2
  refine Wk ?_
  exact ⟨WS, WG, WN, _, (show l.length - (u + 1) < m_2 by omega), u + 1, acc2, rfl, WF, WF, WF, WC, WC, WC⟩

def encBo (d : Bo) : List UInt8 := fieldB d.ticket ++ (leb d.conds.length ++ (d.conds.flatMap encP ++ d.proof.1))
def headN (b : Bu) : List Nat := [1, b.req.gate.toNat, b.req.nonce.toNat, b.epoch.toNat, b.serial.toNat, b.cavs.length]
def encBu (b : Bu) : List UInt8 := (headN b).flatMap leb ++ (b.cavs.flatMap encC ++ (b.proof.1 ++ (leb b.dis.length ++ b.dis.flatMap encBo)))
structure BoV (d : Bo) : Prop where
 t1 : 1 ≤ d.ticket.length
 t2 : d.ticket.length ≤ 1024
 cl : d.conds.length ≤ 8
 cv : ∀ p ∈ d.conds, predB p = true ∧ PrOk p
structure BuV (b : Bu) : Prop where
 rq : rqB b.req = true
 e1 : 1 ≤ b.epoch
 e2 : b.epoch ≤ 1000
 s1 : 1 ≤ b.serial
 s2 : b.serial ≤ 1073741824
 cl : b.cavs.length ≤ 64
 cv : ∀ c ∈ b.cavs, cavB c = true ∧ PrOk c.first
 dl : b.dis.length ≤ 8
 dv : ∀ d ∈ b.dis, BoV d
theorem flat_len {α : Type} (f : α → List UInt8) (m : Nat) : ∀ (l : List α), (∀ x ∈ l, (f x).length ≤ m) → (l.flatMap f).length ≤ m * l.length
 | [], _ => by simp
 | x :: r, h => by
  have h1 := h x (List.mem_cons_self ..)
  have h2 := flat_len f m r fun y hy => h y (List.mem_cons_of_mem _ hy)
  rw [List.flatMap_cons, List.length_append, List.length_cons, Nat.mul_add]; omega
theorem fieldB_len (x : List UInt8) (h : x.length ≤ 1024) : (fieldB x).length ≤ 1031 := by
 have := leb_len x.length 2 (by omega)
 simp only [fieldB, List.length_append]; omega
theorem encBo_len {d : Bo} (h : BoV d) : (encBo d).length ≤ 1400 := by
 have h1 := fieldB_len d.ticket h.t2
 have h2 := leb_len d.conds.length 7 (by have := h.cl; omega)
 have h3 := flat_len encP 40 d.conds fun p hp => (encP_len p (h.cv p hp).1).2
 have := h.cl
 simp only [encBo, List.length_append, d.proof.2]; omega
theorem flat_take {α : Type} (f : α → List UInt8) {l : List α} {u : Nat} {z : α} (h : u < l.length) (hz : l[u] = z) : (l.take (u + 1)).flatMap f = (l.take u).flatMap f ++ f z := by
 rw [List.take_add_one, List.getElem?_eq_getElem h, hz]; simp
set_option maxHeartbeats 4000000 in
theorem encoded_spec (b : Bu) (hb : BuV b) (d k : Nat) :
  ACall Tryz.prog 114 [buAV b] k [(d, bitsG)] (.slice none ((encBu b).map byteAV)) [] := by
 obtain ⟨⟨g, n⟩, e, s, cavs, pr, dis⟩ := b
 obtain ⟨⟨g0, g1⟩, n0, n1⟩ := rqB_iff.1 hb.rq
 have he1 := hb.e1
 have he2 := hb.e2
 have hs1 := hb.s1
 have hs2 := hb.s2
 have hcl := hb.cl
 have hcv := hb.cv
 have hdl := hb.dl
 have hdv := hb.dv
 clear hb
 simp only at g0 g1 n0 n1 he1 he2 hs1 hs2 hcl hcv hdl hdv
 obtain ⟨g, rfl⟩ := Int.eq_ofNat_of_zero_le g0
 obtain ⟨n, rfl⟩ := Int.eq_ofNat_of_zero_le (show 0 ≤ n by omega)
 obtain ⟨e, rfl⟩ := Int.eq_ofNat_of_zero_le (show 0 ≤ e by omega)
 obtain ⟨s, rfl⟩ := Int.eq_ofNat_of_zero_le (show 0 ≤ s by omega)
 unfold encBu headN buAV rqAV
 simp only [Int.toNat_natCast]
 obtain ⟨R1, hR1⟩ : ∃ R, [1, g, n, e, s, cavs.length].flatMap leb = R := ⟨_, rfl⟩
 have c1 := bnumbers_spec [1, g, n, e, s, cavs.length] [] (by simp) (by simp) (by intro x hx; simp at hx; omega) R1 (by simpa using hR1)
 have hl1 : R1.length ≤ 48 := by
  rw [← hR1]
  exact flat_len leb 8 [1, g, n, e, s, cavs.length] fun x hx => by
   have := leb_len x 7 (by simp at hx; omega)
   omega
 obtain ⟨R2, hR2⟩ : ∃ R, R1 ++ cavs.flatMap encC = R := ⟨_, rfl⟩
 have hl2 : R2.length ≤ 200000 := by
  rw [← hR2, List.length_append]
  have := flat_len encC 3000 cavs fun c hc => (encC_len c (hcv c hc).1).2
  omega
 have c2 := fun r h k => bcavs_spec R1 cavs hcv (by omega) R2 hR2 (by omega) r d k h
 obtain ⟨R3, hR3⟩ : ∃ R, R2 ++ pr.1 = R := ⟨_, rfl⟩
 have hl3 : R3.length = R2.length + 32 := by rw [← hR3, List.length_append, pr.2]
 have hm3 : R2.map byteAV ++ pr.1.map byteAV = R3.map byteAV := by rw [← hR3, List.map_append]
 obtain ⟨R4, hR4⟩ : ∃ R, R3 ++ leb dis.length = R := ⟨_, rfl⟩
 have c3 := bnumbers_spec [dis.length] R3 (by simp) (by simp; omega) (by simp; omega) R4 (by simpa using hR4)
 have hl4 : R4.length ≤ 200100 := by
  have := leb_len dis.length 7 (by omega)
  rw [← hR4, List.length_append]; omega
 have hfin : R1 ++ (cavs.flatMap encC ++ (pr.1 ++ (leb dis.length ++ dis.flatMap encBo))) = R4 ++ dis.flatMap encBo := by
  rw [← hR4, ← hR3, ← hR2]; simp
 rw [hR1, hfin]
 clear hfin hR1 hR2 hR3 hR4
 have ps1 := tagAV_sz pr
 have ps2 := tagAV_cell pr
 obtain ⟨K, hK⟩ := pr
 have hkA : tagAV ⟨K, hK⟩ = .agg (K.map byteAV) := rfl
 simp only [hkA] at ps1 ps2 hm3 ⊢
 clear hkA
 have ps3 : AV.celll (K.map byteAV) = true := celll_bytes K
 have htk : (K.map byteAV).take 32 = K.map byteAV := List.take_of_length_le (by rw [List.length_map]; omega)
 refine Bd Tryz.func114 Tryz.ntmps114 fun σ N hp hpn hk hkn hfree => ?_
 obtain ⟨hd, hdn⟩ := HD0 hp hpn; clear hp hpn
 have hcs := And.intro c1 (And.intro (c2 (N + 2 + 14) (by omega)) (And.intro c3 True.intro))
 clear c1 c2 c3 hcv
 refine Wm ?_
 iterate 2 refine Wz ?_
 refine go_fixBox N (bt := 97) (x := .agg [.agg [.lit (.int .i64 (g : Int)), .lit (.int .i64 (n : Int))], .lit (.int .i64 (e : Int)), .lit (.int .i64 (s : Int)), .slice none (cavs.map caAV), .agg (K.map byteAV), .slice none (dis.map boAV)]) (by simp (disch := omega) [go_sem, *, -List.reduceReplicate]) ?_
 replace hcs := hcs.2
 refine Wk ?_
 clear hcs
 have h00 : R4 ++ (dis.take 0).flatMap encBo = R4 := by simp
 refine go_loopB (N) mixed (by kernel_rfl) [3, 5, 37, 38, 39, 40, 41, 42, 43, 44, 45, 46, 47, 48, 49, 50, 51, 52, 53, 54, 55, 56, 57, 58, 59, 60, 61] [] (fun m_ s_ σ_ n_ => ∃ (u : Nat) (q : Nat) (acc : List UInt8), m_ = dis.length - u ∧ s_ 37 = .lit (.int .i64 u) ∧ s_ 3 = .slice (some q) (acc.map byteAV) ∧ σ_ (q) = .row 5 1 acc.length ∧ (u ≤ dis.length) ∧ (acc.length ≤ R4.length + 1400 * u) ∧ (R4 ++ (dis.take u).flatMap encBo = acc) ∧ (N ≤ q) ∧ (q < n_)) ⟨_, 0, _, R4, rfl, WF, WF, WF, WC, WC, WC, WC, WC⟩ ?_
 intro m_1 s_1 σ_1 n_1 hs_1 hf_1 hn_1 hI_1
 obtain ⟨u, q, acc, hm_1, h1_37, h1_3, e1_0, hu, hal, hacc, hq, hqn⟩ := hI_1
 have h1_2 := KS hs_1 2
 have h1_35 := KS hs_1 35
 have h1_36 := KS hs_1 36
 have k1_0 := KE hf_1 (d)
 have hlow := KL (N := N) (σ := σ) hf_1
 clear h00
 by_cases hul : u = dis.length
 ·rw [hul, List.take_length] at hacc
  subst hul
  rw [hacc]
  clear hdv
  exact WM
 ·have hui : u < dis.length := by omega
  have hv1 := hdv _ (List.getElem_mem hui)
  obtain ⟨c, hc⟩ : ∃ c, dis[u] = c := ⟨_, rfl⟩
  rw [hc] at hv1
  have hcl2 := encBo_len hv1
  have hacc2 := flat_take encBo hui hc
  obtain ⟨ti, cs, pf⟩ := c
  have v1 := hv1.t1
  have v2 := hv1.t2
  have v3 := hv1.cl
  have v4 := hv1.cv
  simp only at v1 v2 v3 v4
  clear hv1
  have k1 := field_ok acc ti (by omega) v2
  obtain ⟨A1, hA1⟩ : ∃ A, acc ++ fieldB ti = A := ⟨_, rfl⟩
  have la1 : A1.length ≤ 250000 := by
   have := fieldB_len ti v2
   rw [← hA1, List.length_append]; omega
  obtain ⟨A2, hA2⟩ : ∃ A, A1 ++ leb cs.length = A := ⟨_, rfl⟩
  have k2 := bnumbers_spec [cs.length] A1 (by simp) (by simp; omega) (by simp; omega) A2 (by simpa using hA2)
  have la2 : A2.length ≤ 250100 := by
   have := leb_len cs.length 7 (by omega)
   rw [← hA2, List.length_append]; omega
  obtain ⟨A3, hA3⟩ : ∃ A, A2 ++ cs.flatMap encP = A := ⟨_, rfl⟩
  have la3 : A3.length ≤ 251000 := by
   have := flat_len encP 40 cs fun p hp => (encP_len p (v4 p hp).1).2
   rw [← hA3, List.length_append]; omega
  have k3 := fun r h k => bpreds_spec A2 cs v4 (by omega) (by omega) A3 hA3 r d k h
  obtain ⟨A4, hA4⟩ : ∃ A, A3 ++ pf.1 = A := ⟨_, rfl⟩
  have lm4 : A3.map byteAV ++ pf.1.map byteAV = A4.map byteAV := by rw [← hA4, List.map_append]
  have la4 : A4.length = A3.length + 32 := by rw [← hA4, List.length_append, pf.2]
  have hfin : acc ++ encBo ⟨ti, cs, pf⟩ = A4 := by
   rw [← hA4, ← hA3, ← hA2, ← hA1]; simp [encBo]
  have hacc3 : R4 ++ (dis.take (u + 1)).flatMap encBo = A4 := by rw [hacc2, ← List.append_assoc, hacc, hfin]
  have hal2 : A4.length ≤ R4.length + 1400 * (u + 1) := by rw [← hfin, List.length_append]; omega
  have hfa : acc.length + (fieldB ti).length = A1.length := by rw [← hA1, List.length_append]
  have hqd : q ≠ d := by omega
  have qs1 := tagAV_sz pf
  have qs2 := tagAV_cell pf
  obtain ⟨K2, hK2⟩ := pf
  have hkA : tagAV ⟨K2, hK2⟩ = .agg (K2.map byteAV) := rfl
  have hbo : boAV ⟨ti, cs, ⟨K2, hK2⟩⟩ = .agg [.slice none (ti.map byteAV), .slice none (cs.map prAV), .agg (K2.map byteAV)] := rfl
  simp only [hkA] at qs1 qs2 lm4
  have qs3 : AV.celll (K2.map byteAV) = true := celll_bytes K2
  have qtk : (K2.map byteAV).take 32 = K2.map byteAV := List.take_of_length_le (by rw [List.length_map]; omega)
  have hfl2 : (leb ti.length).length + ti.length = (fieldB ti).length := by simp [fieldB]
  rw [hA1] at k1
  clear hkA hfin hacc hacc2 hA1 hA2 hA3 hA4 v4 hdv hcl2
  have hcs := And.intro k1 (And.intro k2 (And.intro (k3 (n_1 + 13 + 5) (by omega)) True.intro))
  clear k1 k2 k3
  refine Wk ?_
  exact ⟨WS, WG, WN, _, (show dis.length - (u + 1) < m_1 by omega), u + 1, _, A4, rfl, WF, WF, WF, WC, WC, WC, WC, WC⟩

theorem AllValid_spec (l : List Ca) (hl : l.length ≤ 100000) (hpk : ∀ c ∈ l, PrOk c.first) (k : Nat) : ACall Tryz.prog 110 [.slice none (l.map caAV)] k [] (.lit (.bool (!l.any fun c => !cavB c))) [] := by
 obtain ⟨R, hR⟩ : ∃ R, (!l.any fun c => !cavB c) = R := ⟨_, rfl⟩
 rw [hR]
 have hdr : l.drop 0 = l := rfl
 refine Bd Tryz.func110 Tryz.ntmps110 fun σ N hp hpn hk hkn hfree => ?_
 refine Wk ?_
 refine go_loopF mixed (by kernel_rfl) [2, 3, 4, 5, 6, 7, 8, 9, 10, 11, 12, 13, 14, 15] [] (fun m_ s_ σ_ n_ => ∃ (u : Nat), m_ = l.length - u ∧ s_ 3 = .lit (.int .i64 u) ∧ (u ≤ l.length) ∧ ((!(l.drop u).any fun c => !cavB c) = R)) ⟨_, 0, rfl, WF, WC, WC⟩ ?_
 intro m_1 s_1 σ_1 n_1 hs_1 hf_1 hn_1 hI_1
 obtain ⟨u, hm_1, h1_3, hu, hno⟩ := hI_1
 have h1_0 := KS hs_1 0
 have hlow := KL (N := N) (σ := σ) hf_1
 clear hR hdr
 by_cases hul : u = l.length
 ·subst hul
  rw [List.drop_length] at hno
  simp only [List.any_nil, Bool.not_false] at hno
  subst hno
  clear hpk
  exact W0
 ·have hu1 : u < l.length := by omega
  rw [List.drop_eq_getElem_cons hu1, List.any_cons] at hno
  have hp1 := hpk _ (List.getElem_mem hu1)
  obtain ⟨z, hz⟩ : ∃ z, l[u] = z := ⟨_, rfl⟩
  rw [hz] at hno hp1
  have c1 := refCav_spec z hp1
  cases hc : cavB z with
  | true =>
   rw [hc] at c1 hno
   simp only [Bool.not_true, Bool.false_or] at hno
   have hcs := And.intro c1 True.intro
   clear c1 hpk hc
   refine Wk ?_
   exact ⟨WS, WG, WN, _, (show l.length - (u + 1) < m_1 by omega), u + 1, rfl, WF, WC, WC⟩
  | false =>
   rw [hc] at c1 hno
   simp only [Bool.not_false, Bool.true_or, Bool.not_true] at hno
   subst hno
   have hcs := And.intro c1 True.intro
   clear c1 hpk hc
   exact W0
set_option maxHeartbeats 8000000 in
theorem refBytes_spec (b : Bu) (hb : BuV b) (k : Nat) :
  ACall Tryz.prog 115 [buAV b] k [] (.slice none ((encBu b).map byteAV)) [] := by
 obtain ⟨⟨g, n⟩, e, s, cavs, pr, dis⟩ := b
 obtain ⟨⟨g0, g1⟩, n0, n1⟩ := rqB_iff.1 hb.rq
 have he1 := hb.e1
 have he2 := hb.e2
 have hs1 := hb.s1
 have hs2 := hb.s2
 have hcl := hb.cl
 have hcv := hb.cv
 have hdl := hb.dl
 have hdv := hb.dv
 clear hb
 simp only at g0 g1 n0 n1 he1 he2 hs1 hs2 hcl hcv hdl hdv
 obtain ⟨g, rfl⟩ := Int.eq_ofNat_of_zero_le g0
 obtain ⟨n, rfl⟩ := Int.eq_ofNat_of_zero_le (show 0 ≤ n by omega)
 obtain ⟨e, rfl⟩ := Int.eq_ofNat_of_zero_le (show 0 ≤ e by omega)
 obtain ⟨s, rfl⟩ := Int.eq_ofNat_of_zero_le (show 0 ≤ s by omega)
 unfold encBu headN buAV rqAV
 simp only [Int.toNat_natCast]
 obtain ⟨L5, hL5⟩ : ∃ L, [g, n, e, s, cavs.length] = L := ⟨_, rfl⟩
 have hL5n : ∀ x ∈ L5, x ≤ 281474976710656 := by rw [← hL5]; intro x hx; simp at hx; omega
 have hL5l : L5.length = 5 := by rw [← hL5]; rfl
 have hle5 : ∀ i : Option Nat, AV.le (.slice i [.lit (.int .i64 (g : Int)), .lit (.int .i64 (n : Int)), .lit (.int .i64 (e : Int)), .lit (.int .i64 (s : Int)), .lit (.int .i64 (cavs.length : Int))]) (natsAV L5) := fun i => by rw [← hL5]; exact AV.le_own _ _
 obtain ⟨R1, hR1⟩ : ∃ R, [1] ++ L5.flatMap leb = R := ⟨_, rfl⟩
 have hl1 : R1.length ≤ 48 := by
  have := flat_len leb 8 L5 fun x hx => by
   have := leb_len x 7 (by have := hL5n x hx; omega)
   omega
  rw [← hR1, List.length_append, List.length_singleton]; omega
 obtain ⟨R2, hR2⟩ : ∃ R, R1 ++ cavs.flatMap encC = R := ⟨_, rfl⟩
 have hl2 : R2.length ≤ 200000 := by
  rw [← hR2, List.length_append]
  have := flat_len encC 3000 cavs fun c hc => (encC_len c (hcv c hc).1).2
  omega
 obtain ⟨R3, hR3⟩ : ∃ R, R2 ++ pr.1 = R := ⟨_, rfl⟩
 have hl3 : R3.length = R2.length + 32 := by rw [← hR3, List.length_append, pr.2]
 have hm3 : R2.map byteAV ++ pr.1.map byteAV = R3.map byteAV := by rw [← hR3, List.map_append]
 obtain ⟨R4, hR4⟩ : ∃ R, R3 ++ leb dis.length = R := ⟨_, rfl⟩
 have c3 := fun k => Number_spec_f dis.length k (by omega)
 have hl4 : R4.length ≤ 200100 := by
  have := leb_len dis.length 7 (by omega)
  rw [← hR4, List.length_append]; omega
 have hm4 : R3.map byteAV ++ (leb dis.length).map byteAV = R4.map byteAV := by rw [← hR4, List.map_append]
 have hl4b : R3.length + (leb dis.length).length = R4.length := by rw [← hR4, List.length_append]
 have hhd : [1, g, n, e, s, cavs.length].flatMap leb = R1 := by
  have h1 : leb 1 = [1] := by rw [leb, dif_pos (by decide)]; rfl
  rw [← hR1, ← hL5, List.flatMap_cons, h1]
 have hfin : R1 ++ (cavs.flatMap encC ++ (pr.1 ++ (leb dis.length ++ dis.flatMap encBo))) = R4 ++ dis.flatMap encBo := by
  rw [← hR4, ← hR3, ← hR2]; simp
 rw [hhd, hfin]
 clear hfin hhd hL5 hR3 hR4
 generalize leb dis.length = lbd at *
 have ps1 := tagAV_sz pr
 have ps2 := tagAV_cell pr
 obtain ⟨K, hK⟩ := pr
 have hkA : tagAV ⟨K, hK⟩ = .agg (K.map byteAV) := rfl
 simp only [hkA] at ps1 ps2 hm3 ⊢
 clear hkA
 have ps3 : AV.celll (K.map byteAV) = true := celll_bytes K
 have htk : (K.map byteAV).take 32 = K.map byteAV := List.take_of_length_le (by rw [List.length_map]; omega)
 have b1 : AV.lit (.int .u8 1) = byteAV 1 := rfl
 have z1 : [1] ++ (L5.take 0).flatMap leb = [1] := by simp
 refine Bd Tryz.func115 Tryz.ntmps115 fun σ N hp hpn hk hkn hfree => ?_
 refine Wm ?_
 iterate 1 refine Wz ?_
 refine go_fixBox N (bt := 97) (x := .agg [.agg [.lit (.int .i64 (g : Int)), .lit (.int .i64 (n : Int))], .lit (.int .i64 (e : Int)), .lit (.int .i64 (s : Int)), .slice none (cavs.map caAV), .agg (K.map byteAV), .slice none (dis.map boAV)]) (by simp (disch := omega) [go_sem, *, -List.reduceReplicate]) ?_
 iterate 2 refine Wz ?_
 refine go_less 4 (by simp (disch := omega) [go_sem, *]) (hle5 (some (N + 4 + 13))) ?_
 refine Wk ?_
 clear hle5
 refine go_loopF mixed (by kernel_rfl) [3, 5, 29, 30, 31, 32, 33, 34, 35, 36, 37, 38, 39, 40, 41] [N+2] (fun m_ s_ σ_ n_ => ∃ (u : Nat) (acc : List UInt8), m_ = 5 - u ∧ s_ 5 = .lit (.int .i64 u) ∧ s_ 3 = .slice (some (N + 2)) (acc.map byteAV) ∧ σ_ (N+2) = .row 5 1 acc.length ∧ (u ≤ 5) ∧ (acc.length ≤ 1 + 8 * u) ∧ ([1] ++ (L5.take u).flatMap leb = acc)) ⟨_, 0, [1], rfl, WF, WF, WF, WC, WC, WC⟩ ?_
 intro m_2 s_2 σ_2 n_2 hs_2 hf_2 hn_2 hI_2
 obtain ⟨u, acc, hm_2, h2_5, h2_3, e2_0, hu, hal, hacc⟩ := hI_2
 have h2_1 := KS hs_2 1
 have h2_2 := KS hs_2 2
 have h2_4 := KS hs_2 4
 have k2_0 := KE hf_2 (N)
 have hlow := KL (N := N) (σ := σ) hf_2
 clear z1 b1
 by_cases hul : u = 5
 ·subst hul
  rw [List.take_of_length_le (by omega), hR1] at hacc
  subst hacc
  clear hR1 hL5n
  have z2 : R1 ++ (cavs.take 0).flatMap encC = R1 := by simp
  have hpre : ∀ u, (R1 ++ (cavs.take u).flatMap encC).length ≤ R2.length := fun u => by
   rw [← hR2, List.length_append, List.length_append]
   have := flat_take_le encC cavs u
   omega
  have hR12 : R1.length ≤ R2.length := by rw [← hR2, List.length_append]; omega
  refine Wk ?_
  refine go_loopF mixed (by kernel_rfl) [3, 6, 7, 8, 42, 43, 44, 45, 46, 47, 48, 49, 50, 51, 52, 53, 54, 55, 56, 57, 58, 59, 60] [N+2] (fun m_ s_ σ_ n_ => ∃ (u : Nat) (acc : List UInt8), m_ = cavs.length - u ∧ s_ 6 = .lit (.int .i64 u) ∧ s_ 3 = .slice (some (N + 2)) (acc.map byteAV) ∧ σ_ (N+2) = .row 5 1 acc.length ∧ (u ≤ cavs.length) ∧ (acc.length ≤ R2.length) ∧ (R1 ++ (cavs.take u).flatMap encC = acc)) ⟨_, 0, R1, rfl, WF, WF, WF, WC, WC, WC⟩ ?_
  intro m_3 s_3 σ_3 n_3 hs_3 hf_3 hn_3 hI_3
  obtain ⟨u, acc, hm_3, h3_6, h3_3, e3_0, hu, hal, hacc⟩ := hI_3
  have h3_1 := KS hs_3 1
  have h3_2 := KS hs_3 2
  have k3_0 := KE hf_3 (N)
  have hlow := KL (N := N) (σ := σ) hf_3
  clear z2 hR12
  by_cases hul : u = cavs.length
  ·rw [hul, List.take_length, hR2] at hacc
   subst hul hacc
   clear hR2 hcv hpre
   have z4 : R4 ++ (dis.take 0).flatMap encBo = R4 := by simp
   have hcs := And.intro c3 True.intro
   clear c3
   refine Wk ?_
   clear hcs hm4
   refine go_loopF mixed (by kernel_rfl) (3 :: 9 :: 10 :: 11 :: 12 :: 13 :: 70 :: 71 :: 72 :: 73 :: 74 :: 75 :: 76 :: 77 :: 78 :: 79 :: 80 :: 81 :: 82 :: 83 :: 84 :: 85 :: 86 :: 87 :: 88 :: 89 :: 90 :: 91 :: 92 :: 93 :: 94 :: 95 :: 96 :: 97 :: 98 :: 99 :: 100 :: 101 :: 102 :: 103 :: 104 :: 105 :: 106 :: 107 :: 108 :: 109 :: 110 :: 111 :: 112 :: 113 :: 114 :: []) [N+2] (fun m_ s_ σ_ n_ => ∃ (u : Nat) (acc : List UInt8), m_ = dis.length - u ∧ s_ 9 = .lit (.int .i64 u) ∧ s_ 3 = .slice (some (N + 2)) (acc.map byteAV) ∧ σ_ (N+2) = .row 5 1 acc.length ∧ (u ≤ dis.length) ∧ (acc.length ≤ R4.length + 1400 * u) ∧ (R4 ++ (dis.take u).flatMap encBo = acc)) ⟨_, 0, R4, rfl, WF, WF, WF, WC, WC, WC⟩ ?_
   intro m_4 s_4 σ_4 n_4 hs_4 hf_4 hn_4 hI_4
   obtain ⟨u, acc, hm_4, h4_9, h4_3, e4_0, hu, hal, hacc⟩ := hI_4
   have h4_1 := KS hs_4 1
   have h4_2 := KS hs_4 2
   have k4_0 := KE hf_4 (N)
   have hlow := KL (N := N) (σ := σ) hf_4
   clear z4
   by_cases hul : u = dis.length
   ·rw [hul, List.take_length] at hacc
    subst hul
    rw [hacc]
    clear hdv hacc
    exact WM
   ·have hui : u < dis.length := by omega
    have hv1 := hdv _ (List.getElem_mem hui)
    obtain ⟨c, hc⟩ : ∃ c, dis[u] = c := ⟨_, rfl⟩
    rw [hc] at hv1
    have hcl2 := encBo_len hv1
    have hacc2 := flat_take encBo hui hc
    obtain ⟨ti, cs, pf⟩ := c
    have v1 := hv1.t1
    have v2 := hv1.t2
    have v3 := hv1.cl
    have v4 := hv1.cv
    simp only at v1 v2 v3 v4
    clear hv1
    have hau : acc.length ≤ 240000 := by omega
    have k1 := Field_spec_f ti (by omega)
    have k2 := fun k => Number_spec_f cs.length k (by omega)
    have hf1 := fieldB_len ti v2
    have hf2 := leb_len cs.length 7 (by omega)
    obtain ⟨A2, hA2⟩ : ∃ A, acc ++ fieldB ti ++ leb cs.length = A := ⟨_, rfl⟩
    have lm2 : (acc.map byteAV ++ (fieldB ti).map byteAV) ++ (leb cs.length).map byteAV = A2.map byteAV := by rw [← hA2]; simp
    have la2 : acc.length + (fieldB ti).length + (leb cs.length).length = A2.length := by rw [← hA2]; simp; omega
    have la2b : A2.length ≤ 245000 := by omega
    obtain ⟨A3, hA3⟩ : ∃ A, A2 ++ cs.flatMap encP = A := ⟨_, rfl⟩
    have la3 : A3.length ≤ 251000 := by
     have := flat_len encP 40 cs fun p hp => (encP_len p (v4 p hp).1).2
     rw [← hA3, List.length_append]; omega
    have hpre : ∀ u, (A2 ++ (cs.take u).flatMap encP).length ≤ A3.length := fun u => by
     rw [← hA3, List.length_append, List.length_append]
     have := flat_take_le encP cs u
     omega
    have hA23 : A2.length ≤ A3.length := by rw [← hA3, List.length_append]; omega
    obtain ⟨A4, hA4⟩ : ∃ A, A3 ++ pf.1 = A := ⟨_, rfl⟩
    have lm4 : A3.map byteAV ++ pf.1.map byteAV = A4.map byteAV := by rw [← hA4, List.map_append]
    have la4 : A4.length = A3.length + 32 := by rw [← hA4, List.length_append, pf.2]
    have hfin : acc ++ encBo ⟨ti, cs, pf⟩ = A4 := by
     rw [← hA4, ← hA3, ← hA2]; simp [encBo]
    have hacc3 : R4 ++ (dis.take (u + 1)).flatMap encBo = A4 := by rw [hacc2, ← List.append_assoc, hacc, hfin]
    have hal2 : A4.length ≤ R4.length + 1400 * (u + 1) := by rw [← hfin, List.length_append]; omega
    have qs1 := tagAV_sz pf
    have qs2 := tagAV_cell pf
    obtain ⟨K2, hK2⟩ := pf
    have hkA : tagAV ⟨K2, hK2⟩ = .agg (K2.map byteAV) := rfl
    have hbo : boAV ⟨ti, cs, ⟨K2, hK2⟩⟩ = .agg [.slice none (ti.map byteAV), .slice none (cs.map prAV), .agg (K2.map byteAV)] := rfl
    simp only [hkA] at qs1 qs2 lm4
    have qs3 : AV.celll (K2.map byteAV) = true := celll_bytes K2
    have qtk : (K2.map byteAV).take 32 = K2.map byteAV := List.take_of_length_le (by rw [List.length_map]; omega)
    clear hkA hfin hacc hacc2 hA2 hA4 hdv hcl2
    generalize fieldB ti = ft at *
    generalize leb cs.length = lc at *
    have z5 : A2 ++ (cs.take 0).flatMap encP = A2 := by simp
    have hcs := And.intro k1 (And.intro k2 True.intro)
    clear k1 k2
    refine Wk ?_
    clear hcs lm2 la2
    refine go_loopF mixed (by kernel_rfl) [3, 11, 12, 13, 92, 93, 94, 95, 96, 97, 98, 99, 100, 101, 102, 103, 104, 105, 106, 107, 108, 109, 110] [N+2] (fun m_ s_ σ_ n_ => ∃ (v : Nat) (acc : List UInt8), m_ = cs.length - v ∧ s_ 11 = .lit (.int .i64 v) ∧ s_ 3 = .slice (some (N + 2)) (acc.map byteAV) ∧ σ_ (N+2) = .row 5 1 acc.length ∧ (v ≤ cs.length) ∧ (acc.length ≤ A3.length) ∧ (A2 ++ (cs.take v).flatMap encP = acc)) ⟨_, 0, A2, rfl, WF, WF, WF, WC, WC, WC⟩ ?_
    intro m_5 s_5 σ_5 n_5 hs_5 hf_5 hn_5 hI_5
    obtain ⟨v, acc, hm_5, h5_11, h5_3, e5_0, hv, hal3, hacc⟩ := hI_5
    have h5_1 := KS hs_5 1
    have h5_2 := KS hs_5 2
    have h5_9 := KS hs_5 9
    have h5_10 := KS hs_5 10
    have h5_70 := KS hs_5 70
    have h5_71 := KS hs_5 71
    have h5_72 := KS hs_5 72
    have h5_73 := KS hs_5 73
    have h5_74 := KS hs_5 74
    have h5_77 := KS hs_5 77
    have h5_78 := KS hs_5 78
    have h5_79 := KS hs_5 79
    have h5_80 := KS hs_5 80
    have h5_81 := KS hs_5 81
    have h5_82 := KS hs_5 82
    have h5_83 := KS hs_5 83
    have h5_84 := KS hs_5 84
    have h5_85 := KS hs_5 85
    have h5_86 := KS hs_5 86
    have h5_87 := KS hs_5 87
    have h5_88 := KS hs_5 88
    have h5_89 := KS hs_5 89
    have h5_90 := KS hs_5 90
    have h5_91 := KS hs_5 91
    have k5_0 := KE hf_5 (N)
    have k5_1 := KE hf_5 (n_4 + 5 + 5)
    have hlow := KL (N := N) (σ := σ) hf_5
    clear z5 hA23
    by_cases hvl : v = cs.length
    ·rw [hvl, List.take_length, hA3] at hacc
     subst hvl hacc
     clear hA3 v4 hpre
     refine Wk ?_
     exact ⟨WS, WG, WN, _, (show dis.length - (u + 1) < m_4 by omega), u + 1, A4, rfl, WF, WF, WF, WC, WC, WC⟩
    ·have hvi : v < cs.length := by omega
     have hv1 := v4 _ (List.getElem_mem hvi)
     obtain ⟨c, hcc⟩ : ∃ c, cs[v] = c := ⟨_, rfl⟩
     rw [hcc] at hv1
     have hcl := encP_len c hv1.1
     have c1 := refEnc_spec c hv1.2 hv1.1
     have hacc2 := flat_take encP hvi hcc
     rw [← List.append_cancel_left_eq A2, ← List.append_assoc, hacc] at hacc2
     have hal4 := hpre (v + 1)
     rw [hacc2] at hal4
     have hll : acc.length + (encP c).length = (acc ++ encP c).length := by simp
     have hmm : acc.map byteAV ++ (encP c).map byteAV = (acc ++ encP c).map byteAV := by simp
     clear hacc hA3 v4 hpre
     generalize encP c = X at *
     have hb2 : acc.length + X.length ≤ 140737488355328 := by omega
     clear hcl
     generalize hA2 : acc ++ X = acc2 at *
     have hcs := And.intro c1 True.intro
     clear c1 hA2
     refine Wk ?_
     exact ⟨WS, WG, WN, _, (show cs.length - (v + 1) < m_5 by omega), v + 1, acc2, rfl, WF, WF, WF, WC, WC, WC⟩
  ·have hui : u < cavs.length := by omega
   have hv1 := hcv _ (List.getElem_mem hui)
   obtain ⟨c, hc⟩ : ∃ c, cavs[u] = c := ⟨_, rfl⟩
   rw [hc] at hv1
   have hcl2 := encC_len c hv1.1
   have c1 := rEnc_ok c hv1.2 hv1.1
   have hacc2 := flat_take encC hui hc
   rw [← List.append_cancel_left_eq R1, ← List.append_assoc, hacc] at hacc2
   have hal4 := hpre (u + 1)
   rw [hacc2] at hal4
   have hll : acc.length + (encC c).length = (acc ++ encC c).length := by simp
   have hmm : acc.map byteAV ++ (encC c).map byteAV = (acc ++ encC c).map byteAV := by simp
   clear hacc hR2 hcv hpre c3
   generalize encC c = X at *
   have hb2 : acc.length + X.length ≤ 140737488355328 := by omega
   clear hcl2
   generalize hA2 : acc ++ X = acc2 at *
   have hcs := And.intro c1 True.intro
   clear c1 hA2
   refine Wk ?_
   exact ⟨WS, WG, WN, _, (show cavs.length - (u + 1) < m_3 by omega), u + 1, acc2, rfl, WF, WF, WF, WC, WC, WC⟩
 ·have hui : u < L5.length := by omega
  have hui5 : (u : Int) < 5 := by omega
  obtain ⟨c, hc⟩ : ∃ c, L5[u] = c := ⟨_, rfl⟩
  have hcn : c ≤ 281474976710656 := hL5n c (by rw [← hc]; exact List.getElem_mem hui)
  have c1 := fun k => Number_spec_f c k (by omega)
  have hcl2 := leb_len c 7 (by omega)
  have hacc2 := flat_take leb hui hc
  rw [← List.append_cancel_left_eq [1], ← List.append_assoc, hacc] at hacc2
  have hll : acc.length + (leb c).length = (acc ++ leb c).length := by simp
  have hmm : acc.map byteAV ++ (leb c).map byteAV = (acc ++ leb c).map byteAV := by simp
  have hal4 : (acc ++ leb c).length ≤ 1 + 8 * (u + 1) := by rw [← hll]; omega
  clear hacc hR1 hL5n c3 hcv hdv
  generalize leb c = X at *
  have hb2 : acc.length + X.length ≤ 140737488355328 := by omega
  clear hcl2
  generalize hA2 : acc ++ X = acc2 at *
  have hcs := And.intro c1 True.intro
  clear c1 hA2
  refine Wk ?_
  exact ⟨WS, WG, WN, _, (show 5 - (u + 1) < m_2 by omega), u + 1, acc2, rfl, WF, WF, WF, WC, WC, WC⟩
end Go.Proofs.YtdmjpolnbmoehaaGreatDoor

namespace Go.Proofs.YtdmjpolnbmoehaaGreatDoor
open Go.Ab
attribute [local irreducible] Go.Ab.tyAV Go.Ab.aw Go.Ab.aops Go.Ab.kReg Go.Ab.aThen Go.Ab.aBlk Go.Ab.acond Go.Ab.aguard Go.Ab.astep Go.Ab.AStepX Go.Ab.aRet
attribute [local irreducible] shaG
def PRD (l : List Int) (j : Nat) (r : Bool) (p : Pr) (j1 : Nat) : Prop := predB p = true ∧ PrOk p ∧ (r = false → p.kind ≠ 7) ∧ Dk l j1 ∧ ∀ d k, ACall Tryz.prog 19 [.ptr d [] 0, .lit (.bool r)] k [(d, deckBox l j)] (prAV p) [(d, deckBox l j1)]
theorem PRD_ex {l : List Int} {j : Nat} (h : Dk l j) (r : Bool) : ∃ p j1, PRD l j r p j1 := by
 obtain ⟨p, j1, h1, h2, h3, h4, h5⟩ := Predicate_ex l j h r
 exact ⟨p, j1, h1, h2, h3, h4, h5⟩
structure Ss where
 A : Alg
 p : Pa
 gs : List Di
def ann : List UInt8 := [97, 110, 110]
section
variable [W : W32]
def rRun (l : List Int) : Nat → Nat → Alg → Di → (Alg × Di × Nat) → Prop
 | 0, j, A, g, R => R = (A, g, j)
 | f + 1, j, A, g, R => ∃ p j1, PRD l j false p j1 ∧ rRun l f j1 (restrS A g p).1 (restrS A g p).2.1 R
def BL (S : Ss) (con : Co) : Alg × Bl × Nat := blankS S.A con ⟨0, 150⟩
def AD (S : Ss) (con : Co) : Alg × Pa × Nat := addS (BL S con).1 S.p (BL S con).2.1
def GR (S : Ss) (con : Co) (mi : Int) : Alg × Di × Nat := grantS (AD S con).1 con (BL S con).2.1.ticket ann mi
def sRun (l : List Int) (con : Co) (mi : Int) : Nat → Nat → Ss → (Ss × Nat) → Prop
 | 0, j, S, R => R = (S, j)
 | f + 1, j, S, R => ((nextD l j 4).1 ≠ 0 → ∃ p j1, PRD l (nextD l j 4).2 true p j1 ∧ sRun l con mi f j1 ⟨(narS S.A S.p [p]).1, (narS S.A S.p [p]).2.1, S.gs⟩ R) ∧
  ((nextD l j 4).1 = 0 → ∃ R2, rRun l (nextD l (nextD l j 4).2 3).1 (nextD l (nextD l j 4).2 3).2 (GR S con mi).1 (GR S con mi).2.1 R2 ∧ sRun l con mi f R2.2.2 ⟨R2.1, (AD S con).2.1, S.gs ++ [R2.2.1]⟩ R)
structure DiV (g : Di) : Prop where
 t1 : 1 ≤ g.ticket.length
 t2 : g.ticket.length ≤ 200
 cl : g.conds.length ≤ 3
 cv : ∀ p ∈ g.conds, predB p = true ∧ PrOk p ∧ p.kind ≠ 7
def hidB (m : List UInt8) : Bool := m.head? == some 109 || m.head? == some 99 || m.head? == some 103
def hidT (L : List MacE) (t : Tg) : Prop := ∃ e ∈ L, e.tag = t ∧ hidB e.msg = true
omit W in
theorem hidT.sub {L L' : List MacE} {t : Tg} (h : hidT L t) (hs : ∀ e ∈ L, e ∈ L') : hidT L' t := by
 obtain ⟨e, he, h1, h2⟩ := h
 exact ⟨e, hs e he, h1, h2⟩
theorem macS_ent {a : Alg} {key : Tg} {msg : List UInt8} (h : (macS a key msg).2.2 = 0) : ∃ e ∈ (macS a key msg).1.macs, e.tag = (macS a key msg).2.1 ∧ e.msg = msg := by
 by_cases h1 : 4096 < msg.length
 ·rw [macS_long h1] at h; cases h
 ·cases hE : entL key msg a.macs with
  | some t =>
   rw [macS_found h1 hE]
   obtain ⟨e, he, _, h2, h3⟩ := entL_mem hE
   exact ⟨e, he, h3, h2⟩
  | none =>
   by_cases hf : 65536 ≤ a.macs.length
   ·rw [macS_full h1 hE hf] at h; cases h
   ·rw [macS_new h1 hE hf]; exact ⟨_, List.mem_append_right _ (List.mem_singleton.2 rfl), rfl, rfl⟩
theorem macS_hid {a : Alg} {key : Tg} {msg : List UInt8} (h : (macS a key msg).2.2 = 0) (hb : hidB msg = true) : hidT (macS a key msg).1.macs (macS a key msg).2.1 := by
 obtain ⟨e, he, h1, h2⟩ := macS_ent h
 exact ⟨e, he, h1, by rw [h2]; exact hb⟩
structure Good (con : Co) (se : Int) (S : Ss) (n m : Nat) : Prop where
 ain : AlgIn S.A m
 ok : AlgOk S.A
 ep : S.p.epoch = 2
 es : S.p.serial = se
 cl : S.p.cavs.length ≤ n
 cv : ∀ c ∈ S.p.cavs, cavB c = true ∧ PrOk c.first ∧ c.ticket.length ≤ 200 ∧ c.box.length ≤ 200
 th : thirdsS S.p.cavs ≤ n
 gl : S.gs.length ≤ n
 gv : ∀ g ∈ S.gs, DiV g
 nf : ∀ e ∈ S.A.boxes, e.nonce ≤ S.A.fresh
 gb : ∀ g ∈ S.gs, ∃ e ∈ S.A.boxes, e.box = g.ticket ∧ 1 ≤ e.nonce
 gd : ∀ i j (hi : i < S.gs.length) (hj : j < S.gs.length), (S.gs[i]).ticket = (S.gs[j]).ticket → i = j
 pt : hidT S.A.macs S.p.tag
 gt : ∀ g ∈ S.gs, hidT S.A.macs g.tag
omit W in
theorem thirds_app (l : List Ca) (c : Ca) : thirdsS (l ++ [c]) ≤ thirdsS l + 1 := by
 unfold thirdsS
 have h1 := firsts_len l
 have h2 : (firstsS (l ++ [c])).length ≥ (firstsS l).length := by
  unfold firstsS; rw [List.filter_append, List.map_append, List.length_append]; omega
 rw [List.length_append, List.length_singleton]; omega
theorem Good.nar {con : Co} {se : Int} {S : Ss} {n m : Nat} (h : Good con se S n m) (hm : m ≤ 1000) (hn : n ≤ 6) {p : Pr} (hp : predB p = true) (hp0 : PrOk p) :
  Good con se ⟨(narS S.A S.p [p]).1, (narS S.A S.p [p]).2.1, S.gs⟩ (n + 1) (m + 2) := by
 have hcv : cavB (firC p) = true := (CV.first p hp).ok
 have ha := attS_ok h.ain (by omega) (p := S.p) (c := firC p) hcv (by have := h.cl; omega) (fun hh => by cases hh)
 have hk := nodeS_keeps h.ain (by omega) S.p.tag (msg := cavM (firC p)) (by have := cavM_len (firC p); omega)
 have hin := nodeS_in h.ain S.p.tag (cavM (firC p))
 have hok := h.ok.node h.ain (by omega) S.p.tag (msg := cavM (firC p)) (by have := cavM_len (firC p); omega)
 have hn' : narS S.A S.p [p] = ((nodeS S.A S.p.tag (cavM (firC p))).1, ⟨S.p.epoch, S.p.serial, S.p.cavs ++ [firC p], (nodeS S.A S.p.tag (cavM (firC p))).2.1⟩, 0) := by
  simp only [narS]
  rw [ha]
  rfl
 rw [hn']
 obtain ⟨z1, z2, z3⟩ := nodeS_ok h.ain (by omega) S.p.tag (msg := cavM (firC p)) (by have := cavM_len (firC p); omega)
 have zs : ∀ e ∈ S.A.macs, e ∈ (nodeS S.A S.p.tag (cavM (firC p))).1.macs := by rw [z3]; exact fun e he => macS_sub z2 e (macS_sub z1 e he)
 have zt : hidT (nodeS S.A S.p.tag (cavM (firC p))).1.macs (nodeS S.A S.p.tag (cavM (firC p))).2.1 := by rw [z3]; exact (macS_hid z1 rfl).sub (macS_sub z2)
 clear z1 z2 z3
 obtain ⟨k1, k2, k3, k4⟩ := hk
 refine ⟨hin, hok, h.ep, h.es, by have := h.cl; simp; omega, fun c hc => ?_, by have := thirds_app S.p.cavs (firC p); have := h.th; simp only; omega, by have := h.gl; simp only; omega, h.gv, fun e he => ?_, fun g hg => ?_, h.gd, zt, fun g hg => (h.gt g hg).sub zs⟩
 ·rcases List.mem_append.1 hc with hc | hc
  ·exact h.cv c hc
  ·rw [List.mem_singleton.1 hc]; exact ⟨hcv, hp0, by simp [firC], by simp [firC]⟩
 ·simp only at he ⊢
  rw [k4] at he; rw [k3]; exact h.nf e he
 ·simp only
  rw [k4]; exact h.gb g hg
omit W in
theorem readT_plain {k : Tg} {t : Te} (ht : teB t = true) : readT (plainT k t) = (k, t, 0) := by
 obtain ⟨h1, h2, h3⟩ := teB_iff.1 ht
 obtain ⟨x, y⟩ := t
 simp only at h1 h2 h3
 obtain ⟨x, rfl⟩ := Int.eq_ofNat_of_zero_le h1
 obtain ⟨y, rfl⟩ := Int.eq_ofNat_of_zero_le (show 0 ≤ y by omega)
 have hp : plainT k ⟨(x : Nat), (y : Nat)⟩ = k.1 ++ (leb x ++ leb y) := rfl
 rw [hp]
 have hkl := k.2
 have hlen : (k.1 ++ (leb x ++ leb y)).length = 32 + ((leb x).length + (leb y).length) := by simp [hkl]
 have hu : 0 + 32 ≤ (k.1 ++ (leb x ++ leb y)).length := by omega
 have ht1 : tagR (k.1 ++ (leb x ++ leb y)) 0 = (k, 32, 0) := by
  rw [tagR_ok hu]
  refine Prod.ext (Subtype.ext ?_) rfl
  simp only [List.drop_zero]
  exact List.take_left' hkl
 have hd : (k.1 ++ (leb x ++ leb y)).drop 32 = leb x ++ leb y := List.drop_left' hkl
 have hn1 := numR_at (b := k.1 ++ (leb x ++ leb y)) (u := 32) (n := x) (t := leb y) hd (by omega)
 have hd2 : (k.1 ++ (leb x ++ leb y)).drop (32 + (leb x).length) = leb y ++ [] := by
  rw [← List.drop_drop, hd, List.drop_left, List.append_nil]
 have hn2 := numR_at (b := k.1 ++ (leb x ++ leb y)) (u := 32 + (leb x).length) (n := y) (t := []) hd2 (by omega)
 unfold readT
 rw [ht1, hn1]
 simp only [hn2]
 rw [if_neg (by simp), if_neg (by simp), if_neg (by simp), if_neg (by rw [hlen, ht]; simp; omega)]
theorem sealS_mem {a : Alg} {key : Tg} {nonce : Int} {plain : List UInt8} (h : (sealS a key nonce plain).2.2 = 0) : (∃ e ∈ (sealS a key nonce plain).1.boxes, e.box = (sealS a key nonce plain).2.1 ∧ e.nonce = nonce) ∧ (∀ e ∈ a.boxes, e ∈ (sealS a key nonce plain).1.boxes) ∧ (∀ e ∈ (sealS a key nonce plain).1.boxes, e ∈ a.boxes ∨ e.nonce = nonce) := by
 unfold sealS at h ⊢
 split at h
 ·cases h
 ·rename_i h1
  split at h
  ·cases h
  ·rename_i h2
   rw [if_neg h1, if_neg h2]
   split at h
   ·rename_i b hb
    obtain ⟨e, he, k1, k2, k3, k4⟩ := boxL_mem hb
    exact ⟨⟨e, he, k4, k2⟩, fun _ h => h, fun _ h => .inl h⟩
   ·split at h
    ·cases h
    ·rename_i h3
     rw [if_neg h3]
     refine ⟨⟨_, List.mem_append_right _ (List.mem_singleton.2 rfl), rfl, rfl⟩, fun _ h => List.mem_append_left _ h, fun e he => ?_⟩
     rcases List.mem_append.1 he with he | he
     ·exact .inl he
     ·rw [List.mem_singleton.1 he]; exact .inr rfl
theorem box_ne {a : Alg} (ok : AlgOk a) (hl : a.boxes.length ≤ 900000) {e e' : BoxE} (he : e ∈ a.boxes) (he' : e' ∈ a.boxes) (h : e.box = e'.box) : e.nonce = e'.nonce := by
 cases hfr : a.free with
 | true =>
  obtain ⟨i, hi, rfl⟩ := List.getElem_of_mem he
  obtain ⟨j, hj, rfl⟩ := List.getElem_of_mem he'
  rw [ok.bf hfr i hi, ok.bf hfr j hj] at h
  have := symApp_inj (by omega) (by omega) (by omega) (by omega) h
  obtain rfl : i = j := by omega
  rfl
 | false =>
  have p1 := ok.bp e he
  have p2 := ok.bp e' he'
  rw [ok.bn hfr e he, ok.bn hfr e' he'] at h
  unfold sealB at h
  rw [List.append_assoc, List.append_assoc] at h
  exact eightB_inj p1.2.1 (by omega) p2.2.1 (by omega) (List.append_inj_left h (by rw [eightB_len, eightB_len]))
end

section
variable [W : W32]
theorem rRun_ex {l : List Int} : ∀ (f j : Nat) (A : Alg) (g : Di), Dk l j → ∃ R, rRun l f j A g R
 | 0, j, A, g, _ => ⟨_, rfl⟩
 | f + 1, j, A, g, h => by
  obtain ⟨p, j1, hp⟩ := PRD_ex h false
  obtain ⟨R, hR⟩ := rRun_ex f j1 (restrS A g p).1 (restrS A g p).2.1 hp.2.2.2.1
  exact ⟨R, p, j1, hp, hR⟩
theorem rRun_good {l : List Int} : ∀ (f j : Nat) (A : Alg) (g : Di) (R : Alg × Di × Nat) (m c : Nat), rRun l f j A g R → Dk l j → AlgIn A m → AlgOk A → g.conds.length ≤ c → (∀ p ∈ g.conds, predB p = true ∧ PrOk p ∧ p.kind ≠ 7) → f + c ≤ 7 → m + f ≤ 50000 →
  AlgIn R.1 (m + f) ∧ AlgOk R.1 ∧ R.1.boxes = A.boxes ∧ R.1.fresh = A.fresh ∧ R.1.free = A.free ∧ R.2.1.ticket = g.ticket ∧ R.2.1.conds.length ≤ c + f ∧ (∀ p ∈ R.2.1.conds, predB p = true ∧ PrOk p ∧ p.kind ≠ 7) ∧ Dk l R.2.2 ∧ (∀ e ∈ A.macs, e ∈ R.1.macs) ∧ (hidT A.macs g.tag → hidT R.1.macs R.2.1.tag)
 | 0, j, A, g, R, m, c, hR, hj, ha, ok, hc, hv, _, _ => by
  have hR : R = (A, g, j) := hR
  subst hR
  exact ⟨ha, ok, rfl, rfl, rfl, rfl, hc, hv, hj, fun e he => he, fun h => h⟩
 | f + 1, j, A, g, R, m, c, hR, hj, ha, ok, hc, hv, h1, h2 => by
  obtain ⟨p, j1, ⟨p1, p2, p3, p4, _⟩, hR⟩ := hR
  obtain ⟨r1, r2⟩ := restrS_ok ha (by omega) p1 (p3 rfl) (d := g) (by omega)
  obtain ⟨q1, _, q3, q4⟩ := macS_free r1
  rw [r2] at hR
  have := rRun_good f j1 _ _ R (m + 1) (c + 1) hR p4 (macS_in ha _ _) (ok.mac _ _) (by simp; omega) (fun x hx => by
   rcases List.mem_append.1 hx with hx | hx
   ·exact hv x hx
   ·rw [List.mem_singleton.1 hx]; exact ⟨p1, p2, p3 rfl⟩) (by omega) (by omega)
  obtain ⟨k1, k2, k3, k4, k5, k6, k7, k8, k9, k10, k11⟩ := this
  exact ⟨by rw [show m + (f + 1) = m + 1 + f by omega]; exact k1, k2, k3.trans q4, k4.trans q3, k5.trans q1, k6, by omega, k8, k9, fun e he => k10 e (macS_sub r1 e he), fun _ => k11 (macS_hid r1 rfl)⟩
structure Stp (S S' : Ss) : Prop where
 sub : ∀ e ∈ S.A.macs, e ∈ S'.A.macs
 add : ∃ c, S'.p.cavs = S.p.cavs ++ [c] ∧ nodeIn S'.A.macs S.p.tag (cavM c) S'.p.tag
omit W in
theorem Stp.path {S S' : Ss} (h : Stp S S') {k : Tg} {m : List UInt8} (hp : pathIn S.A.macs k (m :: S.p.cavs.map cavM) S.p.tag) : pathIn S'.A.macs k (m :: S'.p.cavs.map cavM) S'.p.tag := by
 obtain ⟨c, h1, h2⟩ := h.add
 rw [h1, List.map_append, List.map_cons, List.map_nil, ← List.cons_append]
 exact (hp.sub h.sub).snoc h2
theorem Stp.nar {con : Co} {se : Int} {S : Ss} {n m : Nat} (h : Good con se S n m) (hm : m ≤ 1000) (hn : n ≤ 6) {p : Pr} (hp : predB p = true) :
  Stp S ⟨(narS S.A S.p [p]).1, (narS S.A S.p [p]).2.1, S.gs⟩ := by
 have hcv : cavB (firC p) = true := (CV.first p hp).ok
 have ha := attS_ok h.ain (by omega) (p := S.p) (c := firC p) hcv (by have := h.cl; omega) (fun hh => by cases hh)
 have hn' : narS S.A S.p [p] = ((nodeS S.A S.p.tag (cavM (firC p))).1, ⟨S.p.epoch, S.p.serial, S.p.cavs ++ [firC p], (nodeS S.A S.p.tag (cavM (firC p))).2.1⟩, 0) := by
  simp only [narS]
  rw [ha]
  rfl
 obtain ⟨z1, z2⟩ := nodeS_mem h.ain (by omega) S.p.tag (msg := cavM (firC p)) (by have := cavM_len (firC p); omega)
 rw [hn']
 exact ⟨z2, _, rfl, z1⟩
theorem Good.thd {con : Co} {se mi : Int} {S : Ss} {n m : Nat} (h : Good con se S n m) (hm : m ≤ 1000) (hn : n ≤ 6) (c0 : 0 ≤ con.party) (c7 : con.party ≤ 7) {bo : Int} (hf : findP con.ps ann = (⟨ann, bo⟩, true)) (b0 : -60000000 ≤ bo) (b1 : bo ≤ 0) (m0 : 0 ≤ mi) (m1 : mi ≤ 10000)
  {l : List Int} {f j : Nat} (hj : Dk l j) (hf2 : f ≤ 2) {R2 : Alg × Di × Nat} (hR : rRun l f j (GR S con mi).1 (GR S con mi).2.1 R2) :
  Good con se ⟨R2.1, (AD S con).2.1, S.gs ++ [R2.2.1]⟩ (n + 1) (m + 12) ∧ Dk l R2.2.2 ∧ Stp S ⟨R2.1, (AD S con).2.1, S.gs ++ [R2.2.1]⟩ := by
 obtain ⟨hk, hb2, hB⟩ := blankS_ok h.ain (by omega) (c := con) (t := ⟨0, 150⟩) rfl c0 c7
 have hBL : BL S con = _ := hB
 have okk := h.ok.key
 have ok1 := okk.sealed con.key (keyS S.A).1.fresh (plainT (keyS S.A).2.1 ⟨0, 150⟩)
 have ink := keyS_in h.ain
 have in1 := sealS_in ink con.key (keyS S.A).1.fresh (plainT (keyS S.A).2.1 ⟨0, 150⟩)
 have hpl := plainT_len (keyS S.A).2.1 ⟨0, 150⟩ rfl
 have htl := sealS_box okk hb2
 have hop := open_seal okk (by have := ink.bl; omega) hb2
 obtain ⟨hmem, hold, hnew⟩ := sealS_mem hb2
 obtain ⟨sf1, sf2, sf3, sf4⟩ := sealS_free hb2
 have hkf : (keyS S.A).1.fresh = S.A.fresh + 1 := by rw [hk]
 have hkb : (keyS S.A).1.boxes = S.A.boxes := by rw [hk]
 have hkm : (keyS S.A).1.macs = S.A.macs := by rw [hk]
 have hAD : AD S con = addS (BL S con).1 S.p (BL S con).2.1 := rfl
 have hGR : GR S con mi = grantS (AD S con).1 con (BL S con).2.1.ticket ann mi := rfl
 rw [hBL] at hAD hGR
 simp only at hAD hGR
 clear hB hBL
 generalize (keyS S.A).2.1 = kt at *
 have hrd : readT (plainT kt ⟨0, 150⟩) = (kt, ⟨0, 150⟩, 0) := readT_plain rfl
 generalize plainT kt ⟨0, 150⟩ = pl at *
 generalize sealS (keyS S.A).1 con.key (keyS S.A).1.fresh pl = X at *
 obtain ⟨a1, tk, e1⟩ := X
 simp only at *
 have tk1 : 1 ≤ tk.length := by omega
 have tk2 : tk.length ≤ 90 := by omega
 obtain ⟨A1, A2, A3, A4⟩ := addS_ok ok1 in1 (by omega) (p := S.p) (b := ⟨con.party, kt, tk⟩) (by have := h.cl; omega) (by have := h.th; omega) c0 c7 tk1 (by simp only; omega)
 simp only at A1 A2 A3 A4
 rw [A4] at hAD
 have in2 := macS_in in1 S.p.tag (sealM tk)
 have ok2 := ok1.mac S.p.tag (sealM tk)
 have op2 := open_mac A1 con.key tk
 rw [hop] at op2
 obtain ⟨f21, _, f23, f24⟩ := macS_free A1
 have u2 := macS_sub A1
 generalize macS a1 S.p.tag (sealM tk) = Y at *
 obtain ⟨a2, t2, e2⟩ := Y
 simp only at *
 have in3 := sealS_in in2 t2 0 kt.1
 have ok3 := ok2.sealed t2 0 kt.1
 have op3 := open_mono A2 op2
 obtain ⟨_, s31, s32⟩ := sealS_mem A2
 obtain ⟨f31, f32, f33, _⟩ := sealS_free A2
 have bxl := sealS_box ok2 A2
 rw [kt.2] at bxl
 generalize sealS a2 t2 0 kt.1 = Z at *
 obtain ⟨a3, bx, e3⟩ := Z
 simp only at *
 have hat := attS_ok in3 (by omega) (p := S.p) A3 (by have := h.cl; omega) (fun _ => by have := h.th; omega)
 have hcm := cavM_len ⟨true, zeroPr, con.party, tk, bx⟩
 obtain ⟨n1, n2, n3⟩ := nodeS_ok in3 (by omega) S.p.tag (msg := cavM ⟨true, zeroPr, con.party, tk, bx⟩) (by omega)
 obtain ⟨_, k2, k3, k4⟩ := nodeS_keeps in3 (by omega) S.p.tag (msg := cavM ⟨true, zeroPr, con.party, tk, bx⟩) (by omega)
 have in4 := nodeS_in in3 S.p.tag (cavM ⟨true, zeroPr, con.party, tk, bx⟩)
 have ok4 := ok3.node in3 (by omega) S.p.tag (msg := cavM ⟨true, zeroPr, con.party, tk, bx⟩) (by omega)
 have op4 : openS (nodeS a3 S.p.tag (cavM ⟨true, zeroPr, con.party, tk, bx⟩)).1 con.key tk = (pl, 0) := by
  rw [n3]; simp only; rw [open_mac n2, open_mac n1]; exact op3
 have v4 := (nodeS_mem in3 (by omega) S.p.tag (msg := cavM ⟨true, zeroPr, con.party, tk, bx⟩) (by omega)).1
 have u4 : ∀ e ∈ a3.macs, e ∈ (nodeS a3 S.p.tag (cavM ⟨true, zeroPr, con.party, tk, bx⟩)).1.macs := by rw [n3]; exact fun e he => macS_sub n2 e (macS_sub n1 e he)
 have w4 : hidT (nodeS a3 S.p.tag (cavM ⟨true, zeroPr, con.party, tk, bx⟩)).1.macs (nodeS a3 S.p.tag (cavM ⟨true, zeroPr, con.party, tk, bx⟩)).2.1 := by rw [n3]; exact (macS_hid n1 rfl).sub (macS_sub n2)
 rw [hat] at hAD
 clear n1 n2 n3 hat hcm
 generalize (nodeS a3 S.p.tag (cavM ⟨true, zeroPr, con.party, tk, bx⟩)).2.1 = t4 at *
 generalize (nodeS a3 S.p.tag (cavM ⟨true, zeroPr, con.party, tk, bx⟩)).1 = a4 at *
 have hoT : openT a4 con tk = (kt, ⟨0, 150⟩, 0) := by
  unfold openT; rw [op4]; simp only; rw [if_neg (by simp)]; exact hrd
 have hag := age_ok (b := bo) m0 m1 b0 b1
 have hm1 : (macS a4 kt (grantM tk)).2.2 = 0 := macS_ok _ (by simp [grantM]; omega) (by have := in4.ml; omega)
 have hpv : predB (holdP ann) = true := by decide
 have in5 := macS_in in4 kt (grantM tk)
 have ok5 := ok4.mac kt (grantM tk)
 obtain ⟨f51, _, f53, f54⟩ := macS_free hm1
 have u5 := macS_sub hm1
 rw [hAD] at hGR
 have hG2 : grantS a4 con tk ann mi = restrS (macS a4 kt (grantM tk)).1 ⟨tk, [], (macS a4 kt (grantM tk)).2.1⟩ (holdP ann) := by
  unfold grantS
  rw [if_neg (show ¬ nameB ann = false by decide), if_neg (by omega), hoT]
  simp only
  rw [if_neg (by simp), hf]
  simp only
  rw [if_neg (by simp), if_neg (by omega), if_pos hm1]
 simp only at hGR
 rw [hG2] at hGR
 generalize macS a4 kt (grantM tk) = V at *
 obtain ⟨a5, t5, e5⟩ := V
 simp only at *
 obtain ⟨r1, r2⟩ := restrS_ok in5 (by omega) (d := ⟨tk, [], t5⟩) hpv (show (holdP ann).kind ≠ 7 by decide) (by simp)
 simp only at r1 r2
 rw [r2] at hGR
 obtain ⟨f61, _, f63, f64⟩ := macS_free r1
 have u6 := macS_sub r1
 have w6 := macS_hid r1 rfl
 have in6 := macS_in in5 t5 (condM (holdP ann))
 have ok6 := ok5.mac t5 (condM (holdP ann))
 rw [hGR] at hR
 simp only at hR
 have hrg := rRun_good f j _ _ R2 (m + 8) 1 hR hj (in6.more (by omega)) ok6 (by simp) (fun p hp => by
  simp only [List.nil_append, List.mem_singleton] at hp
  rw [hp]; exact ⟨hpv, ⟨by decide, by decide, by decide⟩, by decide⟩) (by omega) (by omega)
 obtain ⟨g1, g2, g3, g4, g5, g6, g7, g8, g9, g10, g11⟩ := hrg
 obtain ⟨A', g', j'⟩ := R2
 simp only at *
 have hbox : A'.boxes = a3.boxes := by rw [g3, f64, f54, k4]
 have hfre : A'.fresh = S.A.fresh + 1 := by rw [g4, f63, f53, k3, f33, f23, sf3, hkf]
 have hb31 : ∀ e ∈ a1.boxes, e ∈ a3.boxes := fun e he => s31 e (by rw [f24]; exact he)
 have hbS : ∀ e ∈ S.A.boxes, e ∈ a3.boxes := fun e he => hb31 e (hold e (by rw [hkb]; exact he))
 have hf0 := h.ain.f0
 obtain ⟨e0, he0, he01, he02⟩ := hmem
 have hgl := h.gl
 have in3b := in3.bl
 have us : ∀ e ∈ a4.macs, e ∈ A'.macs := fun e he => g10 e (u6 e (u5 e he))
 have uS : ∀ e ∈ S.A.macs, e ∈ A'.macs := fun e he => us e (u4 e (by rw [f32]; exact u2 e (by rw [sf2, hkm]; exact he)))
 refine ⟨⟨g1.more (by omega), g2, by rw [hAD]; exact h.ep, by rw [hAD]; exact h.es, ?_, fun c hc => ?_, ?_, ?_, fun g hg => ?_, fun e he => ?_, fun g hg => ?_, fun i q hi hq heq => ?_, by rw [hAD]; exact w4.sub us, fun g hg => ?_⟩, g9, ⟨uS, ⟨true, zeroPr, con.party, tk, bx⟩, by rw [hAD], by rw [hAD]; exact v4.sub us⟩⟩
 ·rw [hAD]; have := h.cl; simp; omega
 ·rw [hAD] at hc
  simp only at hc
  rcases List.mem_append.1 hc with hc | hc
  ·exact h.cv c hc
  ·rw [List.mem_singleton.1 hc]; exact ⟨A3, zeroPr_ok, by simp only; omega, by simp only; omega⟩
 ·rw [hAD]; have := thirds_app S.p.cavs ⟨true, zeroPr, con.party, tk, bx⟩; have := h.th; simp only; omega
 ·simp; omega
 ·simp only at hg
  rcases List.mem_append.1 hg with hg | hg
  ·exact h.gv g hg
  ·rw [List.mem_singleton.1 hg]
   exact ⟨by rw [g6]; exact tk1, by rw [g6]; omega, by omega, g8⟩
 ·simp only at he ⊢
  rw [hbox] at he
  rw [hfre]
  rcases s32 e he with he | he
  ·rw [f24] at he
   rcases hnew e he with he | he
   ·rw [hkb] at he
    have := h.nf e he
    omega
   ·rw [he, hkf]; omega
  ·rw [he]; omega
 ·simp only at hg ⊢
  rw [hbox]
  rcases List.mem_append.1 hg with hg | hg
  ·obtain ⟨e, he, h1, h2⟩ := h.gb g hg
   exact ⟨e, hbS e he, h1, h2⟩
  ·rw [List.mem_singleton.1 hg]
   exact ⟨e0, hb31 e0 he0, by rw [he01, g6], by rw [he02, hkf]; omega⟩
 ·simp only [List.length_append, List.length_singleton] at hi hq
  have key : ∀ i (hi : i < S.gs.length), (S.gs[i]).ticket ≠ tk := fun i hi heq => by
   obtain ⟨e, he, h1, h2⟩ := h.gb _ (List.getElem_mem hi)
   have := box_ne ok3 (by omega) (hbS e he) (hb31 e0 he0) (by rw [h1, he01, heq])
   rw [he02, hkf] at this
   have := h.nf e he
   omega
  rcases Nat.lt_or_ge i S.gs.length with h1 | h1 <;> rcases Nat.lt_or_ge q S.gs.length with h2 | h2
  ·simp only [List.getElem_append_left h1, List.getElem_append_left h2] at heq
   exact h.gd i q h1 h2 heq
  ·obtain rfl : q = S.gs.length := by omega
   simp only [List.getElem_append_left h1, List.getElem_append_right (Nat.le_refl _), Nat.sub_self, List.getElem_singleton, g6] at heq
   exact absurd heq (key i h1)
  ·obtain rfl : i = S.gs.length := by omega
   simp only [List.getElem_append_left h2, List.getElem_append_right (Nat.le_refl _), Nat.sub_self, List.getElem_singleton, g6] at heq
   exact absurd heq.symm (key q h2)
  ·omega
 ·rcases List.mem_append.1 hg with hg | hg
  ·exact (h.gt g hg).sub uS
  ·rw [List.mem_singleton.1 hg]; exact g11 w6
theorem sRun_ex {l : List Int} {con : Co} {se mi : Int} (c0 : 0 ≤ con.party) (c7 : con.party ≤ 7) {bo : Int} (hf : findP con.ps ann = (⟨ann, bo⟩, true)) (b0 : -60000000 ≤ bo) (b1 : bo ≤ 0) (m0 : 0 ≤ mi) (m1 : mi ≤ 10000) :
  ∀ (f j n m : Nat) (S : Ss), Dk l j → Good con se S n m → f + n ≤ 6 → m + 12 * f ≤ 1000 → ∃ R, sRun l con mi f j S R ∧ Good con se R.1 (n + f) (m + 12 * f) ∧ Dk l R.2 ∧ ∀ k m, pathIn S.A.macs k (m :: S.p.cavs.map cavM) S.p.tag → pathIn R.1.A.macs k (m :: R.1.p.cavs.map cavM) R.1.p.tag
 | 0, j, n, m, S, hj, hS, _, _ => ⟨_, rfl, hS, hj, fun _ _ h => h⟩
 | f + 1, j, n, m, S, hj, hS, h1, h2 => by
  have d1 := nextD_dk 4 hj
  by_cases hx : (nextD l j 4).1 = 0
  ·have d2 := nextD_dk 3 d1
   have b2 := nextD_lt l (nextD l j 4).2 3 (by omega)
   obtain ⟨R2, hR2⟩ := rRun_ex (nextD l (nextD l j 4).2 3).1 (nextD l (nextD l j 4).2 3).2 (GR S con mi).1 (GR S con mi).2.1 d2
   obtain ⟨hg, hd, hst⟩ := hS.thd (by omega) (by omega) c0 c7 hf b0 b1 m0 m1 d2 (by omega) hR2
   obtain ⟨R, hR, hG, hD, hP⟩ := sRun_ex c0 c7 hf b0 b1 m0 m1 f R2.2.2 (n + 1) (m + 12) _ hd hg (by omega) (by omega)
   refine ⟨R, ⟨fun h => absurd hx h, fun _ => ⟨R2, hR2, hR⟩⟩, ?_, hD, fun k m h => hP k m (hst.path h)⟩
   rw [show n + (f + 1) = n + 1 + f by omega, show m + 12 * (f + 1) = m + 12 + 12 * f by omega]
   exact hG
  ·obtain ⟨p, j1, hp⟩ := PRD_ex d1 true
   have hg := hS.nar (by omega) (by omega) hp.1 hp.2.1
   have hst := Stp.nar hS (by omega) (by omega) hp.1
   obtain ⟨R, hR, hG, hD, hP⟩ := sRun_ex c0 c7 hf b0 b1 m0 m1 f j1 (n + 1) (m + 12) _ hp.2.2.2.1 { hg with ain := hg.ain.more (by omega) } (by omega) (by omega)
   refine ⟨R, ⟨fun _ => ⟨p, j1, hp, hR⟩, fun h => absurd h hx⟩, ?_, hD, fun k m h => hP k m (hst.path h)⟩
   rw [show n + (f + 1) = n + 1 + f by omega, show m + 12 * (f + 1) = m + 12 + 12 * f by omega]
   exact hG
end

theorem refNew_spec (fr : Bool) (sd : Tg) (k : Nat) :
  ACall Tryz.prog 71 [.lit (.bool fr), tagAV sd] k [] (algAV ⟨fr, sd, 0, [], []⟩) [] := by
 simp only [algAV, List.map_nil]
 refine Bd Tryz.func71 Tryz.ntmps71 fun σ N hp hpn hk hkn hfree => ?_
 exact WA
section
variable [W : W32]
end

end Go.Proofs.YtdmjpolnbmoehaaGreatDoor
