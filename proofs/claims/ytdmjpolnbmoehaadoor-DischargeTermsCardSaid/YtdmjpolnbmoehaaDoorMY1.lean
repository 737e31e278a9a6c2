/- Texts C14, C15, X1, X2, X3, X4, U6, X5, X6, C16, U5, U7, X7, X8, X9, joined. -/
import Derived.Test.YtdmjpolnbmoehaaDoorM9
import Derived.RecoverIn
import Derived.RangeFuncLeaves

namespace Go.Ab
theorem go_if {P : Program} {N : Nat} {b : Code} {Q : AExit → Cfg → Prop} {next : Cfg → Prop} {s : Slots} {σ : Nat → Ent} {n : Nat} (L ents : List Nat) (I : (Nat → Ent) → Prop)
  (h1 : SKeep L s s → EKeep n ents σ σ → aw P N b (aThen (fun c => SKeep L s c.s ∧ EKeep n ents σ c.σ ∧ n ≤ c.n ∧ I c.σ) Q) ⟨s, σ, n⟩)
  (h2 : ∀ s' σ' n', SKeep L s s' → EKeep n ents σ σ' → n ≤ n' → I σ' → next ⟨s', σ', n'⟩) : aw P N b (aThen next Q) ⟨s, σ, n⟩ :=
 go_after0 _ (h1 (SKeep.refl L s) (EKeep.refl n ents σ)) fun c ⟨a, b, c1, c2⟩ => h2 c.s c.σ c.n a b c1 c2
end Go.Ab

namespace Go.Ab
open Go.RowKit
section
variable {W0 : World} {N : Nat} {P : Program} {ops : Array Oper} {m : Nat} {out : Nat → Step}
theorem lexA_prefix {Q : Cfg → Prop} {Q' : Exit → Act → World → Prop} {ro : Option Nat} {D : List Deferred} {tl : List Nat} (g0 : Ghost) (hN : shapeOK N ops = true) (e0 : Nat)
  (hQ : ∀ c g a w, g0.le g → SimA W0 g N c a w → a.defers = D → m + ops.size ≤ c.n → (∀ j, e0 ≤ j → j < ops.size → c.σ (m + j) = .none) → Q c → wpOpsIn (wideAt ro) 0 P ops Q' tl a w) :
  ∀ (l : List Oper) (k : Nat) (c : Cfg) (g : Ghost) (a : Act) (w : World), (∀ j, j < l.length → l[j]? = ops[k + j]?) → k + l.length = e0 → e0 ≤ ops.size → g0.le g → SimA W0 g N c a w → a.defers = D → m + ops.size ≤ c.n → (∀ j, k ≤ j → j < ops.size → c.σ (m + j) = .none) →
   lexA P ops m out Q l k c → wpOpsIn (wideAt ro) 0 P ops Q' (List.range' k l.length ++ tl) a w
 | [], k, c, g, a, w, _, he, _, hg, hS, hD, hn, hf, h => by
  simp only [List.length_nil, Nat.add_zero] at he
  subst he
  simpa using hQ c g a w hg hS hD hn hf h
 | o :: l, k, c, g, a, w, hl, hk, hke, hg, hS, hD, hn, hf, h => by
  have h0 : ops[k]? = some o := by simpa using (hl 0 (by simp)).symm
  simp only [List.length_cons] at hk ⊢
  rw [List.range'_succ, List.cons_append, wpOpsIn_cons]
  refine h.1.run h0 hN hS (hf k (Nat.le_refl _) (by omega)) (by omega) fun g' a' w' hle hS' hD' => ?_
  refine lexA_prefix g0 hN e0 hQ l (k + 1) _ g' a' w' (fun j hj => by have := hl (j + 1) (by simp; omega); simpa [Nat.add_assoc, Nat.add_comm 1 j] using this) (by omega) hke (hg.trans hle) hS' (hD'.trans hD) hn (fun j hj hjs => ?_) h.2
  have hnone := hf j (by omega) hjs
  show wr c.σ (out k).post (m + j) = .none
  rw [wr_other]
  ·exact hnone
  ·intro q hq he
   rcases h.1.post_ids q hq with h1 | h1
   ·omega
   ·rw [he] at h1; exact h1 hnone
end
end Go.Ab

namespace Go.Proofs.YtdmjpolnbmoehaaDoor
open Go.Ab
attribute [local irreducible] Go.Ab.tyAV Go.Ab.aw Go.Ab.aops Go.Ab.kReg Go.Ab.aThen Go.Ab.aBlk Go.Ab.acond Go.Ab.aguard Go.Ab.astep Go.Ab.AStepX Go.Ab.aRet
attribute [local irreducible] shaG
theorem bNumber_row (m : Int) (k : Nat) :
  ACall Tryd.prog 92 [.lit (.int .i64 m)] k [] (.slice (some k) ((eightB m).map byteAV)) [(k, .row 5 1 8)] := by
 have e7 := sh8_wrap m 56
 have e6 := sh8_wrap m 48
 have e5 := sh8_wrap m 40
 have e4 := sh8_wrap m 32
 have e3 := sh8_wrap m 24
 have e2 := sh8_wrap m 16
 have e1 := sh8_wrap m 8
 have e0 := sh8_wrap m 0
 simp only [Int.reducePow, Int.pow_zero, Int.fdiv_one] at e7 e6 e5 e4 e3 e2 e1 e0
 unfold eightB
 generalize sh8 m 56 = b7 at *
 generalize sh8 m 48 = b6 at *
 generalize sh8 m 40 = b5 at *
 generalize sh8 m 32 = b4 at *
 generalize sh8 m 24 = b3 at *
 generalize sh8 m 16 = b2 at *
 generalize sh8 m 8 = b1 at *
 generalize sh8 m 0 = b0 at *
 refine Bd Tryd.func92 Tryd.ntmps92 fun σ N hp hpn hk hkn hfree => ?_
 refine Wk ?_
 refine ALoop.nilrow 3 5 1 (by simp (disch := omega) [go_sem, *, -List.reduceReplicate]) ?_
 refine go_loopB (N) mixed (by kernel_rfl) [3, 4, 5, 6, 7, 8, 9, 10, 11, 12, 13, 14, 15] [] (fun m_ s_ σ_ n_ => ∃ (u : Nat) (q : Nat) (acc : List UInt8), m_ = 8 - u ∧ s_ 4 = .lit (.int .i64 (56 - 8 * (u : Int))) ∧ s_ 3 = .slice (some q) (acc.map byteAV) ∧ σ_ (q) = .row 5 1 acc.length ∧ (u ≤ 8) ∧ (N ≤ q) ∧ (q < n_) ∧ (acc = [b7, b6, b5, b4, b3, b2, b1, b0].take u)) ⟨_, 0, _, [], rfl, WF, WF, WF, WC, WC, WC, WC⟩ ?_
 intro m_1 s_1 σ_1 n_1 hs_1 hf_1 hn_1 hI_1
 obtain ⟨u, q, acc, hm_1, h1_4, h1_3, e1_0, hu, hq, hqn, hacc⟩ := hI_1
 have h1_0 := KS hs_1 0
 have h1_2 := KS hs_1 2
 have hlow := KL (N := N) (σ := σ) hf_1
 have hb7 : byteAV b7 = .lit (.int .u8 b7.toNat) := rfl
 have hb6 : byteAV b6 = .lit (.int .u8 b6.toNat) := rfl
 have hb5 : byteAV b5 = .lit (.int .u8 b5.toNat) := rfl
 have hb4 : byteAV b4 = .lit (.int .u8 b4.toNat) := rfl
 have hb3 : byteAV b3 = .lit (.int .u8 b3.toNat) := rfl
 have hb2 : byteAV b2 = .lit (.int .u8 b2.toNat) := rfl
 have hb1 : byteAV b1 = .lit (.int .u8 b1.toNat) := rfl
 have hb0 : byteAV b0 = .lit (.int .u8 b0.toNat) := rfl
 have hcase : u = 0 ∨ u = 1 ∨ u = 2 ∨ u = 3 ∨ u = 4 ∨ u = 5 ∨ u = 6 ∨ u = 7 ∨ u = 8 := by omega
 rcases hcase with rfl | hcase
 ·simp only [List.take_zero] at hacc
  subst hacc
  refine Wk ?_
  exact ⟨WS, WG, WN, _, (show 8 - (1) < m_1 by omega), 1, q, [b7], rfl, WF, WF, WF, WC, WC, WC, WC⟩
 rcases hcase with rfl | hcase
 ·simp only [List.take_succ_cons, List.take_zero] at hacc
  subst hacc
  refine Wk ?_
  exact ⟨WS, WG, WN, _, (show 8 - (2) < m_1 by omega), 2, q, [b7, b6], rfl, WF, WF, WF, WC, WC, WC, WC⟩
 rcases hcase with rfl | hcase
 ·simp only [List.take_succ_cons, List.take_zero] at hacc
  subst hacc
  refine Wk ?_
  exact ⟨WS, WG, WN, _, (show 8 - (3) < m_1 by omega), 3, q, [b7, b6, b5], rfl, WF, WF, WF, WC, WC, WC, WC⟩
 rcases hcase with rfl | hcase
 ·simp only [List.take_succ_cons, List.take_zero] at hacc
  subst hacc
  refine Wk ?_
  exact ⟨WS, WG, WN, _, (show 8 - (4) < m_1 by omega), 4, q, [b7, b6, b5, b4], rfl, WF, WF, WF, WC, WC, WC, WC⟩
 rcases hcase with rfl | hcase
 ·simp only [List.take_succ_cons, List.take_zero] at hacc
  subst hacc
  refine Wk ?_
  exact ⟨WS, WG, WN, _, (show 8 - (5) < m_1 by omega), 5, q, [b7, b6, b5, b4, b3], rfl, WF, WF, WF, WC, WC, WC, WC⟩
 rcases hcase with rfl | hcase
 ·simp only [List.take_succ_cons, List.take_zero] at hacc
  subst hacc
  refine Wk ?_
  exact ⟨WS, WG, WN, _, (show 8 - (6) < m_1 by omega), 6, q, [b7, b6, b5, b4, b3, b2], rfl, WF, WF, WF, WC, WC, WC, WC⟩
 rcases hcase with rfl | hcase
 ·simp only [List.take_succ_cons, List.take_zero] at hacc
  subst hacc
  refine Wk ?_
  exact ⟨WS, WG, WN, _, (show 8 - (7) < m_1 by omega), 7, q, [b7, b6, b5, b4, b3, b2, b1], rfl, WF, WF, WF, WC, WC, WC, WC⟩
 rcases hcase with rfl | hcase
 ·simp only [List.take_succ_cons, List.take_zero] at hacc
  subst hacc
  refine Wk ?_
  exact ⟨WS, WG, WN, _, (show 8 - (8) < m_1 by omega), 8, q, [b7, b6, b5, b4, b3, b2, b1, b0], rfl, WF, WF, WF, WC, WC, WC, WC⟩
 subst hcase
 simp only [List.take_succ_cons, List.take_zero] at hacc
 subst hacc
 clear hb7 hb6 hb5 hb4 hb3 hb2 hb1 hb0
 refine Wk ?_
 refine go_result1 (r0 := q) (by simp (disch := omega) [go_sem, *, -List.reduceReplicate]; rfl) (by omega) (by simp (disch := omega) [go_sem]; try rfl) (fun id hid => by simp (disch := omega) only; try exact hlow id hid) (by simp (disch := omega) [go_sem, *, -List.reduceReplicate]; rfl) (by simp (disch := omega) [go_sem])
theorem label_fresh (k : Nat) : ACall Tryd.prog 119 [.lit (.string ⟨#[102, 114, 101, 115, 104]⟩)] k [] (.lit (.bool true)) [] := by
 refine Bd Tryd.func119 Tryd.ntmps119 fun σ N hp hpn hk hkn hfree => ?_
 refine Wk ?_
 refine go_loopF mixed (by kernel_rfl) [2, 3, 14, 15, 16, 17, 18, 19, 20, 21, 22, 23, 24, 25, 26, 27] [] (fun m_ s_ σ_ n_ => ∃ (u : Nat), m_ = 5 - u ∧ s_ 14 = .lit (.int .i64 u) ∧ s_ 13 = .lit (.int .i64 5) ∧ s_ 0 = .lit (.string ⟨#[102, 114, 101, 115, 104]⟩) ∧ (u ≤ 5)) ⟨_, 0, rfl, WF, WF, WF, WC⟩ ?_
 intro m_2 s_2 σ_2 n_2 hs_2 hf_2 hn_2 hI_2
 obtain ⟨u, hm_2, h2_14, h2_13, h2_0, hu⟩ := hI_2
 have h2_0 := KS hs_2 0
 have h2_13 := KS hs_2 13
 have hlow := KL (N := N) (σ := σ) hf_2
 have hcase : u = 0 ∨ u = 1 ∨ u = 2 ∨ u = 3 ∨ u = 4 ∨ u = 5 := by omega
 rcases hcase with rfl | rfl | rfl | rfl | rfl | rfl
 ·refine Wk ?_
  exact ⟨WS, WG, WN, _, (show 5 - (1) < m_2 by omega), 1, rfl, WF, WF, WF, WC⟩
 ·refine Wk ?_
  exact ⟨WS, WG, WN, _, (show 5 - (2) < m_2 by omega), 2, rfl, WF, WF, WF, WC⟩
 ·refine Wk ?_
  exact ⟨WS, WG, WN, _, (show 5 - (3) < m_2 by omega), 3, rfl, WF, WF, WF, WC⟩
 ·refine Wk ?_
  exact ⟨WS, WG, WN, _, (show 5 - (4) < m_2 by omega), 4, rfl, WF, WF, WF, WC⟩
 ·refine Wk ?_
  exact ⟨WS, WG, WN, _, (show 5 - (5) < m_2 by omega), 5, rfl, WF, WF, WF, WC⟩
 ·exact W0
section
variable [W : W32]
theorem bCheck_spec (key : Tg) (b : List UInt8) (hb : b.length ≤ 90000) (g k : Nat) :
  ACall Tryd.prog 94 [tagAV key, .slice none (b.map byteAV)] k [(g, shaG)] (tagAV (hmacT key.1 ([98, 111, 120] ++ b))) [] := by
 have c1 := hmacOf_spec key.1 ([98, 111, 120] ++ b) (by rw [key.2]; decide) (by simp) (by simp; omega) g
 generalize hmacT key.1 ([98, 111, 120] ++ b) = T at *
 have h98 : byteAV 98 = .lit (.int .u8 98) := rfl
 have h111 : byteAV 111 = .lit (.int .u8 111) := rfl
 have h120 : byteAV 120 = .lit (.int .u8 120) := rfl
 have hs1 := tagAV_sz key
 have hs2 := tagAV_cell key
 obtain ⟨K, hK⟩ := key
 have hkA : tagAV ⟨K, hK⟩ = .agg (K.map byteAV) := rfl
 simp only [hkA] at hs1 hs2 c1 ⊢
 clear hkA
 have htk : (K.map byteAV).take 32 = K.map byteAV := List.take_of_length_le (by rw [List.length_map]; omega)
 refine Bd Tryd.func94 Tryd.ntmps94 fun σ N hp hpn hk hkn hfree => ?_
 have M : Mut (N + 2 + 1) := ⟨⟩
 obtain ⟨hd, hdn⟩ := HD0 hp hpn; clear hp hpn
 have hcs := And.intro c1 True.intro
 clear c1
 exact W0
omit W in
theorem bStream_spec (key : Tg) (nonce : List UInt8) (k : Nat) :
  ACall Tryd.prog 122 [tagAV key, .slice none (nonce.map byteAV)] k [] (.fn 135 [.view (.slice none (nonce.map byteAV)), .view (tagAV key)]) [] := by
 refine Bd Tryd.func122 Tryd.ntmps122 fun σ N hp hpn hk hkn hfree => ?_
 refine Wm ?_
 refine Wz ?_
 refine go_view 2 (id := N) (bt := 24) (x := tagAV key) (by simp (disch := omega) [go_sem, *, -List.reduceReplicate]) (by simp (disch := omega) [go_sem, *, -List.reduceReplicate]) ?_
 refine go_view 3 (id := N + 1) (bt := 55) (x := .slice none (nonce.map byteAV)) (by simp (disch := omega) [go_sem, *, -List.reduceReplicate]) (by simp (disch := omega) [go_sem, *, -List.reduceReplicate]) ?_
 exact W0
set_option maxHeartbeats 1000000 in
theorem bStream1_spec (key : Tg) (nn : Int) (R : Nat) (hR : R ≤ 1000000) (l Nt : Nat) (r r' : Loop) (s : Slots) (E : Ent) (Rw : Nat → Ent) (g x q j k : Nat) (h1 : g < q) (h2 : q < x) (h3 : x < j)
  (hE0 : E ≠ .none) (hR0 : Rw 0 ≠ .none) (hRr : ∀ u n0 kk, j < n0 → (Rw u).ren (rn n0 kk none) = Rw u) (hsr : ∀ n0 kk, j < n0 → (fun t => (s t).ren (rn n0 kk none)) = s)
  (hY : ∀ u, u < R → ∀ kk, AYield Tryd.prog l [.lit (.int .i64 ((u : Int) * 32)), tagAV (kst key.1 nn u)] kk [(j, .loop l Nt r s), (x, E), (q, Rw u)] (.lit (.bool true)) [(j, .loop l Nt r s), (q, Rw (u + 1))])
  (hZ : ∀ kk, AYield Tryd.prog l [.lit (.int .i64 ((R : Int) * 32)), tagAV (kst key.1 nn R)] kk [(j, .loop l Nt r s), (x, E), (q, Rw R)] (.lit (.bool false)) [(j, .loop l Nt r' s), (q, Rw R)]) :
  ACall Tryd.prog 135 [.lit (.func (.yield l) #[] #[]), .view (.slice none ((eightB nn).map byteAV)), .view (tagAV key)] k [(j, .loop l Nt r s), (x, E), (q, Rw 0), (g, shaG)] (.tup []) [(j, .loop l Nt r' s), (q, Rw R)] := by
 have h115 : byteAV 115 = .lit (.int .u8 115) := rfl
 have h116 : byteAV 116 = .lit (.int .u8 116) := rfl
 have h114 : byteAV 114 = .lit (.int .u8 114) := rfl
 have h101 : byteAV 101 = .lit (.int .u8 101) := rfl
 have h97 : byteAV 97 = .lit (.int .u8 97) := rfl
 have h109 : byteAV 109 = .lit (.int .u8 109) := rfl
 obtain ⟨E1, hE1⟩ : ∃ e, eightB nn = e := ⟨_, rfl⟩
 have hE1l : E1.length = 8 := by rw [← hE1]; rfl
 have hst : ∀ u : Nat, kst key.1 nn u = hmacT key.1 ([115, 116, 114, 101, 97, 109] ++ (E1 ++ eightB (u : Int))) := fun u => by rw [← hE1]; rfl
 rw [hE1]
 have hs1 := tagAV_sz key
 have hs2 := tagAV_cell key
 obtain ⟨K, hK⟩ := key
 have hkA : tagAV ⟨K, hK⟩ = .agg (K.map byteAV) := rfl
 simp only [hkA] at hs1 hs2 ⊢
 simp only at hY hZ hst
 clear hkA hE1
 have htk : (K.map byteAV).take 32 = K.map byteAV := List.take_of_length_le (by rw [List.length_map]; omega)
 refine Bd (hpre := by simp [hE0, hR0]) Tryd.func135 Tryd.ntmps135 fun σ N hp hpn hk hkn hfree => ?_
 simp only [List.mem_cons, List.not_mem_nil, or_false, forall_eq_or_imp, forall_eq] at hp hpn
 obtain ⟨hd1, hd2, hd3, hd4⟩ := hp
 obtain ⟨hn1, hn2, hn3, hn4⟩ := hpn
 refine Wk ?_
 refine go_loopB (N) mixed (by kernel_rfl) [4, 5, 6, 7, 8, 9, 10, 11, 12, 13, 14, 15, 16, 17, 18, 19, 20, 21, 22] [j, q] (fun m_ s_ σ_ n_ => ∃ (u : Nat), m_ = R + 1 - u ∧ s_ 4 = .lit (.int .i64 u) ∧ σ_ (j) = .loop l Nt r s ∧ σ_ (q) = Rw u ∧ (u ≤ R)) ⟨_, 0, rfl, WF, WF, WF, WC⟩ ?_
 intro m_3 s_3 σ_3 n_3 hs_3 hf_3 hn_3 hI_3
 obtain ⟨u, hm_3, h3_4, e3_0, e3_1, hu⟩ := hI_3
 have h3_0 := KS hs_3 0
 have h3_1 := KS hs_3 1
 have h3_2 := KS hs_3 2
 have k3_0 := KE hf_3 (x)
 have k3_1 := KE hf_3 (g)
 have hlow : ∀ id, id < N → id ≠ j → id ≠ q → σ_3 id = σ id := fun id hid hdd0 hdd1 => (hf_3.at id (by omega) (by simp [hdd0, hdd1]; try omega)).trans (by simp (disch := omega) only; try first | exact hlow id hid hdd0 hdd1 | exact hlow id hid)
 have c1 := bNumber_row (u : Int)
 have c2 := hmacOf_spec K ([115, 116, 114, 101, 97, 109] ++ (E1 ++ eightB (u : Int))) (by omega) (by simp) (by rw [List.length_append, List.length_append, hE1l, eightB_len]; decide) g
 rw [← hst u] at c2
 have hE2l := eightB_len (u : Int)
 generalize eightB (u : Int) = E2 at *
 clear hst
 have M : Mut n_3 := ⟨⟩
 by_cases huR : u = R
 ·subst huR
  have c3 := hZ
  generalize kst K nn u = T at *
  have hcs := And.intro c1 (And.intro c2 (And.intro c3 True.intro))
  clear c1 c2 c3 hY hZ
  refine Wk ?_
  refine go_resultW [(j, .loop l Nt r' s), (q, Rw u)] (by simp (disch := omega) [go_sem, *, -List.reduceReplicate]; rfl) rfl (fun id hid => ?_) (by simp) (by simp only [renF, List.map_cons, List.map_nil, hRr _ _ _ hn1]; rw [show Ent.ren (rn N k none) (.loop l Nt r' s) = .loop l Nt r' (fun t => (s t).ren (rn N k none)) from rfl, hsr _ _ hn1])
  simp only [wr_cons, wr_nil]
  by_cases i1 : id = j
  ·subst i1; simp (disch := omega) [go_sem, *]
  by_cases i2 : id = q
  ·subst i2; simp (disch := omega) [go_sem, *]
  simp (disch := omega) only [upd_ne]
  exact hlow id hid i1 i2
 ·have c3 := hY u (by omega)
  generalize kst K nn u = T at *
  have hcs := And.intro c1 (And.intro c2 (And.intro c3 True.intro))
  clear c1 c2 c3 hY hZ
  refine Wk ?_
  exact ⟨WS, WG, WN, _, (show R + 1 - (u + 1) < m_3 by omega), u + 1, rfl, WF, WF, WF, WC⟩
end

section
variable [W : W32]
theorem cry_at {key : Tg} {nn : Int} {b P : List UInt8} (hP : P.length = b.length) (hAt : ∀ i (hi : i < b.length), P[i]'(by omega) = x8 b[i] ((kst key.1 nn (i / 32)).1[i % 32]'(by rw [(kst key.1 nn (i / 32)).2]; omega))) {u : Nat} :
  ∀ i (hi : i < b.length), u * 32 ≤ i → i < u * 32 + 32 → ∃ y, (kst key.1 nn u).1[i - u * 32]? = some y ∧ P[i]? = some (x8 b[i] y) := fun i hi h1 h2 => by
 have hq : i / 32 = u := by omega
 have hr : i % 32 = i - u * 32 := by omega
 have h := hAt i hi
 simp only [hq, hr] at h
 exact ⟨_, List.getElem?_eq_getElem (by rw [(kst key.1 nn u).2]; omega), by rw [List.getElem?_eq_getElem (by omega), h]⟩
end
section
variable [W : W32]
def cryE (N L : Nat) : Ent := .box 55 (.ms (N + 2 + 1) 1 1 0 L)
def cryR (P b : List UInt8) (u : Nat) : Ent := .mrow 1 5 1 ((mixN P b (min b.length (u * 32))).map byteAV)
omit W in
theorem cryR_ren (P b : List UInt8) (u : Nat) (f : Nat → Option Nat) : (cryR P b u).ren f = cryR P b u := by
 simp only [cryR, ent_ren_mrow, renl_bytes]
omit W in
theorem cryE_ne (N L : Nat) : cryE N L ≠ .none := by simp [cryE]
omit W in
theorem cryR_ne (P b : List UInt8) (u : Nat) : cryR P b u ≠ .none := by simp [cryR]
def cryS (N f : Nat) (key : Tg) (E1 b : List UInt8) : Slots := upd (upd (upd (upd (upd (upd (upd (upd (initS [tagAV key, .slice none (E1.map byteAV), .slice none (b.map byteAV)]) 3 (.ptr N [] 0)) 6 .nils) 11 (.slice none (b.map byteAV))) 12 (.ms (N + 2 + (0 + 1)) 1 1 0 b.length)) 7 (.ptr (N + 2 + 2) [] 0)) 13 (tagAV key)) 14 (.slice none (E1.map byteAV))) 15 (.fn f [.view (.slice none (E1.map byteAV)), .view (tagAV key)])
omit W in
theorem cryS_ren (N f : Nat) (key : Tg) (E1 b : List UInt8) (n0 kk : Nat) (h : N + 9 < n0) : (fun t => (cryS N f key E1 b t).ren (rn n0 kk none)) = cryS N f key E1 b := by
 unfold cryS
 have r0 : rn n0 kk none N = some N := rn_lt (by omega)
 have r1 : rn n0 kk none (N + 2 + (0 + 1)) = some (N + 2 + (0 + 1)) := rn_lt (by omega)
 have r2 : rn n0 kk none (N + 2 + 2) = some (N + 2 + 2) := rn_lt (by omega)
 refine ren_upd _ _ (ren_upd _ _ (ren_upd _ _ (ren_upd _ _ (ren_upd _ _ (ren_upd _ _ (ren_upd _ _ (ren_upd _ _ (ren_init ?_) ?_) ?_) ?_) ?_) ?_) ?_) ?_) ?_
 ·simp only [AV.renl, AV.ren, renl_bytes, Option.bind_none, tagAV_ren]
 ·simp only [AV.ren, r0]
 ·rfl
 ·simp only [AV.ren, renl_bytes, Option.bind_none]
 ·simp only [AV.ren, r1]
 ·simp only [AV.ren, r2]
 ·simp only [tagAV_ren]
 ·simp only [AV.ren, renl_bytes, Option.bind_none]
 ·simp only [AV.ren, AV.renl, renl_bytes, Option.bind_none, tagAV_ren]
set_option maxHeartbeats 4000000 in
theorem bCrypt_spec (key : Tg) (nn : Int) (b : List UInt8) (hb : b.length ≤ 100000) (g k : Nat) :
  ACall Tryd.prog 93 [tagAV key, .slice none ((eightB nn).map byteAV), .slice none (b.map byteAV)] k [(g, shaG)] (.slice none ((strmB key.1 nn b).map byteAV)) [] := by
 have c1 := CloneM_spec b (by omega)
 have c2 := bStream_spec key (eightB nn)
 have hP := strmB_len key.1 nn b
 have hat := strmB_at key.1 nn b
 generalize hPP : strmB key.1 nn b = P at *
 have hAt : ∀ i (hi : i < b.length), P[i]'(by omega) = x8 b[i] ((kst key.1 nn (i / 32)).1[i % 32]'(by rw [(kst key.1 nn (i / 32)).2]; omega)) := fun i hi => hat i hi _ _
 clear hat hPP
 have hm0 : cryR P b 0 = .mrow 1 5 1 (b.map byteAV) := by simp [cryR, mixN_0]
 have hmR : cryR P b ((b.length + 31) / 32) = .mrow 1 5 1 (P.map byteAV) := by
  unfold cryR
  rw [Nat.min_eq_left (by omega), mixN_all hP]
 obtain ⟨R, hRd⟩ : ∃ R, (b.length + 31) / 32 = R := ⟨_, rfl⟩
 rw [hRd] at hmR
 refine Bd Tryd.func93 Tryd.ntmps93 fun σ N hp hpn hk hkn hfree => ?_
 obtain ⟨hd, hdn⟩ := HD0 hp hpn; clear hp hpn
 have hcs := And.intro c1 (And.intro c2 True.intro)
 clear c1 c2
 refine Wk ?_
 clear hcs
 change aw _ _ _ _ ⟨cryS N 135 key (eightB nn) b, _, _⟩
 refine go_rangeFunc (.exit 0) (f := 135) (caps := [.view (.slice none ((eightB nn).map byteAV)), .view (tagAV key)]) (pre := [(N + 2 + 2, cryE N b.length), (N + 2 + 1, cryR P b 0), (g, shaG)])
  (post := [(N + 2 + 1, cryR P b R)]) (res := .tup []) (by unfold cryS; simp (disch := omega) [go_sem, *, -List.reduceReplicate]) (by rw [hm0]; unfold cryE; intro p hp; simp at hp; rcases hp with rfl | rfl | rfl <;> (simp (disch := omega) [go_sem, *, -List.reduceReplicate])) (by simp; omega) (by simp) ?_ ?_
 ·intro l r hst hpe hps hA hB
  refine ⟨.done, by simp, ?_⟩
  refine bStream1_spec key nn R (by omega) l 47 r { r with state := .done, pending := jumpOf (.exit 0) } (cryS N 135 key (eightB nn) b) (cryE N b.length) (fun u => cryR P b u) g (N + 2 + 2) (N + 2 + 1) (N + 9 + 1) (N + 9 + 2) (by omega) (by omega) (by omega) (cryE_ne _ _) (cryR_ne _ _ _) (fun u n0 kk h => cryR_ren _ _ _ _) (fun n0 kk h => cryS_ren _ _ _ _ _ _ _ (by omega)) ?_ ?_
  ·intro u hu kk
   have hu32 : u * 32 < b.length := by omega
   have hyl := AYield.of_body (P := Tryd.prog) (l := l) (N := 47) (r := r) (s := cryS N 135 key (eightB nn) b) (j := N + 9 + 1) (k := kk) (args := [.lit (.int .i64 ((u : Int) * 32)), tagAV (kst key.1 nn u)]) (pre := [(N + 2 + 2, cryE N b.length), (N + 2 + 1, cryR P b u)]) (ws := [(N + 2 + 1, cryR P b (u + 1))]) (post := [(N + 2 + 1, cryR P b (u + 1))])
    .normal mixed hst (ps := [16, 17]) (by rw [hps]) hA hB rfl (by simp) (by kernel_rfl) (by kernel_rfl) (by kernel_rfl) (by kernel_rfl) (by simp [cryE_ne, cryR_ne]) (by simp) (by simp) (by simp) ?_
   ·rw [endRec_normal hst hpe] at hyl
    exact hyl
   ·clear hA hB hm0 hmR hd hdn hk hkn hfree
    obtain ⟨N0, hN0⟩ : ∃ N0, N0 = N := ⟨N, rfl⟩
    subst hN0
    intro σ N hp hpn hj hjn hk hkn hfree
    simp only [List.mem_cons, List.not_mem_nil, or_false, forall_eq_or_imp, forall_eq] at hp hpn
    obtain ⟨e1, e2⟩ := hp
    obtain ⟨n1, n2⟩ := hpn
    refine ⟨by simp only [renF, List.map_cons, List.map_nil, cryR_ren], ?_⟩
    have hT := cry_at hP hAt (u := u)
    have hTl := (kst key.1 nn u).2
    generalize kst key.1 nn u = T at *
    obtain ⟨T, hT32⟩ := T
    simp only at hT hTl
    have hTA : tagAV ⟨T, hT32⟩ = .agg (T.map byteAV) := rfl
    have hs1 := tagAV_sz ⟨T, hT32⟩
    have hs2 := tagAV_cell ⟨T, hT32⟩
    rw [hTA] at hs1 hs2 ⊢
    clear hTA hAt
    have ha : (u : Int) * 32 = ((u * 32 : Nat) : Int) := by omega
    rw [ha]
    clear ha
    unfold cryE cryR at *
    rw [Nat.min_eq_right (Nat.le_of_lt hu32)] at e2
    obtain ⟨e, he⟩ : ∃ e, min b.length ((u + 1) * 32) = e := ⟨_, rfl⟩
    rw [he]
    have he1 : u * 32 ≤ e := by omega
    have he2 : e ≤ b.length := by omega
    have he3 : e ≤ u * 32 + 32 := by omega
    have he4 : e < b.length → e = u * 32 + 32 := by omega
    clear he
    generalize u * 32 = a at *
    have hage : ¬ ((b.length : Int) ≤ (a : Int)) := by omega
    unfold cryS sputs sputs sputs at *
    refine Wk ?_
    refine ⟨rfl, by simp (disch := omega) [go_sem, *, -List.reduceReplicate], ?_⟩
    refine Wk ?_
    obtain ⟨C0, hC0⟩ : ∃ c, mixN P b a = c := ⟨_, rfl⟩
    rw [hC0] at e2
    refine go_loopB (N + 3) mixed (by kernel_rfl) [10, 23, 24, 25, 26, 27, 28, 29, 30, 31, 32, 33, 34, 35, 36, 37, 38, 39, 40, 41, 42, 43, 44, 45] [N0 + 2 + 1] (fun m_ s_ σ_ n_ => ∃ (i : Nat) (cur : List UInt8), m_ = e - i ∧ s_ 10 = .lit (.int .i64 i) ∧ σ_ (N0 + 2 + 1) = .mrow 1 5 1 (cur.map byteAV) ∧ (a ≤ i) ∧ (i ≤ e) ∧ (mixN P b i = cur)) ⟨_, a, C0, rfl, WF, WF, WC, WC, WC⟩ ?_
    intro m_1 s_1 σ_1 n_1 hs_1 hf_1 hn_1 hI_1
    obtain ⟨i, cur, hm_1, h1_10, e1_0, hi1, hi2, hc⟩ := hI_1
    have h1_6 := KS hs_1 6
    have h1_7 := KS hs_1 7
    have h1_8 := KS hs_1 8
    have h1_9 := KS hs_1 9
    have k1_0 := KE hf_1 (N0 + 2 + 2)
    have k1_1 := KE hf_1 (N0 + 9 + 1)
    have k1_2 := KE hf_1 (N + 1 + 0)
    have hlow : ∀ id, id < N → id ≠ N0 + 2 + 1 → id ≠ N0 + 9 + 1 → σ_1 id = σ id := fun id hid hdd0 hdd1 => (hf_1.at id (by omega) (by simp [hdd0]; try omega)).trans (by simp (disch := omega) only [upd_ne]; try first | exact hlow id hid hdd0 hdd1 | exact hlow id hid)
    by_cases hie : i = e
    ·subst hie
     rw [hc]
     have hend : (i : Int) < (b.length : Int) → ¬ ((i : Int) < (a : Int) + 32) := fun h => by have := he4 (by omega); omega
     by_cases hib : i = b.length
     ·have hib1 : ¬ ((i : Int) < (b.length : Int)) := by omega
      clear hT hend
      refine Wk ?_
      refine ⟨rfl, fun id hid => ?_⟩
      simp only [wr_cons, wr_nil]
      by_cases i1 : id = N0 + 2 + 1
      ·subst i1; simp (disch := omega) [go_sem, *]
      by_cases i2 : id = N0 + 9 + 1
      ·subst i2; simp (disch := omega) [go_sem, *]
      simp (disch := omega) only [upd_ne]
      exact hlow id hid i1 i2
     ·have hib1 : ((i : Int) < (b.length : Int)) := by omega
      have hib2 := hend hib1
      clear hT hend
      refine Wk ?_
      refine ⟨rfl, fun id hid => ?_⟩
      simp only [wr_cons, wr_nil]
      by_cases i1 : id = N0 + 2 + 1
      ·subst i1; simp (disch := omega) [go_sem, *]
      by_cases i2 : id = N0 + 9 + 1
      ·subst i2; simp (disch := omega) [go_sem, *]
      simp (disch := omega) only [upd_ne]
      exact hlow id hid i1 i2
    ·have hil : i < b.length := by omega
     have hib1 : ((i : Int) < (b.length : Int)) := by omega
     have hib2 : ((i : Int) < (a : Int) + 32) := by omega
     obtain ⟨y, hy, hPy⟩ := hT i hil hi1 (by omega)
     have hcl := mixN_len hP i (by omega)
     have ha0 := mixN_at hP i hil
     have hset0 := mixN_set hP i (by omega)
     rw [hc] at hcl ha0 hset0
     have hPi : P[i]'(by omega) = x8 b[i] y := by
      rw [List.getElem?_eq_getElem (by omega)] at hPy
      exact Option.some.inj hPy
     rw [hPi] at hset0
     obtain ⟨z, hz⟩ : ∃ z, b[i] = z := ⟨_, rfl⟩
     rw [List.getElem?_eq_getElem hil, hz] at ha0
     rw [hz] at hset0
     have hset := set_bytes cur i (x8 z y)
     rw [hset0] at hset
     have hx := x8_eq z y
     generalize x8 z y = v at *
     have hyb : byteAV y = .lit (.int .u8 y.toNat) := rfl
     have hzb : byteAV z = .lit (.int .u8 z.toNat) := rfl
     have hvb : byteAV v = .lit (.int .u8 v.toNat) := rfl
     rw [hvb] at hset
     generalize hc' : mixN P b (i + 1) = cn at *
     have hic : i < cur.length := by omega
     have hci : cur[i] = z := by rw [List.getElem?_eq_getElem hic] at ha0; exact Option.some.inj ha0
     obtain ⟨dd, hdd⟩ : ∃ dd : Nat, i - a = dd := ⟨_, rfl⟩
     rw [hdd] at hy
     have hsub : (i : Int) - (a : Int) = (dd : Int) := by omega
     have hdd32 : dd < 32 := by omega
     have hyT : T[dd]'(by omega) = y := by rw [List.getElem?_eq_getElem (by omega)] at hy; exact Option.some.inj hy
     clear hy ha0
     clear hT hPi hPy hdd hset0 hz hc
     refine Wk ?_
     exact ⟨WS, WG, WN, _, (show e - (i + 1) < m_1 by omega), i + 1, cn, rfl, WF, WF, WC, WC, WC⟩
  ·intro kk
   have hR32 : b.length ≤ R * 32 := by omega
   have hyl := AYield.of_body (P := Tryd.prog) (l := l) (N := 47) (r := r) (s := cryS N 135 key (eightB nn) b) (j := N + 9 + 1) (k := kk) (args := [.lit (.int .i64 ((R : Int) * 32)), tagAV (kst key.1 nn R)]) (pre := [(N + 2 + 2, cryE N b.length), (N + 2 + 1, cryR P b R)]) (ws := [(N + 2 + 1, cryR P b R)]) (post := [(N + 2 + 1, cryR P b R)])
    (.exit 0) mixed hst (ps := [16, 17]) (by rw [hps]) hA hB rfl (by simp) (by kernel_rfl) (by kernel_rfl) (by kernel_rfl) (by kernel_rfl) (by simp [cryE_ne, cryR_ne]) (by simp) (by simp) (by simp) ?_
   ·exact hyl
   ·clear hA hB hm0 hmR hd hdn hk hkn hfree
    obtain ⟨N0, hN0⟩ : ∃ N0, N0 = N := ⟨N, rfl⟩
    subst hN0
    intro σ N hp hpn hj hjn hk hkn hfree
    simp only [List.mem_cons, List.not_mem_nil, or_false, forall_eq_or_imp, forall_eq] at hp hpn
    obtain ⟨e1, e2⟩ := hp
    obtain ⟨n1, n2⟩ := hpn
    refine ⟨by simp only [renF, List.map_cons, List.map_nil, cryR_ren], ?_⟩
    generalize kst key.1 nn R = T at *
    have ha : (R : Int) * 32 = ((R * 32 : Nat) : Int) := by omega
    rw [ha]
    clear ha
    unfold cryE cryR at *
    rw [Nat.min_eq_left hR32] at e2 ⊢
    generalize R * 32 = a at *
    have hage : (b.length : Int) ≤ (a : Int) := by omega
    unfold cryS sputs sputs sputs at *
    refine Wk ?_
    refine ⟨rfl, by simp (disch := omega) [go_sem, *, -List.reduceReplicate], ?_⟩
    refine Wk ?_
    refine ⟨rfl, fun id hid => ?_⟩
    simp only [wr_cons, wr_nil]
    by_cases i1 : id = N0 + 2 + 1
    ·subst i1; simp (disch := omega) [go_sem, *]
    by_cases i2 : id = N0 + 9 + 1
    ·subst i2; simp (disch := omega) [go_sem, *]
    simp (disch := omega) only [upd_ne]
 ·intro l r
  rw [hmR]
  unfold cryS
  apply go_blk_here
  apply go_then
  refine go_freezeIn (N + 2 + 2) [] (r := N + 2 + 1) (ver := 1) (size := 1) (e := 5) (bt := 55) (c := .ms (N + 2 + 1) 1 1 0 b.length) (xs := P.map byteAV) (k := b.length) (by simp (disch := omega) [go_sem, *, -List.reduceReplicate]) (by simp (disch := omega) [go_sem, *, -List.reduceReplicate]) rfl (by rw [List.length_map, hP]) ?_
  exact WM
end

section
variable [W : W32]
theorem hDerive_spec (seed : Tg) (n : Nat) (hn : n ≤ 1000000000) (g k : Nat) :
  ACall Tryd.prog 89 [tagAV seed, .lit (.string ⟨#[102, 114, 101, 115, 104]⟩), .lit (.int .i64 n)] k [(g, shaG)] (.tup [tagAV (derT seed n), .lit (.int .i64 0)]) [] := by
 have c1 := label_fresh
 have e7 := sh8_wrap (n : Int) 56
 have e6 := sh8_wrap (n : Int) 48
 have e5 := sh8_wrap (n : Int) 40
 have e4 := sh8_wrap (n : Int) 32
 have e3 := sh8_wrap (n : Int) 24
 have e2 := sh8_wrap (n : Int) 16
 have e1 := sh8_wrap (n : Int) 8
 have e0 := sh8_wrap (n : Int) 0
 simp only [Int.reducePow, Int.pow_zero, Int.fdiv_one] at e7 e6 e5 e4 e3 e2 e1 e0
 unfold derT
 have c2 := hmacOf_spec seed.1 ([102, 114, 101, 115, 104, 0] ++ eightB n) (by rw [seed.2]; decide) (by simp) (by simp [eightB]) g
 generalize hmacT seed.1 ([102, 114, 101, 115, 104, 0] ++ eightB n) = T at *
 have h0n : (0 : Int) ≤ (n : Int) := by omega
 have hnn : ¬ ((n : Int) < 0) := by omega
 have hnm : ¬ ((281474976710656 : Int) < (n : Int)) := by omega
 unfold eightB at c2
 generalize sh8 (n : Int) 56 = b7 at *
 generalize sh8 (n : Int) 48 = b6 at *
 generalize sh8 (n : Int) 40 = b5 at *
 generalize sh8 (n : Int) 32 = b4 at *
 generalize sh8 (n : Int) 24 = b3 at *
 generalize sh8 (n : Int) 16 = b2 at *
 generalize sh8 (n : Int) 8 = b1 at *
 generalize sh8 (n : Int) 0 = b0 at *
 have hs1 := tagAV_sz seed
 have hs2 := tagAV_cell seed
 obtain ⟨S, hS⟩ := seed
 have hkA : tagAV ⟨S, hS⟩ = .agg (S.map byteAV) := rfl
 simp only [hkA] at hs1 hs2 c2 ⊢
 clear hkA
 have htk : (S.map byteAV).take 32 = S.map byteAV := List.take_of_length_le (by rw [List.length_map]; omega)
 have h102 : byteAV 102 = .lit (.int .u8 102) := rfl
 have h114 : byteAV 114 = .lit (.int .u8 114) := rfl
 have h101 : byteAV 101 = .lit (.int .u8 101) := rfl
 have h115 : byteAV 115 = .lit (.int .u8 115) := rfl
 have h104 : byteAV 104 = .lit (.int .u8 104) := rfl
 have hz0 : byteAV 0 = .lit (.int .u8 0) := rfl
 have hb7 : byteAV b7 = .lit (.int .u8 b7.toNat) := rfl
 have hb6 : byteAV b6 = .lit (.int .u8 b6.toNat) := rfl
 have hb5 : byteAV b5 = .lit (.int .u8 b5.toNat) := rfl
 have hb4 : byteAV b4 = .lit (.int .u8 b4.toNat) := rfl
 have hb3 : byteAV b3 = .lit (.int .u8 b3.toNat) := rfl
 have hb2 : byteAV b2 = .lit (.int .u8 b2.toNat) := rfl
 have hb1 : byteAV b1 = .lit (.int .u8 b1.toNat) := rfl
 have hb0 : byteAV b0 = .lit (.int .u8 b0.toNat) := rfl
 refine Bd Tryd.func89 Tryd.ntmps89 fun σ N hp hpn hk hkn hfree => ?_
 obtain ⟨hd, hdn⟩ := HD0 hp hpn; clear hp hpn
 have hcs := And.intro c1 (And.intro c2 True.intro)
 clear c1 c2
 refine Wk ?_
 refine go_loopB (N + 2) mixed (by kernel_rfl) [8, 9, 25, 26, 27, 28, 29, 30, 31, 32, 33, 34, 35] [] (fun m_ s_ σ_ n_ => ∃ (u : Nat) (q : Nat) (acc : List UInt8), m_ = 8 - u ∧ s_ 9 = .lit (.int .i64 (56 - 8 * (u : Int))) ∧ s_ 8 = .slice (some q) (acc.map byteAV) ∧ σ_ (N) = .box 24 (.agg (S.map byteAV)) ∧ σ_ (N+1) = .box 24 (tagAV zeroTag) ∧ σ_ (q) = .row 5 1 acc.length ∧ (u ≤ 8) ∧ (N + 2 ≤ q) ∧ (q < n_) ∧ (acc = [102, 114, 101, 115, 104, 0] ++ [b7, b6, b5, b4, b3, b2, b1, b0].take u)) ⟨_, 0, _, [102, 114, 101, 115, 104, 0], rfl, WF, WF, WF, WF, WF, WC, WC, WC, WC⟩ ?_
 intro m_1 s_1 σ_1 n_1 hs_1 hf_1 hn_1 hI_1
 obtain ⟨u, q, acc, hm_1, h1_9, h1_8, e1_0, e1_1, e1_2, hu, hq, hqn, hacc⟩ := hI_1
 have h1_2 := KS hs_1 2
 have h1_3 := KS hs_1 3
 have h1_6 := KS hs_1 6
 have h1_7 := KS hs_1 7
 have k1_0 := KE hf_1 (g)
 have hlow := KL (N := N) (σ := σ) hf_1
 have hcase : u = 0 ∨ u = 1 ∨ u = 2 ∨ u = 3 ∨ u = 4 ∨ u = 5 ∨ u = 6 ∨ u = 7 ∨ u = 8 := by omega
 rcases hcase with rfl | hcase
 ·simp only [List.take_zero, List.append_nil] at hacc
  subst hacc
  refine Wk ?_
  exact ⟨WS, WG, WN, _, (show 8 - (1) < m_1 by omega), 1, q, [102, 114, 101, 115, 104, 0, b7], rfl, WF, WF, WF, WF, WF, WC, WC, WC, WC⟩
 rcases hcase with rfl | hcase
 ·simp only [List.take_succ_cons, List.take_zero, List.cons_append, List.nil_append] at hacc
  subst hacc
  refine Wk ?_
  exact ⟨WS, WG, WN, _, (show 8 - (2) < m_1 by omega), 2, q, [102, 114, 101, 115, 104, 0, b7, b6], rfl, WF, WF, WF, WF, WF, WC, WC, WC, WC⟩
 rcases hcase with rfl | hcase
 ·simp only [List.take_succ_cons, List.take_zero, List.cons_append, List.nil_append] at hacc
  subst hacc
  refine Wk ?_
  exact ⟨WS, WG, WN, _, (show 8 - (3) < m_1 by omega), 3, q, [102, 114, 101, 115, 104, 0, b7, b6, b5], rfl, WF, WF, WF, WF, WF, WC, WC, WC, WC⟩
 rcases hcase with rfl | hcase
 ·simp only [List.take_succ_cons, List.take_zero, List.cons_append, List.nil_append] at hacc
  subst hacc
  refine Wk ?_
  exact ⟨WS, WG, WN, _, (show 8 - (4) < m_1 by omega), 4, q, [102, 114, 101, 115, 104, 0, b7, b6, b5, b4], rfl, WF, WF, WF, WF, WF, WC, WC, WC, WC⟩
 rcases hcase with rfl | hcase
 ·simp only [List.take_succ_cons, List.take_zero, List.cons_append, List.nil_append] at hacc
  subst hacc
  refine Wk ?_
  exact ⟨WS, WG, WN, _, (show 8 - (5) < m_1 by omega), 5, q, [102, 114, 101, 115, 104, 0, b7, b6, b5, b4, b3], rfl, WF, WF, WF, WF, WF, WC, WC, WC, WC⟩
 rcases hcase with rfl | hcase
 ·simp only [List.take_succ_cons, List.take_zero, List.cons_append, List.nil_append] at hacc
  subst hacc
  refine Wk ?_
  exact ⟨WS, WG, WN, _, (show 8 - (6) < m_1 by omega), 6, q, [102, 114, 101, 115, 104, 0, b7, b6, b5, b4, b3, b2], rfl, WF, WF, WF, WF, WF, WC, WC, WC, WC⟩
 rcases hcase with rfl | hcase
 ·simp only [List.take_succ_cons, List.take_zero, List.cons_append, List.nil_append] at hacc
  subst hacc
  refine Wk ?_
  exact ⟨WS, WG, WN, _, (show 8 - (7) < m_1 by omega), 7, q, [102, 114, 101, 115, 104, 0, b7, b6, b5, b4, b3, b2, b1], rfl, WF, WF, WF, WF, WF, WC, WC, WC, WC⟩
 rcases hcase with rfl | hcase
 ·simp only [List.take_succ_cons, List.take_zero, List.cons_append, List.nil_append] at hacc
  subst hacc
  refine Wk ?_
  exact ⟨WS, WG, WN, _, (show 8 - (8) < m_1 by omega), 8, q, [102, 114, 101, 115, 104, 0, b7, b6, b5, b4, b3, b2, b1, b0], rfl, WF, WF, WF, WF, WF, WC, WC, WC, WC⟩
 subst hcase
 simp only [List.take_succ_cons, List.take_zero, List.cons_append, List.nil_append] at hacc
 subst hacc
 replace hcs := hcs.2
 exact W0
def mKey (a : Alg) (e : Nat) : Alg × Nat × Tg :=
 if e ≠ 0 then (a, e, zeroTag) else if (keyS a).2.2 = 0 then ((keyS a).1, 0, (keyS a).2.1) else (a, (keyS a).2.2, zeroTag)
end
def bI (key : Tg) (nonce : Int) (plain : List UInt8) : List BoxE → Nat → Int
 | [], _ => -1
 | e :: r, u => if e.key = key ∧ e.nonce = nonce ∧ e.plain = plain then u else bI key nonce plain r (u + 1)
theorem bI_none {key : Tg} {nonce : Int} {plain : List UInt8} : ∀ (L : List BoxE) (u : Nat), boxL key nonce plain L = none → bI key nonce plain L u = -1
 | [], _, _ => rfl
 | e :: r, u, h => by
  rw [boxL] at h
  split at h
  ·cases h
  ·rename_i hn
   rw [bI, if_neg hn]
   exact bI_none r _ h
theorem bI_some {key : Tg} {nonce : Int} {plain t : List UInt8} : ∀ (L : List BoxE) (u : Nat), boxL key nonce plain L = some t → ∃ (i : Nat) (h : i < L.length), bI key nonce plain L u = ((u + i : Nat) : Int) ∧ (L[i]).box = t
 | [], _, h => by cases h
 | e :: r, u, h => by
  rw [boxL] at h
  split at h
  ·rename_i hc
   injection h with h
   exact ⟨0, by simp, by rw [bI, if_pos hc, Nat.add_zero], h⟩
  ·rename_i hn
   obtain ⟨i, hi, h1, h2⟩ := bI_some r (u + 1) h
   exact ⟨i + 1, by simp; omega, by rw [bI, if_neg hn, h1]; congr 1; omega, h2⟩
theorem box1_spec (e : BoxE) (key : Tg) (nonce : Int) (plain : List UInt8) (he : e.plain.length ≤ 100000) (hm : plain.length ≤ 1000000) (k : Nat) :
  ACall Tryd.prog 121 [sealAV e, .view (tagAV key), .view (.lit (.int .i64 nonce)), .view (.slice none (plain.map byteAV))] k [] (.lit (.bool (decide (e.key = key ∧ e.nonce = nonce ∧ e.plain = plain)))) [] := by
 obtain ⟨zk, zn, zp, zb⟩ := e
 simp only at he ⊢
 have c1 := Equal_spec zp plain (by omega) (by omega)
 have hzd : sealAV ⟨zk, zn, zp, zb⟩ = .agg [tagAV zk, .lit (.int .i64 zn), bAV zp, bAV zb] := rfl
 have hzb := bAV_def zp
 by_cases h1 : zk = key
 ·have d1 : decide (zk = key) = true := decide_eq_true h1
  by_cases h3 : zn = nonce
  ·have d3 : decide (zn = nonce) = true := decide_eq_true h3
   have d3' : (zn == nonce) = true := by simp [h3]
   by_cases h2 : zp = plain
   ·have d2 : decide (zp = plain) = true := decide_eq_true h2
    rw [decide_eq_true (show zk = key ∧ zn = nonce ∧ zp = plain from ⟨h1, h3, h2⟩)]
    rw [d2] at c1
    refine Bd Tryd.func121 Tryd.ntmps121 fun σ N hp hpn hk hkn hfree => ?_
    have hcs := And.intro c1 True.intro
    clear c1 h1 h2 d2 h3
    exact W0
   ·have d2 : decide (zp = plain) = false := decide_eq_false h2
    rw [decide_eq_false (show ¬ (zk = key ∧ zn = nonce ∧ zp = plain) from fun h => h2 h.2.2)]
    rw [d2] at c1
    refine Bd Tryd.func121 Tryd.ntmps121 fun σ N hp hpn hk hkn hfree => ?_
    have hcs := And.intro c1 True.intro
    clear c1 h1 h2 d2 h3
    exact W0
  ·have d3 : decide (zn = nonce) = false := decide_eq_false h3
   have d3' : (zn == nonce) = false := by simp [h3]
   rw [decide_eq_false (show ¬ (zk = key ∧ zn = nonce ∧ zp = plain) from fun h => h3 h.2.1)]
   refine Bd Tryd.func121 Tryd.ntmps121 fun σ N hp hpn hk hkn hfree => ?_
   clear c1 h1 h3
   exact W0
 ·have d1 : decide (zk = key) = false := decide_eq_false h1
  rw [decide_eq_false (show ¬ (zk = key ∧ zn = nonce ∧ zp = plain) from fun h => h1 h.1)]
  refine Bd Tryd.func121 Tryd.ntmps121 fun σ N hp hpn hk hkn hfree => ?_
  clear c1 h1
  exact W0
theorem IndexB_spec (L : List BoxE) (key : Tg) (nonce : Int) (plain : List UInt8) (hl : L.length ≤ 1000000) (hm : ∀ e ∈ L, e.plain.length ≤ 100000 ∧ e.box.length ≤ 100000) (hp0 : plain.length ≤ 1000000) (k : Nat) :
  ACall Tryd.prog 120 [.slice none (L.map sealAV), .fn 121 [.view (tagAV key), .view (.lit (.int .i64 nonce)), .view (.slice none (plain.map byteAV))]] k [] (.lit (.int .i64 (bI key nonce plain L 0))) [] := by
 obtain ⟨R, hR⟩ : ∃ R, bI key nonce plain L 0 = R := ⟨_, rfl⟩
 rw [hR]
 have hdr : L.drop 0 = L := rfl
 refine Bd Tryd.func120 Tryd.ntmps120 fun σ N hp hpn hk hkn hfree => ?_
 refine Wk ?_
 refine go_loopF mixed (by kernel_rfl) [4, 5, 8, 9, 10, 11, 12, 13, 14, 15, 16, 17, 18] [] (fun m_ s_ σ_ n_ => ∃ (u : Nat), m_ = L.length - u ∧ s_ 8 = .lit (.int .i64 u) ∧ (u ≤ L.length) ∧ (bI key nonce plain (L.drop u) u = R)) ⟨_, 0, rfl, WF, WC, WC⟩ ?_
 intro m_2 s_2 σ_2 n_2 hs_2 hf_2 hn_2 hI_2
 obtain ⟨u, hm_2, h2_8, hu, hno⟩ := hI_2
 have h2_0 := KS hs_2 0
 have h2_1 := KS hs_2 1
 have h2_7 := KS hs_2 7
 have hlow := KL (N := N) (σ := σ) hf_2
 clear hR hdr
 by_cases hul : u = L.length
 ·subst hul
  rw [List.drop_length] at hno
  simp only [bI] at hno
  subst hno
  clear hm
  exact W0
 ·have hu1 : u < L.length := by omega
  rw [List.drop_eq_getElem_cons hu1, bI] at hno
  have hmz := (hm _ (List.getElem_mem hu1)).1
  obtain ⟨z, hz⟩ : ∃ z, L[u] = z := ⟨_, rfl⟩
  rw [hz] at hno hmz
  have c1 := box1_spec z key nonce plain hmz hp0
  by_cases hc : z.key = key ∧ z.nonce = nonce ∧ z.plain = plain
  ·rw [if_pos hc] at hno
   subst hno
   rw [decide_eq_true hc] at c1
   have hcs := And.intro c1 True.intro
   clear c1 hm hc hmz
   exact W0
  ·rw [if_neg hc] at hno
   rw [decide_eq_false hc] at c1
   have hcs := And.intro c1 True.intro
   clear c1 hm hc hmz
   refine Wk ?_
   exact ⟨WS, WG, WN, _, (show L.length - (u + 1) < m_2 by omega), u + 1, rfl, WF, WC, WC⟩
section
variable [W : W32]
theorem bInto1_spec (key : Tg) (nn : Int) (plain : List UInt8) (hp0 : plain.length ≤ 10000) (g k : Nat) :
  ACall Tryd.prog 91 [.view (.lit (.int .i64 nn)), .view (tagAV key), .view (.slice none (plain.map byteAV))] k [(g, shaG)] (.slice none ((sealB key.1 nn plain).map byteAV)) [] := by
 have c1 := bNumber_row nn
 have c2 := bCrypt_spec key nn plain (by omega) g
 have hE := eightB_len nn
 have hS := strmB_len key.1 nn plain
 have c3 := bCheck_spec key (eightB nn ++ strmB key.1 nn plain) (by rw [List.length_append, hE, hS]; omega) g
 unfold sealB
 generalize hmacT key.1 ([98, 111, 120] ++ (eightB nn ++ strmB key.1 nn plain)) = T at *
 generalize eightB nn = E at *
 generalize strmB key.1 nn plain = S at *
 have hbm : E.map byteAV ++ S.map byteAV = (E ++ S).map byteAV := by rw [List.map_append]
 have hbl : E.length + S.length = (E ++ S).length := by rw [List.length_append]
 have hbs : (E ++ S).length ≤ 20000 := by rw [List.length_append]; omega
 generalize E ++ S = b0 at *
 have ht1 := tagAV_sz T
 have ht2 := tagAV_cell T
 obtain ⟨T, hT⟩ := T
 have htA : tagAV ⟨T, hT⟩ = .agg (T.map byteAV) := rfl
 simp only [htA] at c3 ht1 ht2 ⊢
 clear htA
 have htk2 : (T.map byteAV).take 32 = T.map byteAV := List.take_of_length_le (by rw [List.length_map]; omega)
 have hbbm : b0.map byteAV ++ T.map byteAV = (b0 ++ T).map byteAV := by rw [List.map_append]
 generalize b0 ++ T = bb at *
 refine Bd Tryd.func91 Tryd.ntmps91 fun σ N hp hpn hk hkn hfree => ?_
 obtain ⟨hd, hdn⟩ := HD0 hp hpn; clear hp hpn
 have hcs := And.intro c1 (And.intro c2 (And.intro c3 True.intro))
 clear c1 c2 c3
 exact WM
end

theorem RV2 {P : Program} {rs : List ResultVar} {k : Nat} {σ0 : Nat → Ent} {n0 : Nat} {pre post : Foot} {r r0 : AV} {c : Cfg} (d1 : Nat) (E1 : Ent) (d2 : Nat) (E2 : Ent) (h1 : aresults P c rs = some r0 := by simp (disch := omega) [go_sem, *, -List.reduceReplicate]; rfl) (hle : AV.le r0 r := by first | exact AV.le_refl _ | ((first | apply AV.le_slices | apply AV.le_nilsE | apply AV.le_clipE); first | rfl | (simp (disch := omega) [go_sem, *, -List.reduceReplicate]; done)) | (apply AV.sub_tup; repeat' first | exact ALe.nil | exact AV.le_refl _ | apply ALe.cons | ((first | apply AV.le_slices | apply AV.le_nilsE | apply AV.le_clipE); first | rfl | (simp (disch := omega) [go_sem, *, -List.reduceReplicate]; done)))) (h2 : r.ren (rn n0 k none) = r := by first | rfl | (simp (disch := omega) [go_sem]; done) | (simp (disch := omega) [go_sem, *]; done) | simp (disch := omega) [go_sem])
  (ha : c.σ d1 = E1 := by simp (disch := omega) [go_sem, *]) (hb : c.σ d2 = E2 := by simp (disch := omega) [go_sem, *]) (h3 : ∀ id, id < n0 → id ≠ d1 → id ≠ d2 → c.σ id = σ0 id := by intro id hid hdd hdd2; simp (disch := omega) only [upd_ne, wr_cons, wr_nil]; try (first | exact hlow id hid hdd hdd2 | exact hlow id hid)) (h4 : ∃ p ∈ pre, p.1 = d1 := by simp) (h6 : ∃ p ∈ pre, p.1 = d2 := by simp) (h5 : renF (rn n0 k none) [(d1, E1), (d2, E2)] = post := by simp (disch := omega) [go_sem, *]) : aRet P rs k σ0 n0 pre r post .ret c :=
 go_resultWI [(d1, E1), (d2, E2)] h1 hle h2 (fun id hid => by
  rw [wr_cons, wr_cons, wr_nil]
  by_cases hdd : id = d2
  ·subst hdd; rw [upd_same, hb]
  ·rw [upd_ne _ _ _ _ hdd]
   by_cases hde : id = d1
   ·subst hde; rw [upd_same, ha]
   ·rw [upd_ne _ _ _ _ hde]; exact h3 id hid hde hdd) (fun q hq => by
  simp only [List.mem_cons, List.not_mem_nil, or_false] at hq
  rcases hq with rfl | rfl
  ·exact h4
  ·exact h6) h5
section
variable [W : W32]
set_option maxHeartbeats 2000000 in
theorem mKey_spec (a : Alg) (e : Nat) (h0 : 0 ≤ a.fresh) (hlm : a.fresh ≤ 1000000) (d r1 r2 g k : Nat) :
  ACall Tryd.prog 56 [.ptr d [] 0] k (makE a e d r1 r2 ++ [(g, shaG)]) (tagAV (mKey a e).2.2) [(d, makB (mKey a e).1 (mKey a e).2.1 r1 r2)] := by
 obtain ⟨fr, sd, fs, L, B⟩ := a
 simp only at h0 hlm
 obtain ⟨n, rfl⟩ := Int.eq_ofNat_of_zero_le h0
 unfold makE
 simp only [List.cons_append, List.nil_append]
 have c1 := Fail_spec ⟨fr, sd, (n : Int), L, B⟩ e 2
 unfold makE at c1
 have e02 : ((2 : Nat) : Int) = 2 := rfl
 by_cases he0 : e = 0
 ·subst he0
  rw [if_pos rfl] at c1
  by_cases h1 : (65536 : Int) ≤ (n : Int)
  ·have hm : mKey ⟨fr, sd, (n : Int), L, B⟩ 0 = (⟨fr, sd, (n : Int), L, B⟩, 2, zeroTag) := by unfold mKey keyS; rw [if_pos h1]; rfl
   rw [hm]
   simp only [makAV_eq, rowM_eq, rowB_eq, e02] at *
   refine Bd Tryd.func56 Tryd.ntmps56 fun σ N hp hpn hk hkn hfree => ?_
   simp only [List.mem_cons, List.not_mem_nil, or_false, forall_eq_or_imp, forall_eq] at hp hpn; obtain ⟨hd1, hd2, hd3, hd4⟩ := hp; obtain ⟨hdn1, hdn2, hdn3, hdn4⟩ := hpn
   have hcs := And.intro (c1 d r1 r2) True.intro
   clear c1 hm
   refine Wk ?_
   exact RW (d) ((.box 140 (.agg [.agg [.lit (.bool fr), tagAV sd, .lit (.int .i64 n), .slice (some r1) (L.map macAV), .slice (some r2) (B.map sealAV)], .lit (.int .i64 2)])))
  ·have hm : mKey ⟨fr, sd, (n : Int), L, B⟩ 0 = (⟨fr, sd, (n : Int) + 1, L, B⟩, 0, if fr then symT 107 ((n : Int) + 1) else derT sd ((n : Int) + 1)) := by unfold mKey keyS; rw [if_neg h1]; rfl
   rw [hm]
   have hn1 : (n : Int) + 1 = ((n + 1 : Nat) : Int) := by omega
   cases fr with
   | true =>
    have c2 := pSymbol_spec 107 (n + 1) (by omega)
    have e107 : ((107 : UInt8).toNat : Int) = 107 := rfl
    rw [e107, ← hn1] at c2
    simp only [if_true]
    generalize symT 107 ((n : Int) + 1) = T at *
    clear c1 hm hn1 e107
    simp only [makAV_eq, rowM_eq, rowB_eq] at *
    refine Bd Tryd.func56 Tryd.ntmps56 fun σ N hp hpn hk hkn hfree => ?_
    simp only [List.mem_cons, List.not_mem_nil, or_false, forall_eq_or_imp, forall_eq] at hp hpn; obtain ⟨hd1, hd2, hd3, hd4⟩ := hp; obtain ⟨hdn1, hdn2, hdn3, hdn4⟩ := hpn
    have hcs := And.intro c2 True.intro
    clear c2
    refine Wk ?_
    exact RW (d) ((.box 140 (.agg [.agg [.lit (.bool true), tagAV sd, .lit (.int .i64 ((n : Int) + 1)), .slice (some r1) (L.map macAV), .slice (some r2) (B.map sealAV)], .lit (.int .i64 0)])))
   | false =>
    have c2 := hDerive_spec sd (n + 1) (by omega) g
    have cf := Fail_spec ⟨false, sd, (n : Int) + 1, L, B⟩ 0 0
    rw [if_pos rfl] at cf
    unfold makE at cf
    rw [← hn1] at c2
    simp only [Bool.false_eq_true, if_false]
    generalize derT sd ((n : Int) + 1) = T at *
    have e00 : ((0 : Nat) : Int) = 0 := rfl
    clear c1 hm hn1
    simp only [makAV_eq, rowM_eq, rowB_eq, e00] at *
    refine Bd Tryd.func56 Tryd.ntmps56 fun σ N hp hpn hk hkn hfree => ?_
    simp only [List.mem_cons, List.not_mem_nil, or_false, forall_eq_or_imp, forall_eq] at hp hpn; obtain ⟨hd1, hd2, hd3, hd4⟩ := hp; obtain ⟨hdn1, hdn2, hdn3, hdn4⟩ := hpn
    have hne : d ≠ r1 := by rintro rfl; rw [hd1] at hd2; cases hd2
    have hne3 : d ≠ r2 := by rintro rfl; rw [hd1] at hd3; cases hd3
    have hneg : g ≠ d := by rintro rfl; rw [hd4] at hd1; exact shaG_nbox hd1
    have hcs := And.intro c2 (And.intro (cf d r1 r2) True.intro)
    clear c2 cf
    refine Wk ?_
    exact RW (d) ((.box 140 (.agg [.agg [.lit (.bool false), tagAV sd, .lit (.int .i64 ((n : Int) + 1)), .slice (some r1) (L.map macAV), .slice (some r2) (B.map sealAV)], .lit (.int .i64 0)])))
 ·have hm : mKey ⟨fr, sd, (n : Int), L, B⟩ e = (⟨fr, sd, (n : Int), L, B⟩, e, zeroTag) := by unfold mKey; rw [if_pos he0]
  rw [hm]
  rw [if_neg he0] at c1
  have hei : ((e : Int) != 0) = true := by simp; omega
  by_cases h1 : (65536 : Int) ≤ (n : Int)
  ·simp only [makAV_eq, rowM_eq, rowB_eq] at *
   refine Bd Tryd.func56 Tryd.ntmps56 fun σ N hp hpn hk hkn hfree => ?_
   simp only [List.mem_cons, List.not_mem_nil, or_false, forall_eq_or_imp, forall_eq] at hp hpn; obtain ⟨hd1, hd2, hd3, hd4⟩ := hp; obtain ⟨hdn1, hdn2, hdn3, hdn4⟩ := hpn
   have hcs := And.intro (c1 d r1 r2) True.intro
   clear c1 hm
   refine Wk ?_
   exact RW (d) ((.box 140 (.agg [.agg [.lit (.bool fr), tagAV sd, .lit (.int .i64 n), .slice (some r1) (L.map macAV), .slice (some r2) (B.map sealAV)], .lit (.int .i64 e)])))
  ·simp only [makAV_eq, rowM_eq, rowB_eq] at *
   refine Bd Tryd.func56 Tryd.ntmps56 fun σ N hp hpn hk hkn hfree => ?_
   simp only [List.mem_cons, List.not_mem_nil, or_false, forall_eq_or_imp, forall_eq] at hp hpn; obtain ⟨hd1, hd2, hd3, hd4⟩ := hp; obtain ⟨hdn1, hdn2, hdn3, hdn4⟩ := hpn
   clear c1 hm
   refine Wk ?_
   exact RW (d) ((.box 140 (.agg [.agg [.lit (.bool fr), tagAV sd, .lit (.int .i64 n), .slice (some r1) (L.map macAV), .slice (some r2) (B.map sealAV)], .lit (.int .i64 e)])))
def mBox (a : Alg) (e : Nat) (key : Tg) (nn : Int) (plain : List UInt8) : Alg × Nat × List UInt8 :=
 if e ≠ 0 then (a, e, []) else match boxL key nn plain a.boxes with
  | some b => (a, 0, b)
  | none => if 65536 ≤ a.boxes.length then (a, 2, []) else ({ a with boxes := a.boxes ++ [⟨key, nn, plain, sealN a key nn plain⟩] }, 0, sealN a key nn plain)
set_option maxHeartbeats 4000000 in
theorem mBox_spec (a : Alg) (e : Nat) (key : Tg) (nn : Int) (plain : List UInt8) (hl : a.boxes.length ≤ 1000000) (hm : ∀ x ∈ a.boxes, x.plain.length ≤ 100000 ∧ x.box.length ≤ 100000) (hp0 : plain.length ≤ 10000) (d r1 r2 g k : Nat) :
  ACall Tryd.prog 90 [.ptr d [] 0, tagAV key, .lit (.int .i64 nn), .slice none (plain.map byteAV), .fn 91 [.view (.lit (.int .i64 nn)), .view (tagAV key), .view (.slice none (plain.map byteAV))]] k (makE a e d r1 r2 ++ [(g, shaG)])
   (.slice none ((mBox a e key nn plain).2.2.map byteAV)) [(d, makB (mBox a e key nn plain).1 (mBox a e key nn plain).2.1 r1 r2), (r2, rowB (mBox a e key nn plain).1.boxes.length)] := by
 obtain ⟨fr, sd, fs, L, B⟩ := a
 simp only at hl hm
 unfold makE
 simp only [List.cons_append, List.nil_append]
 by_cases he0 : e = 0
 ·subst he0
  have c2 := IndexB_spec B key nn plain hl hm (by omega)
  cases he : boxL key nn plain B with
  | some t =>
   have hmb : mBox ⟨fr, sd, fs, L, B⟩ 0 key nn plain = (⟨fr, sd, fs, L, B⟩, 0, t) := by unfold mBox; simp only [he]; rfl
   rw [hmb]
   obtain ⟨i, hi, hfi, hti⟩ := bI_some B 0 he
   rw [hfi, Nat.zero_add] at c2
   have hbt : t.length ≤ 100000 := by rw [← hti]; exact (hm _ (List.getElem_mem hi)).2
   obtain ⟨z, hz⟩ : ∃ z, B[i] = z := ⟨_, rfl⟩
   rw [hz] at hti
   have hzm : (B.map sealAV)[i]? = some (sealAV z) := by rw [List.getElem?_map, List.getElem?_eq_getElem hi, hz]; rfl
   obtain ⟨zk, zn, zp, zb⟩ := z
   simp only at hti
   subst hti
   have hzd : sealAV ⟨zk, zn, zp, zb⟩ = .agg [tagAV zk, .lit (.int .i64 zn), bAV zp, bAV zb] := rfl
   have hzb := bAV_def zb
   have c3 := Clone_spec zb (by omega)
   simp only [makAV_eq, rowM_eq, rowB_eq] at *
   refine Bd Tryd.func90 Tryd.ntmps90 fun σ N hp hpn hk hkn hfree => ?_
   simp only [List.mem_cons, List.not_mem_nil, or_false, forall_eq_or_imp, forall_eq] at hp hpn; obtain ⟨hd1, hd2, hd3, hd4⟩ := hp; obtain ⟨hdn1, hdn2, hdn3, hdn4⟩ := hpn
   have hne : d ≠ r1 := by rintro rfl; rw [hd1] at hd2; cases hd2
   have hne3 : d ≠ r2 := by rintro rfl; rw [hd1] at hd3; cases hd3
   have hneg : g ≠ d := by rintro rfl; rw [hd4] at hd1; exact shaG_nbox hd1
   have hneg1 : g ≠ r2 := by rintro rfl; rw [hd4] at hd3; exact shaG_nrow hd3
   refine Wm ?_
   refine Wz ?_
   refine go_view 6 (id := N) (bt := 24) (x := tagAV key) (by simp (disch := omega) [go_sem, *, -List.reduceReplicate]) (by simp (disch := omega) [go_sem, *, -List.reduceReplicate]) ?_
   refine go_view 7 (id := N + 1) (bt := 3) (x := .lit (.int .i64 nn)) (by simp (disch := omega) [go_sem, *, -List.reduceReplicate]) (by simp (disch := omega) [go_sem, *, -List.reduceReplicate]) ?_
   refine go_view 8 (id := N + 2) (bt := 55) (x := .slice none (plain.map byteAV)) (by simp (disch := omega) [go_sem, *, -List.reduceReplicate]) (by simp (disch := omega) [go_sem, *, -List.reduceReplicate]) ?_
   have hcs := And.intro c2 (And.intro c3 True.intro)
   clear c2 c3 hm he hfi hmb
   refine Wk ?_
   exact RV2 (d) ((.box 140 (.agg [.agg [.lit (.bool fr), tagAV sd, .lit (.int .i64 fs), .slice (some r1) (L.map macAV), .slice (some r2) (B.map sealAV)], .lit (.int .i64 0)]))) (r2) ((.row 105 35 B.length))
  | none =>
   rw [bI_none B 0 he] at c2
   have c3 := pSymbol_spec 98 (B.length + 1) (by omega)
   have e98 : ((98 : UInt8).toNat : Int) = 98 := rfl
   have hn1 : ((B.length + 1 : Nat) : Int) = (B.length : Int) + 1 := by omega
   rw [e98, hn1] at c3
   by_cases hf : 65536 ≤ B.length
   ·have hmb : mBox ⟨fr, sd, fs, L, B⟩ 0 key nn plain = (⟨fr, sd, fs, L, B⟩, 2, []) := by unfold mBox; simp only [he, if_pos hf]; rfl
    rw [hmb]
    have hfi : (65536 : Int) < (B.length : Int) + 1 := by omega
    have c1 := Fail_spec ⟨fr, sd, fs, L, B⟩ 0 2
    rw [if_pos rfl] at c1
    unfold makE at c1
    have e02 : ((2 : Nat) : Int) = 2 := rfl
    clear c3 e98 hn1
    simp only [makAV_eq, rowM_eq, rowB_eq, e02] at *
    refine Bd Tryd.func90 Tryd.ntmps90 fun σ N hp hpn hk hkn hfree => ?_
    simp only [List.mem_cons, List.not_mem_nil, or_false, forall_eq_or_imp, forall_eq] at hp hpn; obtain ⟨hd1, hd2, hd3, hd4⟩ := hp; obtain ⟨hdn1, hdn2, hdn3, hdn4⟩ := hpn
    have hne : d ≠ r1 := by rintro rfl; rw [hd1] at hd2; cases hd2
    have hne3 : d ≠ r2 := by rintro rfl; rw [hd1] at hd3; cases hd3
    have hneg : g ≠ d := by rintro rfl; rw [hd4] at hd1; exact shaG_nbox hd1
    have hneg1 : g ≠ r2 := by rintro rfl; rw [hd4] at hd3; exact shaG_nrow hd3
    refine Wm ?_
    refine Wz ?_
    refine go_view 6 (id := N) (bt := 24) (x := tagAV key) (by simp (disch := omega) [go_sem, *, -List.reduceReplicate]) (by simp (disch := omega) [go_sem, *, -List.reduceReplicate]) ?_
    refine go_view 7 (id := N + 1) (bt := 3) (x := .lit (.int .i64 nn)) (by simp (disch := omega) [go_sem, *, -List.reduceReplicate]) (by simp (disch := omega) [go_sem, *, -List.reduceReplicate]) ?_
    refine go_view 8 (id := N + 2) (bt := 55) (x := .slice none (plain.map byteAV)) (by simp (disch := omega) [go_sem, *, -List.reduceReplicate]) (by simp (disch := omega) [go_sem, *, -List.reduceReplicate]) ?_
    have hcs := And.intro c2 (And.intro (c1 d r1 r2) True.intro)
    clear c1 c2 hm he hmb
    refine Wk ?_
    exact RV2 (d) ((.box 140 (.agg [.agg [.lit (.bool fr), tagAV sd, .lit (.int .i64 fs), .slice (some r1) (L.map macAV), .slice (some r2) (B.map sealAV)], .lit (.int .i64 2)]))) (r2) ((.row 105 35 B.length))
   ·have hfi : ¬ (65536 : Int) < (B.length : Int) + 1 := by omega
    have hb : (B.length + 1) * 88 ≤ 140737488355328 := by omega
    have hb0 : B.length * 88 ≤ 140737488355328 := by omega
    have hb1 : B.length ≤ 140737488355327 := by omega
    have hsl := sealN_len ⟨fr, sd, fs, L, B⟩ key nn plain
    obtain ⟨bb, hbb⟩ : ∃ bb, sealN ⟨fr, sd, fs, L, B⟩ key nn plain = bb := ⟨_, rfl⟩
    have hmb : mBox ⟨fr, sd, fs, L, B⟩ 0 key nn plain = (⟨fr, sd, fs, L, B ++ [⟨key, nn, plain, bb⟩]⟩, 0, bb) := by unfold mBox; simp only [he, if_neg hf, hbb]; rfl
    rw [hbb] at hsl
    rw [hmb]
    have hL2 : (B ++ [(⟨key, nn, plain, bb⟩ : BoxE)]).map sealAV = B.map sealAV ++ [.agg [tagAV key, .lit (.int .i64 nn), .slice none (plain.map byteAV), .slice none (bb.map byteAV)]] := by rw [List.map_append]; rfl
    have hL3 : (B ++ [(⟨key, nn, plain, bb⟩ : BoxE)]).length = B.length + 1 := by simp
    have c4 := bInto1_spec key nn plain (by omega) g
    have c5 := Clone_spec plain (by omega)
    have c6 := Clone_spec bb (by omega)
    have hbbT : fr = true → bb = (symT 98 ((B.length : Int) + 1)).1 ++ List.replicate (plain.length + 8) 0 := fun h => by subst h; rw [← hbb]; rfl
    have hbbF : fr = false → bb = sealB key.1 nn plain := fun h => by subst h; rw [← hbb]; rfl
    clear hbb
    generalize symT 98 ((B.length : Int) + 1) = T at *
    have ht1 := tagAV_sz T
    have ht2 := tagAV_cell T
    obtain ⟨pz, hpz⟩ : ∃ pz, T.1 ++ List.replicate (plain.length + 8) 0 = pz := ⟨_, rfl⟩
    have hpzm : T.1.map byteAV ++ List.replicate ((plain.length : Int) + 8).toNat (AV.lit (.int .u8 0)) = pz.map byteAV := by
     rw [← hpz, List.map_append, List.map_replicate, show ((plain.length : Int) + 8).toNat = plain.length + 8 by omega]; rfl
    have hpzl : 32 + ((plain.length : Int) + 8).toNat = pz.length := by rw [← hpz, List.length_append, List.length_replicate, T.2]; omega
    have hpz2 : pz.length ≤ 20000 := by omega
    cases fr with
    | true =>
     have hbz : bb = pz := (hbbT rfl).trans hpz
     subst hbz
     clear hbbT hbbF hpz
     obtain ⟨T, hT⟩ := T
     have htA : tagAV ⟨T, hT⟩ = .agg (T.map byteAV) := rfl
     simp only [htA] at c3 ht1 ht2 hpzm
     clear htA
     simp only [makAV_eq, rowM_eq, rowB_eq, hL2, hL3] at *
     refine Bd Tryd.func90 Tryd.ntmps90 fun σ N hp hpn hk hkn hfree => ?_
     simp only [List.mem_cons, List.not_mem_nil, or_false, forall_eq_or_imp, forall_eq] at hp hpn; obtain ⟨hd1, hd2, hd3, hd4⟩ := hp; obtain ⟨hdn1, hdn2, hdn3, hdn4⟩ := hpn
     have hne : d ≠ r1 := by rintro rfl; rw [hd1] at hd2; cases hd2
     have hne3 : d ≠ r2 := by rintro rfl; rw [hd1] at hd3; cases hd3
     have hneg : g ≠ d := by rintro rfl; rw [hd4] at hd1; exact shaG_nbox hd1
     have hneg1 : g ≠ r2 := by rintro rfl; rw [hd4] at hd3; exact shaG_nrow hd3
     refine Wm ?_
     refine Wz ?_
     refine go_view 6 (id := N) (bt := 24) (x := tagAV key) (by simp (disch := omega) [go_sem, *, -List.reduceReplicate]) (by simp (disch := omega) [go_sem, *, -List.reduceReplicate]) ?_
     refine go_view 7 (id := N + 1) (bt := 3) (x := .lit (.int .i64 nn)) (by simp (disch := omega) [go_sem, *, -List.reduceReplicate]) (by simp (disch := omega) [go_sem, *, -List.reduceReplicate]) ?_
     refine go_view 8 (id := N + 2) (bt := 55) (x := .slice none (plain.map byteAV)) (by simp (disch := omega) [go_sem, *, -List.reduceReplicate]) (by simp (disch := omega) [go_sem, *, -List.reduceReplicate]) ?_
     have hcs := And.intro c2 (And.intro c3 True.intro)
     iterate 6 refine Wz ?_
     clear hcs
     (apply go_region; · (simp only [List.length_cons, List.length_nil, Nat.reduceAdd, Nat.add_assoc]; rfl))
     refine go_sliceWhole (id := N + 29 + 2) (path := []) (off := 0) (bt := 24) (c := .agg (T.map byteAV)) (ys := T.map byteAV) (by simp (disch := omega) [go_sem, *, -List.reduceReplicate]) (by simp (disch := omega) [go_sem, *, -List.reduceReplicate]) pa24 rfl rfl (by rw [List.length_map]; exact hT) (bytes_all1 T) (by unfold maxLen; omega) ?_
     refine Wm ?_
     refine go_appendzC (xs := T.map byteAV) (q := (plain.length : Int) + 8) (by simp (disch := omega) [go_sem, *, -List.reduceReplicate]) si55 it3 rfl (by simp) (by simp (disch := omega) [go_sem, *, -List.reduceReplicate]; try rfl) (by omega) (bytes_all1 T) (by rw [List.length_map, hT, hpzl]; omega) (by rw [List.length_map, hT, hpzl]; omega) ?_
     rw [hpzm, List.length_map, hT, hpzl]
     have hcs := And.intro c5 (And.intro c6 True.intro)
     clear c2 c3 c4 c5 c6 hm he hmb hL2 hL3 hpzm
     refine Wk ?_
     exact RV2 (d) ((.box 140 (.agg [.agg [.lit (.bool true), tagAV sd, .lit (.int .i64 fs), .slice (some r1) (L.map macAV), .slice (some r2) (B.map sealAV ++ [.agg [tagAV key, .lit (.int .i64 nn), .slice none (plain.map byteAV), .slice none (bb.map byteAV)]])], .lit (.int .i64 0)]))) (r2) ((.row 105 35 (B.length + 1)))
    | false =>
     rw [← hbbF rfl] at c4
     clear hbbT hbbF hpz
     obtain ⟨T, hT⟩ := T
     have htA : tagAV ⟨T, hT⟩ = .agg (T.map byteAV) := rfl
     simp only [htA] at c3 ht1 ht2 hpzm
     clear htA
     simp only [makAV_eq, rowM_eq, rowB_eq, hL2, hL3] at *
     refine Bd Tryd.func90 Tryd.ntmps90 fun σ N hp hpn hk hkn hfree => ?_
     simp only [List.mem_cons, List.not_mem_nil, or_false, forall_eq_or_imp, forall_eq] at hp hpn; obtain ⟨hd1, hd2, hd3, hd4⟩ := hp; obtain ⟨hdn1, hdn2, hdn3, hdn4⟩ := hpn
     have hne : d ≠ r1 := by rintro rfl; rw [hd1] at hd2; cases hd2
     have hne3 : d ≠ r2 := by rintro rfl; rw [hd1] at hd3; cases hd3
     have hneg : g ≠ d := by rintro rfl; rw [hd4] at hd1; exact shaG_nbox hd1
     have hneg1 : g ≠ r2 := by rintro rfl; rw [hd4] at hd3; exact shaG_nrow hd3
     refine Wm ?_
     refine Wz ?_
     refine go_view 6 (id := N) (bt := 24) (x := tagAV key) (by simp (disch := omega) [go_sem, *, -List.reduceReplicate]) (by simp (disch := omega) [go_sem, *, -List.reduceReplicate]) ?_
     refine go_view 7 (id := N + 1) (bt := 3) (x := .lit (.int .i64 nn)) (by simp (disch := omega) [go_sem, *, -List.reduceReplicate]) (by simp (disch := omega) [go_sem, *, -List.reduceReplicate]) ?_
     refine go_view 8 (id := N + 2) (bt := 55) (x := .slice none (plain.map byteAV)) (by simp (disch := omega) [go_sem, *, -List.reduceReplicate]) (by simp (disch := omega) [go_sem, *, -List.reduceReplicate]) ?_
     have hcs := And.intro c2 (And.intro c3 True.intro)
     iterate 6 refine Wz ?_
     clear hcs
     (apply go_region; · (simp only [List.length_cons, List.length_nil, Nat.reduceAdd, Nat.add_assoc]; rfl))
     refine go_sliceWhole (id := N + 29 + 2) (path := []) (off := 0) (bt := 24) (c := .agg (T.map byteAV)) (ys := T.map byteAV) (by simp (disch := omega) [go_sem, *, -List.reduceReplicate]) (by simp (disch := omega) [go_sem, *, -List.reduceReplicate]) pa24 rfl rfl (by rw [List.length_map]; exact hT) (bytes_all1 T) (by unfold maxLen; omega) ?_
     refine Wm ?_
     refine go_appendzC (xs := T.map byteAV) (q := (plain.length : Int) + 8) (by simp (disch := omega) [go_sem, *, -List.reduceReplicate]) si55 it3 rfl (by simp) (by simp (disch := omega) [go_sem, *, -List.reduceReplicate]; try rfl) (by omega) (bytes_all1 T) (by rw [List.length_map, hT, hpzl]; omega) (by rw [List.length_map, hT, hpzl]; omega) ?_
     rw [hpzm, List.length_map, hT, hpzl]
     have hcs := And.intro (c4) (And.intro c5 (And.intro c6 True.intro))
     clear c2 c3 c4 c5 c6 hm he hmb hL2 hL3 hpzm
     refine Wk ?_
     exact RV2 (d) ((.box 140 (.agg [.agg [.lit (.bool false), tagAV sd, .lit (.int .i64 fs), .slice (some r1) (L.map macAV), .slice (some r2) (B.map sealAV ++ [.agg [tagAV key, .lit (.int .i64 nn), .slice none (plain.map byteAV), .slice none (bb.map byteAV)]])], .lit (.int .i64 0)]))) (r2) ((.row 105 35 (B.length + 1)))
 ·have hmb : mBox ⟨fr, sd, fs, L, B⟩ e key nn plain = (⟨fr, sd, fs, L, B⟩, e, []) := by unfold mBox; rw [if_pos he0]
  rw [hmb]
  have hei : ((e : Int) != 0) = true := by simp; omega
  simp only [makAV_eq, rowM_eq, rowB_eq] at *
  refine Bd Tryd.func90 Tryd.ntmps90 fun σ N hp hpn hk hkn hfree => ?_
  simp only [List.mem_cons, List.not_mem_nil, or_false, forall_eq_or_imp, forall_eq] at hp hpn; obtain ⟨hd1, hd2, hd3, hd4⟩ := hp; obtain ⟨hdn1, hdn2, hdn3, hdn4⟩ := hpn
  have hne : d ≠ r1 := by rintro rfl; rw [hd1] at hd2; cases hd2
  have hne3 : d ≠ r2 := by rintro rfl; rw [hd1] at hd3; cases hd3
  have hneg : g ≠ d := by rintro rfl; rw [hd4] at hd1; exact shaG_nbox hd1
  have hneg1 : g ≠ r2 := by rintro rfl; rw [hd4] at hd3; exact shaG_nrow hd3
  clear hm hmb
  refine Wk ?_
  exact RV2 (d) ((.box 140 (.agg [.agg [.lit (.bool fr), tagAV sd, .lit (.int .i64 fs), .slice (some r1) (L.map macAV), .slice (some r2) (B.map sealAV)], .lit (.int .i64 e)]))) (r2) ((.row 105 35 B.length))
end

def tagR (b : List UInt8) (u : Nat) : Tg × Nat × Nat := if h : u + 32 ≤ b.length then (⟨(b.drop u).take 32, by rw [List.length_take, List.length_drop]; omega⟩, u + 32, 0) else (zeroTag, u, 3)
theorem tagR_ok {b : List UInt8} {u : Nat} (h : u + 32 ≤ b.length) : tagR b u = (⟨(b.drop u).take 32, by rw [List.length_take, List.length_drop]; omega⟩, u + 32, 0) := by unfold tagR; rw [dif_pos h]
theorem tagR_bad {b : List UInt8} {u : Nat} (h : ¬ u + 32 ≤ b.length) : tagR b u = (zeroTag, u, 3) := by unfold tagR; rw [dif_neg h]
theorem tagR_used {b : List UInt8} {u : Nat} (h : (tagR b u).2.2 = 0) : (tagR b u).2.1 = u + 32 := by
 by_cases h' : u + 32 ≤ b.length
 ·rw [tagR_ok h']
 ·rw [tagR_bad h'] at h; cases h
theorem tagR_len {b : List UInt8} {u : Nat} (h : (tagR b u).2.2 = 0) : u + 32 ≤ b.length := by
 by_cases h' : u + 32 ≤ b.length
 ·exact h'
 ·rw [tagR_bad h'] at h; cases h
theorem RBytes32_short (b : List UInt8) (u : Nat) (hu : u ≤ b.length) (hs : b.length - u < 32) (_hb : b.length ≤ 1000000) (d k : Nat) :
  ACall Tryd.prog 102 [.ptr d [] 0, .lit (.int .i64 32)] k [(d, RdBox b u 0)] (.slice none (List.replicate 32 (.lit (.int .u8 0)))) [(d, RdBox b u 3)] := by
 have hs' : (b.length : Int) - (u : Int) < 32 := by omega
 simp only [RdBox]
 refine Bd Tryd.func102 Tryd.ntmps102 fun σ N hp hpn hk hkn hfree => ?_
 obtain ⟨hd, hdn⟩ := HD0 hp hpn; clear hp hpn
 refine Wk ?_
 exact RV (d) (.box 125 (.agg [.slice none (b.map byteAV), .lit (.int .i64 (u : Int)), .lit (.int .i64 3)]))
theorem RBytes32_spec (b : List UInt8) (u : Nat) (hs : u + 32 ≤ b.length) (hb : b.length ≤ 1000000) (d k : Nat) :
  ACall Tryd.prog 102 [.ptr d [] 0, .lit (.int .i64 32)] k [(d, RdBox b u 0)] (.slice none (((b.drop u).take 32).map byteAV)) [(d, RdBox b (u + 32) 0)] := by
 have hs' : ¬ (b.length : Int) - (u : Int) < 32 := by omega
 have hsl := take_drop_bytes b u 32
 have hu8 : ((u : Int) + 32).toNat = u + 32 := by omega
 generalize (b.drop u).take 32 = L at *
 simp only [RdBox]
 refine Bd Tryd.func102 Tryd.ntmps102 fun σ N hp hpn hk hkn hfree => ?_
 obtain ⟨hd, hdn⟩ := HD0 hp hpn; clear hp hpn
 refine Wk ?_
 exact RV (d) (.box 125 (.agg [.slice none (b.map byteAV), .lit (.int .i64 ((u : Int) + 32)), .lit (.int .i64 0)]))
theorem RTag_ok (b : List UInt8) (u : Nat) (h : u + 32 ≤ b.length) (hb : b.length ≤ 1000000) (d k : Nat) :
  ACall Tryd.prog 68 [.ptr d [] 0] k [(d, RdBox b u 0)] (tagAV (tagR b u).1) [(d, RdBox b (u + 32) 0)] := by
 have c1 := RBytes32_spec b u h hb
 have hkA : tagAV (tagR b u).1 = .agg (((b.drop u).take 32).map byteAV) := by rw [tagR_ok h]; rfl
 rw [hkA]
 clear hkA
 have hl : ((b.drop u).take 32).length = 32 := by rw [List.length_take, List.length_drop]; omega
 generalize (b.drop u).take 32 = L at *
 have htk : (L.map byteAV).take 32 = L.map byteAV := List.take_of_length_le (by rw [List.length_map]; omega)
 have hz0 : (zeroTag.val.map byteAV).drop 32 = [] := rfl
 have hs1 : (AV.agg (L.map byteAV)).sz = 32 := by simp only [AV.sz, szl_bytes]; exact hl
 have hs2 : (AV.agg (L.map byteAV)).cell = true := celll_bytes L
 simp only [RdBox] at *
 refine Bd Tryd.func68 Tryd.ntmps68 fun σ N hp hpn hk hkn hfree => ?_
 obtain ⟨hd, hdn⟩ := HD0 hp hpn; clear hp hpn
 have M : Mut (N + 2) := ⟨⟩
 have hcs := And.intro (c1 d) True.intro
 clear c1
 refine Wk ?_
 exact RW (d) (.box 125 (.agg [.slice none (b.map byteAV), .lit (.int .i64 ((u : Int) + 32)), .lit (.int .i64 0)]))
theorem RTag_zero (b : List UInt8) (u e e' : Nat) (d k : Nat)
  (c1 : ∀ k, ACall Tryd.prog 102 [.ptr d [] 0, .lit (.int .i64 32)] k [(d, RdBox b u e)] (.slice none (List.replicate 32 (.lit (.int .u8 0)))) [(d, RdBox b u e')]) :
  ACall Tryd.prog 68 [.ptr d [] 0] k [(d, RdBox b u e)] (tagAV zeroTag) [(d, RdBox b u e')] := by
 have hz : List.replicate 32 (AV.lit (.int .u8 0)) = zeroTag.1.map byteAV := rfl
 rw [hz] at c1
 obtain ⟨L, hL⟩ : ∃ L, zeroTag.1 = L := ⟨_, rfl⟩
 have hl : L.length = 32 := by rw [← hL]; exact zeroTag.2
 have hkA : tagAV zeroTag = .agg (L.map byteAV) := by rw [← hL]; rfl
 rw [hkA]
 rw [hL] at c1
 have htk : (L.map byteAV).take 32 = L.map byteAV := List.take_of_length_le (by rw [List.length_map]; omega)
 have hz0 : (L.map byteAV).drop 32 = [] := List.drop_eq_nil_of_le (by rw [List.length_map]; omega)
 have hs1 : (AV.agg (L.map byteAV)).sz = 32 := by simp only [AV.sz, szl_bytes]; exact hl
 have hs2 : (AV.agg (L.map byteAV)).cell = true := celll_bytes L
 clear hz
 simp only [RdBox] at *
 refine Bd Tryd.func68 Tryd.ntmps68 fun σ N hp hpn hk hkn hfree => ?_
 obtain ⟨hd, hdn⟩ := HD0 hp hpn; clear hp hpn
 have M : Mut (N + 2) := ⟨⟩
 have hcs := And.intro c1 True.intro
 clear c1
 refine Wk ?_
 exact RW (d) (.box 125 (.agg [.slice none (b.map byteAV), .lit (.int .i64 (u : Int)), .lit (.int .i64 (e' : Int))]))
theorem RTag_spec (b : List UInt8) (u : Nat) (hu : u ≤ b.length) (hb : b.length ≤ 1000000) (d k : Nat) :
  ACall Tryd.prog 68 [.ptr d [] 0] k [(d, RdBox b u 0)] (tagAV (tagR b u).1) [(d, RdBox b (tagR b u).2.1 (tagR b u).2.2)] := by
 by_cases h : u + 32 ≤ b.length
 ·have := RTag_ok b u h hb d k
  rw [tagR_ok h] at this ⊢
  exact this
 ·rw [tagR_bad h]
  exact RTag_zero b u 0 3 d k fun k => RBytes32_short b u hu (by omega) hb d k
section
variable [W : W32]
theorem openS_len (a : Alg) (m : Nat) (ha : AlgIn a m) (key : Tg) (b : List UInt8) (hb : b.length ≤ 100000) : (openS a key b).1.length ≤ 100000 := by
 unfold openS
 split
 ·split
  ·rename_i p hp
   obtain ⟨e, he, _, _, h3⟩ := openL_some hp
   rw [← h3]; exact (ha.bm e he).1
  ·simp
 ·split
  ·simp
  ·split
   ·simp only [strmB_len, List.length_drop, List.length_take]; omega
   ·simp
def soAV (r : List UInt8 × Nat) : AV := .tup [.slice none (r.1.map byteAV), .lit (.int .i64 (r.2 : Nat))]
set_option maxHeartbeats 1000000 in
theorem refOpen_free (sd : Tg) (fs : Int) (L : List MacE) (B : List BoxE) (key : Tg) (b : List UInt8) (hl : B.length ≤ 1000000) (hm : ∀ e ∈ B, e.plain.length ≤ 100000 ∧ e.box.length ≤ 100000) (hb : b.length ≤ 100000) (k : Nat) :
  ACall Tryd.prog 67 [algAV ⟨true, sd, fs, L, B⟩, tagAV key, .slice none (b.map byteAV)] k [] (soAV (openS ⟨true, sd, fs, L, B⟩ key b)) [] := by
 unfold openS
 rw [if_pos rfl]
 simp only
 generalize hR : openL key b B = R
 refine Bd Tryd.func67 Tryd.ntmps67 fun σ N hp hpn hk hkn hfree => ?_
 have haA : algAV ⟨true, sd, fs, L, B⟩ = .agg [.lit (.bool true), tagAV sd, .lit (.int .i64 fs), .slice none (L.map macAV), .slice none (B.map sealAV)] := rfl
 refine Wk ?_
 refine go_loopF mixed (by kernel_rfl) [6, 7, 8, 15, 16, 17, 18, 19, 20, 21, 22, 23, 24, 25, 26, 27, 28, 29, 30, 31, 32, 33, 34, 35, 36, 37, 38, 39, 40, 41, 42, 43, 44, 45, 46, 47] [N, N+1] (fun m_ s_ σ_ n_ => ∃ (u : Nat), m_ = B.length - u ∧ s_ 8 = .lit (.int .i64 u) ∧ σ_ (N) = .box 30 (.agg [.lit (.bool true), tagAV sd, .lit (.int .i64 fs), .slice none (L.map macAV), .slice none (B.map sealAV)]) ∧ σ_ (N+1) = .box 24 (tagAV key) ∧ (u ≤ B.length) ∧ (openL key b (B.drop u) = R)) ⟨_, 0, rfl, WF, WF, WF, WC, WC⟩ ?_
 intro m_1 s_1 σ_1 n_1 hs_1 hf_1 hn_1 hI_1
 obtain ⟨u, hm_1, h1_8, e1_0, e1_1, hu, hd⟩ := hI_1
 have h1_2 := KS hs_1 2
 have h1_3 := KS hs_1 3
 have h1_4 := KS hs_1 4
 have hlow := KL (N := N) (σ := σ) hf_1
 clear haA
 by_cases hul : u = B.length
 ·subst hul
  rw [List.drop_length] at hd
  simp only [openL] at hd
  subst hd
  clear hR hm
  unfold soAV
  simp only [List.map_nil]
  exact WL
 ·have hu1 : u < B.length := by omega
  rw [List.drop_eq_getElem_cons hu1, openL] at hd
  have hmz := hm _ (List.getElem_mem hu1)
  obtain ⟨z, hz⟩ : ∃ z, B[u] = z := ⟨_, rfl⟩
  rw [hz] at hd hmz
  obtain ⟨zk, zn, zp, zb⟩ := z
  simp only at hd hmz
  have hzd : sealAV ⟨zk, zn, zp, zb⟩ = .agg [tagAV zk, .lit (.int .i64 zn), bAV zp, bAV zb] := rfl
  have hzb := bAV_def zp
  have hzb2 := bAV_def zb
  obtain ⟨hmz1, hmz2⟩ := hmz
  have c1 := Same_spec zb b (by omega)
  clear hR hm
  by_cases h1 : zk = key
  ·by_cases h3 : zb = b
   ·rw [if_pos ⟨h1, h3⟩] at hd
    subst hd
    rw [decide_eq_true h3] at c1
    have hcs := And.intro c1 True.intro
    clear c1
    subst h1
    subst h3
    unfold soAV
    simp only
    exact WL
   ·rw [if_neg (fun h => h3 h.2)] at hd
    rw [decide_eq_false h3] at c1
    have hcs := And.intro c1 True.intro
    clear c1
    subst h1
    refine Wk ?_
    exact ⟨WS, WG, WN, _, (show B.length - (u + 1) < m_1 by omega), u + 1, rfl, WF, WF, WF, WC, WC⟩
  ·rw [if_neg (fun h => h1 h.1)] at hd
   have d1 : decide (zk = key) = false := decide_eq_false h1
   clear c1
   refine Wk ?_
   exact ⟨WS, WG, WN, _, (show B.length - (u + 1) < m_1 by omega), u + 1, rfl, WF, WF, WF, WC, WC⟩
set_option maxHeartbeats 1000000 in
theorem refOpen_real (sd : Tg) (fs : Int) (L : List MacE) (B : List BoxE) (key : Tg) (b : List UInt8) (hb : b.length ≤ 100000) (k : Nat) :
  ACall Tryd.prog 67 [algAV ⟨false, sd, fs, L, B⟩, tagAV key, .slice none (b.map byteAV)] k [] (soAV (openS ⟨false, sd, fs, L, B⟩ key b)) [] := by
 unfold openS
 rw [if_neg (by simp)]
 have haA : algAV ⟨false, sd, fs, L, B⟩ = .agg [.lit (.bool false), tagAV sd, .lit (.int .i64 fs), .slice none (L.map macAV), .slice none (B.map sealAV)] := rfl
 unfold soAV
 by_cases h1 : b.length < 40
 ·rw [if_pos (.inl h1)]
  have h1i : (b.length : Int) < 40 := by omega
  simp only [List.map_nil]
  refine Bd Tryd.func67 Tryd.ntmps67 fun σ N hp hpn hk hkn hfree => ?_
  exact WL
 have h1i : ¬ (b.length : Int) < 40 := by omega
 by_cases h2 : 296 < b.length
 ·rw [if_pos (.inr h2)]
  have h2i : (296 : Int) < (b.length : Int) := by omega
  simp only [List.map_nil]
  refine Bd Tryd.func67 Tryd.ntmps67 fun σ N hp hpn hk hkn hfree => ?_
  exact WL
 have h2i : ¬ (296 : Int) < (b.length : Int) := by omega
 rw [if_neg (by omega)]
 have hn32 : ((b.length : Int) - 32).toNat = b.length - 32 := by omega
 have hn32i : (0 : Int) ≤ (b.length : Int) - 32 := by omega
 have hA1 : (b.map byteAV).take (b.length - 32) = (b.take (b.length - 32)).map byteAV := by rw [List.map_take]
 have hD1 : (b.map byteAV).drop (b.length - 32) = (b.drop (b.length - 32)).map byteAV := by rw [List.map_drop]
 have hD2 : ((b.take (b.length - 32)).map byteAV).drop 8 = ((b.take (b.length - 32)).drop 8).map byteAV := by rw [List.map_drop]
 have hl1 : (b.take (b.length - 32)).length = b.length - 32 := by rw [List.length_take]; omega
 have hl2 : (b.drop (b.length - 32)).length = 32 := by rw [List.length_drop]; omega
 have hL8 : (b.take 8).length = 8 := by rw [List.length_take]; omega
 have hbd := be8_bound (L := b.take 8) (i := 8) hL8 (Nat.le_refl _)
 rw [List.take_of_length_le (i := 8) (l := b.take 8) (by omega)] at hbd
 have c1 := Word_spec [98, 111, 120] (b.take (b.length - 32)) (by decide) (by omega)
 have c2 := Hmac_spec key.1 ([98, 111, 120] ++ b.take (b.length - 32)) (by rw [key.2]; decide) (by simp; omega)
 generalize hMs : [98, 111, 120] ++ b.take (b.length - 32) = Ms at *
 generalize hmacT key.1 Ms = T at *
 have c3 := Same_spec T.1 (b.drop (b.length - 32)) (by rw [T.2]; decide)
 have c4 := stream_spec key (be8 (b.take 8)) hbd.1 ((b.take (b.length - 32)).drop 8) (by rw [List.length_drop]; omega)
 have ht1 := tagAV_sz T
 have ht2 := tagAV_cell T
 have hs1 := tagAV_sz key
 have hs2 := tagAV_cell key
 obtain ⟨K, hK⟩ := key
 obtain ⟨T, hT⟩ := T
 have hkA : tagAV ⟨K, hK⟩ = .agg (K.map byteAV) := rfl
 have htA : tagAV ⟨T, hT⟩ = .agg (T.map byteAV) := rfl
 simp only [hkA, htA] at hs1 hs2 ht1 ht2 c2 c3 c4 ⊢
 clear hkA htA
 have hs3 : AV.celll (K.map byteAV) = true := celll_bytes K
 have ht3 : AV.celll (T.map byteAV) = true := celll_bytes T
 have htk : (K.map byteAV).take 32 = K.map byteAV := List.take_of_length_le (by rw [List.length_map]; omega)
 have htk2 : (T.map byteAV).take 32 = T.map byteAV := List.take_of_length_le (by rw [List.length_map]; omega)
 by_cases h3 : T = b.drop (b.length - 32)
 ·rw [if_pos h3]
  rw [decide_eq_true h3] at c3
  simp only
  generalize strmB K (be8 (b.take 8) : Int) ((b.take (b.length - 32)).drop 8) = St at *
  have h0b : be8 (List.take 0 b) = 0 := by simp [be8]
  clear hMs h3
  generalize (b.take (b.length - 32)).drop 8 = Bq at *
  generalize b.drop (b.length - 32) = Dr at *
  generalize b.take (b.length - 32) = Tk at *
  refine Bd Tryd.func67 Tryd.ntmps67 fun σ N hp hpn hk hkn hfree => ?_
  have hcs := And.intro c1 (And.intro c2 (And.intro c3 True.intro))
  clear c1 c2 c3
  refine Wk ?_
  refine go_loopF mixed (by kernel_rfl) [11, 12, 70, 71, 72, 73, 74, 75, 76, 77, 78, 79, 80, 81] [] (fun m_ s_ σ_ n_ => ∃ (i : Nat) (v : Nat), m_ = 8 - i ∧ s_ 12 = .lit (.int .i64 i) ∧ s_ 11 = .lit (.int .u64 v) ∧ (i ≤ 8) ∧ (be8 (b.take i) = v)) ⟨_, 0, 0, rfl, WF, WF, WC, WC⟩ ?_
  intro m_2 s_2 σ_2 n_2 hs_2 hf_2 hn_2 hI_2
  obtain ⟨i, v, hm_2, h2_12, h2_11, hi, hv⟩ := hI_2
  have h2_2 := KS hs_2 2
  have h2_4 := KS hs_2 4
  have h2_6 := KS hs_2 6
  have h2_7 := KS hs_2 7
  have h2_9 := KS hs_2 9
  have k2_0 := KE hf_2 (N+1)
  have hlow := KL (N := N) (σ := σ) hf_2
  clear h0b
  by_cases hi8 : i = 8
  ·subst hi8
   rw [hv] at c4
   have hcs := And.intro c4 True.intro
   clear c4 hv
   exact WL
  ·have hil : i < b.length := by omega
   have hi8i : (i : Int) < 8 := by omega
   obtain ⟨x, hx⟩ : ∃ x, b[i] = x := ⟨_, rfl⟩
   have hxx : byteAV x = .lit (.int .u8 x.toNat) := rfl
   have hxl := x.toNat_lt
   have hm3 := be8_take hil
   rw [hv, hx] at hm3
   have hvb : v < 72057594037927936 := by
    rw [← hv]
    have := (be8_bound (L := b.take 8) (i := i) hL8 (by omega)).2 (by omega)
    rw [List.take_take, Nat.min_eq_left (by omega)] at this
    exact this
   have w1 : IntKind.u64.wrap (256 * (v : Int)) = 256 * (v : Int) := wrap_u64r (by omega) (by omega)
   have w2 : IntKind.u64.wrap (x.toNat : Int) = (x.toNat : Int) := wrap_u64r (by omega) (by omega)
   have w3 : IntKind.u64.wrap (256 * (v : Int) + (x.toNat : Int)) = 256 * (v : Int) + (x.toNat : Int) := wrap_u64r (by omega) (by omega)
   clear hv c4
   refine Wk ?_
   exact ⟨WS, WG, WN, _, (show 8 - (i + 1) < m_2 by omega), i + 1, 256 * v + x.toNat, rfl, WF, WF, WC, WC⟩
 ·rw [if_neg h3]
  rw [decide_eq_false h3] at c3
  simp only [List.map_nil]
  clear hMs h3 c4
  generalize b.drop (b.length - 32) = Dr at *
  generalize b.take (b.length - 32) = Tk at *
  refine Bd Tryd.func67 Tryd.ntmps67 fun σ N hp hpn hk hkn hfree => ?_
  have hcs := And.intro c1 (And.intro c2 (And.intro c3 True.intro))
  clear c1 c2 c3
  exact WL
theorem refOpen_spec (a : Alg) (m : Nat) (ha : AlgIn a m) (hm : m ≤ 900000) (key : Tg) (b : List UInt8) (hb : b.length ≤ 100000) (k : Nat) :
  ACall Tryd.prog 67 [algAV a, tagAV key, .slice none (b.map byteAV)] k [] (soAV (openS a key b)) [] := by
 obtain ⟨fr, sd, fs, L, B⟩ := a
 cases fr with
 | true => exact refOpen_free sd fs L B key b (by have := ha.bl; simp only at this; omega) ha.bm hb k
 | false => exact refOpen_real sd fs L B key b hb k
end

section
variable [W : W32]
theorem mBox_macs (a : Alg) (e : Nat) (key : Tg) (nn : Int) (plain : List UInt8) : (mBox a e key nn plain).1.macs = a.macs := by
 unfold mBox
 split
 ·rfl
 ·split
  ·rfl
  ·split <;> rfl
def bxE (e : Nat) (nn : Int) (plain : List UInt8) : Nat := if e = 0 then (if nn < 0 ∨ 281474976710656 < nn then 1 else if 256 < plain.length then 2 else 0) else e
def bxInto (a : Alg) (e : Nat) (key : Tg) (nn : Int) (plain : List UInt8) : Alg × Nat × List UInt8 := mBox a (bxE e nn plain) key nn plain
theorem bxInto_seal (a : Alg) (key : Tg) (nn : Int) (plain : List UInt8) : sealS a key nn plain = if (bxInto a 0 key nn plain).2.1 = 0 then ((bxInto a 0 key nn plain).1, (bxInto a 0 key nn plain).2.2, 0) else (alg0, [], (bxInto a 0 key nn plain).2.1) := by
 unfold sealS bxInto bxE mBox
 rw [if_pos rfl]
 by_cases h1 : nn < 0 ∨ 281474976710656 < nn
 ·rw [if_pos h1, if_pos h1]; rfl
 ·rw [if_neg h1, if_neg h1]
  by_cases h2 : 256 < plain.length
  ·rw [if_pos h2, if_pos h2]; rfl
  ·rw [if_neg h2, if_neg h2]
   simp only [ne_eq, not_true_eq_false, if_false]
   cases boxL key nn plain a.boxes with
   | some b => rfl
   | none =>
    by_cases h3 : 65536 ≤ a.boxes.length
    ·simp only [if_pos h3]; rfl
    ·simp only [if_neg h3]; rfl
set_option maxHeartbeats 2000000 in
theorem bxInto_spec (a : Alg) (e : Nat) (key : Tg) (nn : Int) (plain : List UInt8) (hl : a.boxes.length ≤ 1000000) (hm : ∀ x ∈ a.boxes, x.plain.length ≤ 100000 ∧ x.box.length ≤ 100000) (hp0 : plain.length ≤ 10000) (d r1 r2 g k : Nat) :
  ACall Tryd.prog 57 [.ptr d [] 0, tagAV key, .lit (.int .i64 nn), .slice none (plain.map byteAV)] k (makE a e d r1 r2 ++ [(g, shaG)])
   (.slice none ((bxInto a e key nn plain).2.2.map byteAV)) [(d, makB (bxInto a e key nn plain).1 (bxInto a e key nn plain).2.1 r1 r2), (r2, rowB (bxInto a e key nn plain).1.boxes.length)] := by
 unfold bxInto bxE
 by_cases h1 : nn < 0
 ·rw [if_pos (show nn < 0 ∨ 281474976710656 < nn from .inl h1)]
  have c1 := Fail_spec a e 1 d r1 r2
  have c2 := mBox_spec a (if e = 0 then 1 else e) key nn plain hl hm hp0 d r1 r2 g
  have hmx := mBox_macs a (if e = 0 then 1 else e) key nn plain
  generalize (if e = 0 then 1 else e) = e1 at *
  generalize mBox a e1 key nn plain = X at *
  obtain ⟨a2, e2, b2⟩ := X
  simp only at c2 hmx ⊢
  unfold makE at *
  simp only [List.cons_append, List.nil_append] at *
  have e01 : ((1 : Nat) : Int) = 1 := rfl
  simp only [makB_def, rowM_eq, rowB_eq, hmx, e01] at *
  clear hm hmx e01
  refine Bd Tryd.func57 Tryd.ntmps57 fun σ N hp hpn hk hkn hfree => ?_
  simp only [List.mem_cons, List.not_mem_nil, or_false, forall_eq_or_imp, forall_eq] at hp hpn; obtain ⟨hd1, hd2, hd3, hd4⟩ := hp; obtain ⟨hdn1, hdn2, hdn3, hdn4⟩ := hpn
  have hne : d ≠ r1 := by rintro rfl; rw [hd1] at hd2; cases hd2
  have hne3 : d ≠ r2 := by rintro rfl; rw [hd1] at hd3; cases hd3
  have hneg : g ≠ d := by rintro rfl; rw [hd4] at hd1; exact shaG_nbox hd1
  have hneg1 : g ≠ r2 := by rintro rfl; rw [hd4] at hd3; exact shaG_nrow hd3
  refine Wm ?_
  refine Wz ?_
  refine go_view 5 (id := N) (bt := 24) (x := tagAV key) (by simp (disch := omega) [go_sem, *, -List.reduceReplicate]) (by simp (disch := omega) [go_sem, *, -List.reduceReplicate]) ?_
  refine go_view 6 (id := N + 1) (bt := 3) (x := .lit (.int .i64 nn)) (by simp (disch := omega) [go_sem, *, -List.reduceReplicate]) (by simp (disch := omega) [go_sem, *, -List.reduceReplicate]) ?_
  refine go_view 7 (id := N + 2) (bt := 55) (x := .slice none (plain.map byteAV)) (by simp (disch := omega) [go_sem, *, -List.reduceReplicate]) (by simp (disch := omega) [go_sem, *, -List.reduceReplicate]) ?_
  have hcs := And.intro c1 (And.intro c2 True.intro)
  clear c1 c2
  refine Wk ?_
  exact RV2 (d) ((.box 140 (.agg [.agg [.lit (.bool a2.free), tagAV a2.seed, .lit (.int .i64 a2.fresh), .slice (some r1) (a.macs.map macAV), .slice (some r2) (a2.boxes.map sealAV)], .lit (.int .i64 (e2 : Int))]))) (r2) ((.row 105 35 a2.boxes.length))
 by_cases h2 : 281474976710656 < nn
 ·rw [if_pos (show nn < 0 ∨ 281474976710656 < nn from .inr h2)]
  have c1 := Fail_spec a e 1 d r1 r2
  have c2 := mBox_spec a (if e = 0 then 1 else e) key nn plain hl hm hp0 d r1 r2 g
  have hmx := mBox_macs a (if e = 0 then 1 else e) key nn plain
  generalize (if e = 0 then 1 else e) = e1 at *
  generalize mBox a e1 key nn plain = X at *
  obtain ⟨a2, e2, b2⟩ := X
  simp only at c2 hmx ⊢
  unfold makE at *
  simp only [List.cons_append, List.nil_append] at *
  have e01 : ((1 : Nat) : Int) = 1 := rfl
  simp only [makB_def, rowM_eq, rowB_eq, hmx, e01] at *
  clear hm hmx e01
  refine Bd Tryd.func57 Tryd.ntmps57 fun σ N hp hpn hk hkn hfree => ?_
  simp only [List.mem_cons, List.not_mem_nil, or_false, forall_eq_or_imp, forall_eq] at hp hpn; obtain ⟨hd1, hd2, hd3, hd4⟩ := hp; obtain ⟨hdn1, hdn2, hdn3, hdn4⟩ := hpn
  have hne : d ≠ r1 := by rintro rfl; rw [hd1] at hd2; cases hd2
  have hne3 : d ≠ r2 := by rintro rfl; rw [hd1] at hd3; cases hd3
  have hneg : g ≠ d := by rintro rfl; rw [hd4] at hd1; exact shaG_nbox hd1
  have hneg1 : g ≠ r2 := by rintro rfl; rw [hd4] at hd3; exact shaG_nrow hd3
  refine Wm ?_
  refine Wz ?_
  refine go_view 5 (id := N) (bt := 24) (x := tagAV key) (by simp (disch := omega) [go_sem, *, -List.reduceReplicate]) (by simp (disch := omega) [go_sem, *, -List.reduceReplicate]) ?_
  refine go_view 6 (id := N + 1) (bt := 3) (x := .lit (.int .i64 nn)) (by simp (disch := omega) [go_sem, *, -List.reduceReplicate]) (by simp (disch := omega) [go_sem, *, -List.reduceReplicate]) ?_
  refine go_view 7 (id := N + 2) (bt := 55) (x := .slice none (plain.map byteAV)) (by simp (disch := omega) [go_sem, *, -List.reduceReplicate]) (by simp (disch := omega) [go_sem, *, -List.reduceReplicate]) ?_
  have hcs := And.intro c1 (And.intro c2 True.intro)
  clear c1 c2
  refine Wk ?_
  exact RV2 (d) ((.box 140 (.agg [.agg [.lit (.bool a2.free), tagAV a2.seed, .lit (.int .i64 a2.fresh), .slice (some r1) (a.macs.map macAV), .slice (some r2) (a2.boxes.map sealAV)], .lit (.int .i64 (e2 : Int))]))) (r2) ((.row 105 35 a2.boxes.length))
 rw [if_neg (show ¬ (nn < 0 ∨ 281474976710656 < nn) by omega)]
 by_cases h3 : 256 < plain.length
 ·rw [if_pos h3]
  have h3i : (256 : Int) < (plain.length : Int) := by omega
  have c1 := Fail_spec a e 2 d r1 r2
  have c2 := mBox_spec a (if e = 0 then 2 else e) key nn plain hl hm hp0 d r1 r2 g
  have hmx := mBox_macs a (if e = 0 then 2 else e) key nn plain
  generalize (if e = 0 then 2 else e) = e1 at *
  generalize mBox a e1 key nn plain = X at *
  obtain ⟨a2, e2, b2⟩ := X
  simp only at c2 hmx ⊢
  unfold makE at *
  simp only [List.cons_append, List.nil_append] at *
  have e02 : ((2 : Nat) : Int) = 2 := rfl
  simp only [makB_def, rowM_eq, rowB_eq, hmx, e02] at *
  clear hm hmx e02
  refine Bd Tryd.func57 Tryd.ntmps57 fun σ N hp hpn hk hkn hfree => ?_
  simp only [List.mem_cons, List.not_mem_nil, or_false, forall_eq_or_imp, forall_eq] at hp hpn; obtain ⟨hd1, hd2, hd3, hd4⟩ := hp; obtain ⟨hdn1, hdn2, hdn3, hdn4⟩ := hpn
  have hne : d ≠ r1 := by rintro rfl; rw [hd1] at hd2; cases hd2
  have hne3 : d ≠ r2 := by rintro rfl; rw [hd1] at hd3; cases hd3
  have hneg : g ≠ d := by rintro rfl; rw [hd4] at hd1; exact shaG_nbox hd1
  have hneg1 : g ≠ r2 := by rintro rfl; rw [hd4] at hd3; exact shaG_nrow hd3
  refine Wm ?_
  refine Wz ?_
  refine go_view 5 (id := N) (bt := 24) (x := tagAV key) (by simp (disch := omega) [go_sem, *, -List.reduceReplicate]) (by simp (disch := omega) [go_sem, *, -List.reduceReplicate]) ?_
  refine go_view 6 (id := N + 1) (bt := 3) (x := .lit (.int .i64 nn)) (by simp (disch := omega) [go_sem, *, -List.reduceReplicate]) (by simp (disch := omega) [go_sem, *, -List.reduceReplicate]) ?_
  refine go_view 7 (id := N + 2) (bt := 55) (x := .slice none (plain.map byteAV)) (by simp (disch := omega) [go_sem, *, -List.reduceReplicate]) (by simp (disch := omega) [go_sem, *, -List.reduceReplicate]) ?_
  have hcs := And.intro c1 (And.intro c2 True.intro)
  clear c1 c2
  refine Wk ?_
  exact RV2 (d) ((.box 140 (.agg [.agg [.lit (.bool a2.free), tagAV a2.seed, .lit (.int .i64 a2.fresh), .slice (some r1) (a.macs.map macAV), .slice (some r2) (a2.boxes.map sealAV)], .lit (.int .i64 (e2 : Int))]))) (r2) ((.row 105 35 a2.boxes.length))
 ·rw [if_neg h3]
  have h3i : ¬ (256 : Int) < (plain.length : Int) := by omega
  rw [show (if e = 0 then 0 else e) = e by split <;> omega]
  have c1 := True.intro
  have c2 := mBox_spec a e key nn plain hl hm hp0 d r1 r2 g
  have hmx := mBox_macs a e key nn plain
  generalize mBox a e key nn plain = X at *
  obtain ⟨a2, e2, b2⟩ := X
  simp only at c2 hmx ⊢
  unfold makE at *
  simp only [List.cons_append, List.nil_append] at *
  simp only [makB_def, rowM_eq, rowB_eq, hmx] at *
  clear hm hmx
  refine Bd Tryd.func57 Tryd.ntmps57 fun σ N hp hpn hk hkn hfree => ?_
  simp only [List.mem_cons, List.not_mem_nil, or_false, forall_eq_or_imp, forall_eq] at hp hpn; obtain ⟨hd1, hd2, hd3, hd4⟩ := hp; obtain ⟨hdn1, hdn2, hdn3, hdn4⟩ := hpn
  have hne : d ≠ r1 := by rintro rfl; rw [hd1] at hd2; cases hd2
  have hne3 : d ≠ r2 := by rintro rfl; rw [hd1] at hd3; cases hd3
  have hneg : g ≠ d := by rintro rfl; rw [hd4] at hd1; exact shaG_nbox hd1
  have hneg1 : g ≠ r2 := by rintro rfl; rw [hd4] at hd3; exact shaG_nrow hd3
  refine Wm ?_
  refine Wz ?_
  refine go_view 5 (id := N) (bt := 24) (x := tagAV key) (by simp (disch := omega) [go_sem, *, -List.reduceReplicate]) (by simp (disch := omega) [go_sem, *, -List.reduceReplicate]) ?_
  refine go_view 6 (id := N + 1) (bt := 3) (x := .lit (.int .i64 nn)) (by simp (disch := omega) [go_sem, *, -List.reduceReplicate]) (by simp (disch := omega) [go_sem, *, -List.reduceReplicate]) ?_
  refine go_view 7 (id := N + 2) (bt := 55) (x := .slice none (plain.map byteAV)) (by simp (disch := omega) [go_sem, *, -List.reduceReplicate]) (by simp (disch := omega) [go_sem, *, -List.reduceReplicate]) ?_
  have hcs := And.intro c2 True.intro
  clear c1 c2
  refine Wk ?_
  exact RV2 (d) ((.box 140 (.agg [.agg [.lit (.bool a2.free), tagAV a2.seed, .lit (.int .i64 a2.fresh), .slice (some r1) (a.macs.map macAV), .slice (some r2) (a2.boxes.map sealAV)], .lit (.int .i64 (e2 : Int))]))) (r2) ((.row 105 35 a2.boxes.length))
end

def o8 (a b : UInt8) : UInt8 := a ||| b
theorem o8_eq (a b : UInt8) : bits .or .u8 (a.toNat : Int) (b.toNat : Int) = ((o8 a b).toNat : Int) := by
 have ha := a.toNat_lt
 have hb := b.toNat_lt
 have h2 := (a ||| b).toNat_lt
 have h3 : (BitVec.ofInt 8 (a.toNat : Int) ||| BitVec.ofInt 8 (b.toNat : Int)).toNat = (a ||| b).toNat := by
  rw [UInt8.toNat_or, BitVec.toNat_or]
  congr 1
  ·rw [BitVec.ofInt_natCast, BitVec.toNat_ofNat]; exact Nat.mod_eq_of_lt ha
  ·rw [BitVec.ofInt_natCast, BitVec.toNat_ofNat]; exact Nat.mod_eq_of_lt hb
 show IntKind.u8.wrap (((BitVec.ofInt 8 (a.toNat : Int) ||| BitVec.ofInt 8 (b.toNat : Int)).toNat : Nat) : Int) = _
 rw [h3, IntKind.wrap_u8]
 unfold o8
 omega
theorem x8_zero {a b : UInt8} : x8 a b = 0 ↔ a = b := by
 rw [x8_xor]; exact UInt8.xor_eq_zero_iff
theorem o8_zero {a b : UInt8} : o8 a b = 0 ↔ a = 0 ∧ b = 0 := by
 unfold o8; exact UInt8.or_eq_zero_iff
theorem hEqual_spec (a b : List UInt8) (ha : a.length ≤ 100000) (_hb : b.length ≤ 100000) (k : Nat) :
  ACall Tryd.prog 99 [.slice none (a.map byteAV), .slice none (b.map byteAV)] k [] (.lit (.bool (decide (a = b)))) [] := by
 by_cases hl : a.length = b.length
 ·refine Bd Tryd.func99 Tryd.ntmps99 fun σ N hp hpn hk hkn hfree => ?_
  refine Wk ?_
  refine go_loopF mixed (by kernel_rfl) [5, 6, 14, 15, 16, 17, 18, 19, 20, 21, 22, 23, 24, 25, 26, 27, 28] [] (fun m_ s_ σ_ n_ => ∃ (u : Nat) (d : UInt8), m_ = a.length - u ∧ s_ 14 = .lit (.int .i64 u) ∧ s_ 5 = .lit (.int .u8 d.toNat) ∧ (u ≤ a.length) ∧ (d = 0 ↔ a.take u = b.take u)) ⟨_, 0, 0, rfl, WF, WF, WC, WC⟩ ?_
  intro m_1 s_1 σ_1 n_1 hs_1 hf_1 hn_1 hI_1
  obtain ⟨u, d, hm_1, h1_14, h1_5, hu, hd⟩ := hI_1
  have h1_0 := KS hs_1 0
  have h1_1 := KS hs_1 1
  have h1_4 := KS hs_1 4
  have h1_13 := KS hs_1 13
  have hlow := KL (N := N) (σ := σ) hf_1
  by_cases hul : u = a.length
  ·have hr : decide (d = 0) = decide (a = b) := by
    have : (d = 0) ↔ a = b := by
     rw [hd, hul, List.take_length, hl, List.take_length]
    simp only [this]
   have hr2 : ((d.toNat : Int) == 0) = decide (a = b) := by
    rw [← hr]
    by_cases h0 : d = 0
    ·subst h0; rfl
    ·rw [decide_eq_false h0, beq_eq_false_iff_ne]
     intro h1
     exact h0 (UInt8.toNat_inj.1 (by simpa using h1))
   have hr3 : decide ((d.toNat : Int) = 0) = decide (a = b) := hr2
   generalize decide (a = b) = R at *
   subst hul
   clear hd hr
   exact W0
  ·have hua : u < a.length := by omega
   have hub : u < b.length := by omega
   obtain ⟨x, hx⟩ : ∃ x, a[u] = x := ⟨_, rfl⟩
   obtain ⟨y, hy⟩ : ∃ y, b[u] = y := ⟨_, rfl⟩
   have hxx : byteAV x = .lit (.int .u8 x.toNat) := rfl
   have hyy : byteAV y = .lit (.int .u8 y.toNat) := rfl
   have h1 := x8_eq x y
   have h2 := o8_eq d (x8 x y)
   have h3 : o8 d (x8 x y) = 0 ↔ a.take (u + 1) = b.take (u + 1) := by
    rw [o8_zero, x8_zero, hd, List.take_succ_eq_append_getElem hua, List.take_succ_eq_append_getElem hub, hx, hy]
    constructor
    ·rintro ⟨e1, e2⟩; rw [e1, e2]
    ·intro e
     have := List.append_inj e (by rw [List.length_take, List.length_take]; omega)
     exact ⟨this.1, by simpa using this.2⟩
   clear hd
   generalize x8 x y = v at *
   generalize o8 d v = w at *
   refine Wk ?_
   exact ⟨WS, WG, WN, _, (show a.length - (u + 1) < m_1 by omega), u + 1, w, rfl, WF, WF, WC, WC⟩
 ·rw [decide_eq_false (fun h => hl (by rw [h]))]
  have hl2 : ((a.length : Int) != (b.length : Int)) = true := by simp; omega
  refine Bd Tryd.func99 Tryd.ntmps99 fun σ N hp hpn hk hkn hfree => ?_
  exact W0
section
variable [W : W32]
set_option maxHeartbeats 1000000 in
theorem pOpen_free (sd : Tg) (fs : Int) (L : List MacE) (B : List BoxE) (key : Tg) (b : List UInt8) (hl : B.length ≤ 1000000) (hm : ∀ e ∈ B, e.plain.length ≤ 100000 ∧ e.box.length ≤ 100000) (hb : b.length ≤ 100000) (g k : Nat) :
  ACall Tryd.prog 65 [algAV ⟨true, sd, fs, L, B⟩, tagAV key, .slice none (b.map byteAV)] k [(g, shaG)] (soAV (openS ⟨true, sd, fs, L, B⟩ key b)) [] := by
 unfold openS
 rw [if_pos rfl]
 simp only
 generalize hR : openL key b B = R
 refine Bd Tryd.func65 Tryd.ntmps65 fun σ N hp hpn hk hkn hfree => ?_
 obtain ⟨hd, hdn⟩ := HD0 hp hpn; clear hp hpn
 have haA : algAV ⟨true, sd, fs, L, B⟩ = .agg [.lit (.bool true), tagAV sd, .lit (.int .i64 fs), .slice none (L.map macAV), .slice none (B.map sealAV)] := rfl
 refine Wk ?_
 refine go_loopF mixed (by kernel_rfl) [6, 7, 9, 17, 18, 19, 20, 21, 22, 23, 24, 25, 26, 27, 28, 29, 30, 31, 32, 33, 34] [N, N+1] (fun m_ s_ σ_ n_ => ∃ (u : Nat), m_ = B.length - u ∧ s_ 17 = .lit (.int .i64 u) ∧ σ_ (N) = .box 30 (.agg [.lit (.bool true), tagAV sd, .lit (.int .i64 fs), .slice none (L.map macAV), .slice none (B.map sealAV)]) ∧ σ_ (N+1) = .box 24 (tagAV key) ∧ (u ≤ B.length) ∧ (openL key b (B.drop u) = R)) ⟨_, 0, rfl, WF, WF, WF, WC, WC⟩ ?_
 intro m_2 s_2 σ_2 n_2 hs_2 hf_2 hn_2 hI_2
 obtain ⟨u, hm_2, h2_17, e2_0, e2_1, hu, hd⟩ := hI_2
 have h2_2 := KS hs_2 2
 have h2_4 := KS hs_2 4
 have h2_15 := KS hs_2 15
 have h2_16 := KS hs_2 16
 have k2_0 := KE hf_2 (g)
 have hlow := KL (N := N) (σ := σ) hf_2
 clear haA
 by_cases hul : u = B.length
 ·subst hul
  rw [List.drop_length] at hd
  simp only [openL] at hd
  subst hd
  clear hR hm
  unfold soAV
  simp only [List.map_nil]
  exact WL
 ·have hu1 : u < B.length := by omega
  rw [List.drop_eq_getElem_cons hu1, openL] at hd
  have hmz := hm _ (List.getElem_mem hu1)
  obtain ⟨z, hz⟩ : ∃ z, B[u] = z := ⟨_, rfl⟩
  rw [hz] at hd hmz
  obtain ⟨zk, zn, zp, zb⟩ := z
  simp only at hd hmz
  have hzd : sealAV ⟨zk, zn, zp, zb⟩ = .agg [tagAV zk, .lit (.int .i64 zn), bAV zp, bAV zb] := rfl
  have hzb := bAV_def zp
  have hzb2 := bAV_def zb
  obtain ⟨hmz1, hmz2⟩ := hmz
  have c1 := Equal_spec zb b (by omega) (by omega)
  have c2 := Clone_spec zp (by omega)
  clear hR hm
  by_cases h1 : zk = key
  ·by_cases h3 : zb = b
   ·rw [if_pos ⟨h1, h3⟩] at hd
    subst hd
    rw [decide_eq_true h3] at c1
    have hcs := And.intro c1 (And.intro c2 True.intro)
    clear c1 c2
    subst h1
    subst h3
    unfold soAV
    simp only
    exact WL
   ·rw [if_neg (fun h => h3 h.2)] at hd
    rw [decide_eq_false h3] at c1
    have hcs := And.intro c1 True.intro
    clear c1 c2
    subst h1
    refine Wk ?_
    exact ⟨WS, WG, WN, _, (show B.length - (u + 1) < m_2 by omega), u + 1, rfl, WF, WF, WF, WC, WC⟩
  ·rw [if_neg (fun h => h1 h.1)] at hd
   have d1 : decide (zk = key) = false := decide_eq_false h1
   clear c1 c2
   refine Wk ?_
   exact ⟨WS, WG, WN, _, (show B.length - (u + 1) < m_2 by omega), u + 1, rfl, WF, WF, WF, WC, WC⟩
set_option maxHeartbeats 1000000 in
theorem pOpen_real (sd : Tg) (fs : Int) (L : List MacE) (B : List BoxE) (key : Tg) (b : List UInt8) (hb : b.length ≤ 100000) (g k : Nat) :
  ACall Tryd.prog 65 [algAV ⟨false, sd, fs, L, B⟩, tagAV key, .slice none (b.map byteAV)] k [(g, shaG)] (soAV (openS ⟨false, sd, fs, L, B⟩ key b)) [] := by
 unfold openS
 rw [if_neg (by simp)]
 have haA : algAV ⟨false, sd, fs, L, B⟩ = .agg [.lit (.bool false), tagAV sd, .lit (.int .i64 fs), .slice none (L.map macAV), .slice none (B.map sealAV)] := rfl
 unfold soAV
 by_cases h1 : b.length < 40
 ·rw [if_pos (.inl h1)]
  have h1i : (b.length : Int) < 40 := by omega
  simp only [List.map_nil]
  refine Bd Tryd.func65 Tryd.ntmps65 fun σ N hp hpn hk hkn hfree => ?_
  obtain ⟨hd, hdn⟩ := HD0 hp hpn; clear hp hpn
  exact WL
 have h1i : ¬ (b.length : Int) < 40 := by omega
 by_cases h2 : 296 < b.length
 ·rw [if_pos (.inr h2)]
  have h2i : (296 : Int) < (b.length : Int) := by omega
  simp only [List.map_nil]
  refine Bd Tryd.func65 Tryd.ntmps65 fun σ N hp hpn hk hkn hfree => ?_
  obtain ⟨hd, hdn⟩ := HD0 hp hpn; clear hp hpn
  exact WL
 have h2i : ¬ (296 : Int) < (b.length : Int) := by omega
 rw [if_neg (by omega)]
 have hn32 : ((b.length : Int) - 32).toNat = b.length - 32 := by omega
 have hn32i : (0 : Int) ≤ (b.length : Int) - 32 := by omega
 have hA1 : (b.map byteAV).take (b.length - 32) = (b.take (b.length - 32)).map byteAV := by rw [List.map_take]
 have hD1 : (b.map byteAV).drop (b.length - 32) = (b.drop (b.length - 32)).map byteAV := by rw [List.map_drop]
 have hD2 : ((b.take (b.length - 32)).map byteAV).drop 8 = ((b.take (b.length - 32)).drop 8).map byteAV := by rw [List.map_drop]
 have hl1 : (b.take (b.length - 32)).length = b.length - 32 := by rw [List.length_take]; omega
 have hl2 : (b.drop (b.length - 32)).length = 32 := by rw [List.length_drop]; omega
 have hL8 : (b.take 8).length = 8 := by rw [List.length_take]; omega
 have hT8 : (b.take (b.length - 32)).take 8 = b.take 8 := by rw [List.take_take, Nat.min_eq_left (by omega)]
 have hE8 := eight_be8 (b.take 8) hL8
 have c1 := bCheck_spec key (b.take (b.length - 32)) (by omega) g
 have c3 := bCrypt_spec key (be8 (b.take 8) : Int) ((b.take (b.length - 32)).drop 8) (by rw [List.length_drop]; omega) g
 rw [hE8] at c3
 have hD3 : ((b.take (b.length - 32)).map byteAV).take 8 = (b.take 8).map byteAV := by rw [← List.map_take, hT8]
 generalize hmacT key.1 ([98, 111, 120] ++ b.take (b.length - 32)) = T at *
 have c2 := hEqual_spec T.1 (b.drop (b.length - 32)) (by rw [T.2]; decide) (by omega)
 have ht1 := tagAV_sz T
 have ht2 := tagAV_cell T
 obtain ⟨T, hT⟩ := T
 have htA : tagAV ⟨T, hT⟩ = .agg (T.map byteAV) := rfl
 simp only [htA] at ht1 ht2 c1 c2 ⊢
 clear htA hE8 hT8
 have htk2 : (T.map byteAV).take 32 = T.map byteAV := List.take_of_length_le (by rw [List.length_map]; omega)
 generalize b.take 8 = N8 at *
 by_cases h3 : T = b.drop (b.length - 32)
 ·rw [if_pos h3]
  rw [decide_eq_true h3] at c2
  simp only
  generalize strmB key.1 (be8 N8 : Int) ((b.take (b.length - 32)).drop 8) = St at *
  clear h3
  generalize (b.take (b.length - 32)).drop 8 = Bq at *
  generalize b.drop (b.length - 32) = Dr at *
  generalize b.take (b.length - 32) = Tk at *
  have hTk : (Tk.map byteAV).take (b.length - 32) = Tk.map byteAV := List.take_of_length_le (by rw [List.length_map]; omega)
  refine Bd Tryd.func65 Tryd.ntmps65 fun σ N hp hpn hk hkn hfree => ?_
  obtain ⟨hd, hdn⟩ := HD0 hp hpn; clear hp hpn
  have hcs := And.intro c1 (And.intro c2 (And.intro c3 True.intro))
  clear c1 c2 c3
  exact WL
 ·rw [if_neg h3]
  rw [decide_eq_false h3] at c2
  simp only [List.map_nil]
  clear h3 c3
  generalize b.drop (b.length - 32) = Dr at *
  generalize b.take (b.length - 32) = Tk at *
  refine Bd Tryd.func65 Tryd.ntmps65 fun σ N hp hpn hk hkn hfree => ?_
  obtain ⟨hd, hdn⟩ := HD0 hp hpn; clear hp hpn
  have hcs := And.intro c1 (And.intro c2 True.intro)
  clear c1 c2
  exact WL
theorem pOpen_spec (a : Alg) (m : Nat) (ha : AlgIn a m) (hm : m ≤ 900000) (key : Tg) (b : List UInt8) (hb : b.length ≤ 100000) (g k : Nat) :
  ACall Tryd.prog 65 [algAV a, tagAV key, .slice none (b.map byteAV)] k [(g, shaG)] (soAV (openS a key b)) [] := by
 obtain ⟨fr, sd, fs, L, B⟩ := a
 cases fr with
 | true => exact pOpen_free sd fs L B key b (by have := ha.bl; simp only at this; omega) ha.bm hb g k
 | false => exact pOpen_real sd fs L B key b hb g k
end
end Go.Proofs.YtdmjpolnbmoehaaDoor

namespace Go.Ab
open Go.RowKit
def LQP (W0 : World) (g : Ghost) (N : Nat) (D : List Deferred) (Q : AExit → Cfg → Prop) (QP : List PanicEntry → Cfg → Prop) : Exit → Act → World → Prop := fun e a w =>
 ∃ c g', g.le g' ∧ SimA W0 g' N c a w ∧ a.defers = D ∧ match e with
  | .normal => Q .normal c
  | .exit id => Q (.exit id) c
  | .ret => Q .ret c
  | .panic ch => QP ch c
  | _ => False
theorem LQP.mono {W0 : World} {g g' : Ghost} {N : Nat} {D D' : List Deferred} {Q : AExit → Cfg → Prop} {QP : List PanicEntry → Cfg → Prop} (hg : g.le g') (hD : D' = D) {e : Exit} {a : Act} {w : World} (h : LQP W0 g' N D' Q QP e a w) : LQP W0 g N D Q QP e a w :=
 let ⟨c, g'', hle, hs, hm, hq⟩ := h
 ⟨c, g'', hg.trans hle, hs, hm.trans hD, hq⟩
def awP (P : Program) (N : Nat) (b : Code) (Q : AExit → Cfg → Prop) (QP : List PanicEntry → Cfg → Prop) (c : Cfg) : Prop :=
 codeOK N b = true → P.follows .mixedOrders = true → ∀ W0 g a w, SimA W0 g N c a w → b.wpIn (wideAt none) 0 P (LQP W0 g N a.defers Q QP) a w
section
variable {P : Program} {N : Nat} {Q : AExit → Cfg → Prop} {QP : List PanicEntry → Cfg → Prop} {c : Cfg}
theorem goP_skip (h : Q .normal c) : awP P N .skip Q QP c := fun _ _ _ g _ _ hS => wpIn_skip ⟨c, g, g.le_refl, hS, rfl, h⟩
theorem goP_ret (h : Q .ret c) : awP P N .ret Q QP c := fun _ _ _ g _ _ hS => wpIn_ret ⟨c, g, g.le_refl, hS, rfl, h⟩
theorem goP_seq {x y : Code} (h : awP P N x (aThen (awP P N y Q QP) Q) QP c) : awP P N (.seq x y) Q QP c := fun hok hmix W0 g a w hS => by
 simp only [codeOK, Bool.and_eq_true] at hok
 refine wpIn_seq (wpIn_mono (h hok.1 hmix W0 g a w hS) fun e a' w' hq => ?_)
 obtain ⟨c', g', hle, hS', hM, hq⟩ := hq
 cases e with
 | normal => exact wpIn_mono (hq hok.2 hmix W0 g' a' w' hS') fun e a w hq => hq.mono hle hM
 | exit id => exact ⟨c', g', hle, hS', hM, hq⟩
 | ret => exact ⟨c', g', hle, hS', hM, hq⟩
 | panic => exact ⟨c', g', hle, hS', hM, hq⟩
 | goto => exact hq.elim
 | outgrown => exact hq.elim
theorem goP_condT {x : Operand} {y z : Code} (hv : aeval c.s x = .lit (.bool true)) (h : awP P N y Q QP c) : awP P N (.cond x y z) Q QP c := fun hok hmix W0 g a w hS => by
 simp only [codeOK, Bool.and_eq_true] at hok
 have hr := hS.eval hok.1.1
 rw [hv] at hr
 exact wpIn_cond_split (rep_lit_inv hr) (fun _ => h hok.1.2 hmix W0 g a w hS) (fun hb' => by cases hb')
theorem goP_condF {x : Operand} {y z : Code} (hv : aeval c.s x = .lit (.bool false)) (h : awP P N z Q QP c) : awP P N (.cond x y z) Q QP c := fun hok hmix W0 g a w hS => by
 simp only [codeOK, Bool.and_eq_true] at hok
 have hr := hS.eval hok.1.1
 rw [hv] at hr
 exact wpIn_cond_split (rep_lit_inv hr) (fun hb' => by cases hb') (fun _ => h hok.2 hmix W0 g a w hS)
theorem goP_block {id : Nat} {b : Code} (h : awP P N b (aBlk id Q) QP c) : awP P N (.block id b) Q QP c := fun hok hmix W0 g a w hS => by
 refine wpIn_block (wpIn_mono (h hok hmix W0 g a w hS) fun e a' w' hq => ?_)
 obtain ⟨c', g', hle, hS', hM, hq⟩ := hq
 cases e with
 | normal => exact ⟨c', g', hle, hS', hM, hq⟩
 | exit id' =>
  simp only [aBlk] at hq
  simp only [Exit.inBlock]
  split at hq
  ·rename_i he; rw [if_pos he]; exact ⟨c', g', hle, hS', hM, hq⟩
  ·rename_i he; rw [if_neg he]; exact ⟨c', g', hle, hS', hM, hq⟩
 | ret => exact ⟨c', g', hle, hS', hM, hq⟩
 | panic => exact ⟨c', g', hle, hS', hM, hq⟩
 | goto => exact hq.elim
 | outgrown => exact hq.elim
theorem goP_scope {b : Code} (h : awP P N b Q QP c) : awP P N (.scope b) Q QP c := fun hok hmix W0 g a w hS => by
 refine wpIn_scope_straight (wpIn_mono (h hok hmix W0 g a w hS) fun e a' w' hq => ?_)
 obtain ⟨c', g', hle, hS', hM, hq⟩ := hq
 cases e with
 | normal => exact ⟨c', g', hle, hS', hM, hq⟩
 | exit id => exact ⟨c', g', hle, hS', hM, hq⟩
 | ret => exact ⟨c', g', hle, hS', hM, hq⟩
 | panic => exact ⟨c', g', hle, hS', hM, hq⟩
 | goto => exact hq.elim
 | outgrown => exact hq.elim
theorem goP_region {id : Nat} {l : List Oper} {draw : Bool} {s : Slots} {σ : Nat → Ent} {n n' : Nat} (hn : n + l.length = n') (h : aops P l.toArray n l 0 [] (kReg l.toArray draw Q) ⟨s, σ, n'⟩) : awP P N (.region id l.toArray draw) Q QP ⟨s, σ, n⟩ := fun hok hmix W0 g a w hS => by
 subst hn
 simp only [codeOK, Bool.and_eq_true, Bool.or_eq_true, Bool.not_eq_true'] at hok
 exact wp_region_ab hmix hok.1 (fun hd => hok.2.resolve_left (by simp [hd])) hS h fun c g' a w hg hs hd hq => ⟨c, g', hg, hs, hd, hq⟩
theorem region_rest {l1 l2 : List Oper} {s : Slots} {σ : Nat → Ent} {n n' : Nat} {K : Cfg → Prop} (hn : n + (l1 ++ l2).length = n') (h : aops P (l1 ++ l2).toArray n l1 0 [] (fun c' _ => K c') ⟨s, σ, n'⟩)
  {W0 : World} {g : Ghost} {a : Act} {w : World} {Q' : Exit → Act → World → Prop} (hN : shapeOK N (l1 ++ l2).toArray = true) (hS : SimA W0 g N ⟨s, σ, n⟩ a w) {id : Nat}
  (hK : ∀ c' g' a' w', g.le g' → SimA W0 g' N c' a' w' → a'.defers = a.defers → n + (l1 ++ l2).length ≤ c'.n → (∀ j, l1.length ≤ j → j < (l1 ++ l2).length → c'.σ (n + j) = .none) → K c' → wpOpsIn (wideAt none) 0 P (l1 ++ l2).toArray Q' (List.range' l1.length l2.length) a' w') :
  (Code.region id (l1 ++ l2).toArray false).wpIn (wideAt none) 0 P Q' a w := by
 subst hn
 obtain ⟨outs, hl, hr⟩ := aops_lex _ _ _ _ h
 have hlex := hr (fun j => outs.getD j default) fun j _ => by simp
 have hS' : SimA W0 g N ⟨s, σ, n + (l1 ++ l2).length⟩ a w := ⟨hS.sim.more (Nat.le_add_right _ _), hS.size, hS.slots⟩
 have hfree : ∀ j, σ (n + j) = .none := fun j => hS.sim.bound _ (Nat.le_add_right _ _)
 refine wpIn_region ?_
 have key := lexA_prefix (ro := none) (m := n) (P := P) (ops := (l1 ++ l2).toArray) (out := fun j => outs.getD j default) (Q := K) (Q' := Q') (W0 := W0) (tl := List.range' l1.length l2.length) g hN l1.length
  (fun c g' a w hg hs hd hn hf hq => hK c g' a w hg hs hd (by simpa using hn) (fun j h1 h2 => hf j h1 (by simpa using h2)) hq) l1 0 ⟨s, σ, n + (l1 ++ l2).length⟩ g a w
  (fun j hj => by simp [List.getElem?_append_left hj]) (Nat.zero_add _) (by simp) g.le_refl hS' rfl (by simp) (fun j _ _ => hfree j) hlex
 have hrg : List.range (l1 ++ l2).toArray.size = List.range' 0 l1.length ++ List.range' l1.length l2.length := by
  have h1 := List.range'_append_1 (s := 0) (m := l1.length) (n := l2.length)
  rw [Nat.zero_add] at h1
  rw [List.range_eq_range', show (l1 ++ l2).toArray.size = l1.length + l2.length by simp, h1]
 rw [hrg]
 exact key
theorem goP_panic {id : Nat} {l1 l2 : List Oper} {s : Slots} {σ : Nat → Ent} {n n' : Nat} {x : Operand} {ty : TypeId} {pos : String} {after : Array Edge} {d : Option Tmp} {T : TypeId}
  (hn : n + (l1 ++ (⟨d, .panic x, ty, pos, after, none⟩ : Oper) :: l2).length = n')
  (h : aops P (l1 ++ (⟨d, .panic x, ty, pos, after, none⟩ : Oper) :: l2).toArray n l1 0 [] (fun c' _ => aeval c'.s x = .iface T (.agg []) ∧ QP [{ v := .iface T (.agg #[]), recovered := false }] c') ⟨s, σ, n'⟩) :
  awP P N (.region id (l1 ++ (⟨d, .panic x, ty, pos, after, none⟩ : Oper) :: l2).toArray false) Q QP ⟨s, σ, n⟩ := fun hok hmix W0 g a w hS => by
 simp only [codeOK, Bool.and_eq_true, Bool.or_eq_true, Bool.not_eq_true'] at hok
 refine region_rest hn h hok.1 hS fun c' g' a' w' hle hS' hd hn' hf hK => ?_
 simp only [List.length_cons]
 rw [List.range'_succ, wpOpsIn_cons]
 have h0 : (l1 ++ (⟨d, .panic x, ty, pos, after, none⟩ : Oper) :: l2).toArray[l1.length]? = some ⟨d, .panic x, ty, pos, after, none⟩ := by simp
 obtain ⟨hop, hdst⟩ := shapeOK_at hok.1 h0
 have hr := hS'.eval (hop x (by simp [Op.operands]))
 rw [hK.1] at hr
 generalize hv : a'.eval x = v at hr
 cases hr with
 | iface _ _ v0 hv0 =>
  cases hv0 with
  | agg _ vs hl _ =>
   have hvs : vs = [] := by simpa using hl
   subst hvs
   unfold wpOpIn
   simp only [h0]
   rw [if_pos (by simp [Region.wanted])]
   refine ⟨fun _ _ => trivial, ?_⟩
   rw [Oper.semAt_none]
   have hrun : (execOp a'.eval (⟨d, .panic x, ty, pos, after, none⟩ : Oper)).run P w' = .halt (.panic (.iface T (.agg (flat []).toArray))) w' := by
    simp only [execOp, hv, Sem.run_bind]
    rfl
   rw [hrun]
   exact ⟨c', g', hle, hS', hd, hK.2⟩
def APanic (P : Program) (f : FuncId) (args : List AV) (k : Nat) (ch : List PanicEntry) : Prop :=
 callable P f = true ∧ ∀ (W0 : World) (g : Ghost) (σ : Nat → Ent) (n : Nat) (w : World) (vals : List Value), Sim W0 g σ n w → vals.length = args.length → (∀ (i : Nat) (x : AV) (v : Value), args[i]? = some x → vals[i]? = some v → Rep g x v) →
  σ k = .none → k < n → Calls P f vals.toArray w fun e w' => e = .panicked ch ∧ ∃ g', g.le g' ∧ Sim W0 g' σ n w'
theorem goP_callPanic {id : Nat} {l1 l2 : List Oper} {s : Slots} {σ : Nat → Ent} {n n' : Nat} {x : Operand} {ty : TypeId} {pos : String} {after : Array Edge} {d : Option Tmp} {args : Array Operand} {ts : Array TypeId} {ch : List PanicEntry}
  (hn : n + (l1 ++ (⟨d, .call { callee := .value x, args := args, argTypes := ts }, ty, pos, after, none⟩ : Oper) :: l2).length = n')
  (h : aops P (l1 ++ (⟨d, .call { callee := .value x, args := args, argTypes := ts }, ty, pos, after, none⟩ : Oper) :: l2).toArray n l1 0 [] (fun c' _ => (∃ f caps, aeval c'.s x = .fn f caps ∧ APanic P f (args.toList.map (aeval c'.s) ++ caps) (n + l1.length) ch) ∧ QP ch c') ⟨s, σ, n'⟩) :
  awP P N (.region id (l1 ++ (⟨d, .call { callee := .value x, args := args, argTypes := ts }, ty, pos, after, none⟩ : Oper) :: l2).toArray false) Q QP ⟨s, σ, n⟩ := fun hok hmix W0 g a w hS => by
 simp only [codeOK, Bool.and_eq_true, Bool.or_eq_true, Bool.not_eq_true'] at hok
 refine region_rest hn h hok.1 hS fun c' g' a' w' hle hS' hd hn' hf hK => ?_
 simp only [List.length_cons]
 rw [List.range'_succ, wpOpsIn_cons]
 have h0 : (l1 ++ (⟨d, .call { callee := .value x, args := args, argTypes := ts }, ty, pos, after, none⟩ : Oper) :: l2).toArray[l1.length]? = some ⟨d, .call { callee := .value x, args := args, argTypes := ts }, ty, pos, after, none⟩ := by simp
 obtain ⟨hop, hdst⟩ := shapeOK_at hok.1 h0
 obtain ⟨⟨f, caps, hx, hc, hrun⟩, hQ⟩ := hK
 have hr := hS'.eval (hop x (by simp [Op.operands, Call.operands]))
 have h2 : ∀ y ∈ args, Rep g' (aeval c'.s y) (a'.eval y) := fun y hy => hS'.eval (hop y (by simp [Op.operands, Call.operands, hy]))
 rw [hx] at hr
 generalize hv : a'.eval x = v at hr
 cases hr with
 | fn _ _ vs hvl hvr =>
  have hexec : (execOp a'.eval (⟨d, .call { callee := .value x, args := args, argTypes := ts }, ty, pos, after, none⟩ : Oper)).run P w' = .ok (.enter f ((args.toList.map a'.eval ++ vs).toArray)) w' := by
   simp only [execOp, resolve, hv, Deferred.ofValue, Sem.run_bind, Sem.run_pure, Result.andThen_ok, invoke]
   rw [run_callFunc hc]
   congr 2
   simp [← Array.toList_map]
  unfold wpOpIn
  simp only [h0]
  rw [if_pos (by simp [Region.wanted])]
  refine ⟨fun _ _ => trivial, ?_⟩
  rw [Oper.semAt_none, hexec]
  have hfr := hf l1.length (Nat.le_refl _) (by simp)
  have hcalls := hrun W0 g' c'.σ c'.n w' (args.toList.map a'.eval ++ vs) hS'.sim (by simp [hvl]) (fun i y u hy hu => by
   by_cases hi : i < args.toList.length
   ·rw [List.getElem?_append_left (by simpa using hi), List.getElem?_map] at hy hu
    cases hz : args.toList[i]? with
    | none => rw [hz] at hy; cases hy
    | some z =>
     rw [hz] at hy hu
     cases hy; cases hu
     exact h2 z (by have := List.mem_of_getElem? hz; simpa using this)
   ·rw [List.getElem?_append_right (by simpa using hi)] at hy hu
    simp only [List.length_map] at hy hu
    exact hvr _ y u hy hu) hfr (by simp at hn'; omega)
  have h' : CallsIn (wideAt none) (0 - 1) P _ _ w' _ := callsIn_wide.2 hcalls
  refine ⟨fun hd => (by cases hd), h'.mono fun e w'' ⟨he, g'', hle', hS''⟩ => ?_⟩
  subst he
  exact ⟨c', g'', hle.trans hle', ⟨hS'', hS'.size, fun t => (hS'.slots t).mono hle'⟩, hd, hQ⟩
end
theorem SimA.init {W0 : World} {g : Ghost} {σ : Nat → Ent} {n : Nat} {w : World} {args : List AV} {vals : List Value} {N : Nat} (hS : Sim W0 g σ n w) (hl : vals.length = args.length) (hv : ∀ (i : Nat) (x : AV) (v : Value), args[i]? = some x → vals[i]? = some v → Rep g x v) (hargs : args.length ≤ N) :
  SimA W0 g N ⟨initS args, σ, n⟩ { tmps := vals.toArray ++ Array.replicate (N - vals.toArray.size) undef, defers := [] } w := by
 refine ⟨hS, by simp; omega, fun t => ?_⟩
 show Rep g (args.getD t (.tup [])) ((vals.toArray ++ Array.replicate (N - vals.toArray.size) undef).getD t undef)
 by_cases ht : t < args.length
 ·have ht' : t < vals.length := by omega
  have := hv t args[t] vals[t] (List.getElem?_eq_getElem ht) (List.getElem?_eq_getElem ht')
  have e1 : args.getD t (.tup []) = args[t] := by simp [List.getD, List.getElem?_eq_getElem ht]
  have e2 : (vals.toArray ++ Array.replicate (N - vals.toArray.size) undef).getD t undef = vals[t] := by simp [Array.getElem?_append, ht']
  rw [e1, e2]; exact this
 ·have e1 : args.getD t (.tup []) = .tup [] := by simp [List.getD, List.getElem?_eq_none (Nat.not_lt.1 ht)]
  have e2 : (vals.toArray ++ Array.replicate (N - vals.toArray.size) undef).getD t undef = undef := by
   rw [Array.getD_eq_getD_getElem?, Array.getElem?_append]
   rw [if_neg (by simp; omega), Array.getElem?_replicate]
   split <;> rfl
  rw [e1, e2]
  exact .tup [] [] rfl fun i x v h _ => by simp at h
theorem APanic.of_body {P : Program} {f : FuncId} {fn : Func} {body : Code} {args : List AV} {k : Nat} {ch : List PanicEntry} (hmix : P.follows .mixedOrders = true) (hf : P.funcs[f]? = some fn) (hb : fn.body = some body)
  (hname : (fn.name == "runtime.NumGoroutine") = false) {N : Nat} (hN : fn.ntmps = N) (hok : codeOK N body = true) (hargs : args.length ≤ N)
  (h : ∀ (σ : Nat → Ent) (n : Nat), σ k = .none → k < n → (∀ id, n ≤ id → σ id = .none) → awP P N body (fun _ _ => False) (fun ch' c' => ch' = ch ∧ ∀ id, id < n → c'.σ id = σ id) ⟨initS args, σ, n⟩) : APanic P f args k ch := by
 refine ⟨by simp [callable, hf, hb, hname], fun W0 g σ n w vals hS hl hv hk hkn => ?_⟩
 subst hN
 refine callsIn_wide.1 (callsIn_of_wp_marks (n := 0) hf hb trivial (wpIn_mono (h σ n hk hkn hS.bound hok hmix W0 g _ w (SimA.init hS hl hv hargs)) fun e a' w' hq => ?_))
 obtain ⟨c', g', hle, hS', hD, hq⟩ := hq
 cases e with
 | panic ch' =>
  obtain ⟨rfl, h3⟩ := hq
  obtain ⟨g2, hle2, hS2, _⟩ := hS.leave hS'.sim hle hk hkn (ws := []) (post := []) (fresh := none) h3 (fun q hq => by cases hq) rfl
  show LeavesInM Fence.wide 0 P fn a'.tmps _ a'.defers (.panicking ch') w'
  rw [hD]
  exact ⟨rfl, g2, hle2, hS2⟩
 | normal => exact hq.elim
 | ret => exact hq.elim
 | exit id => exact hq.elim
 | goto => exact hq.elim
 | outgrown => exact hq.elim
theorem ARet.of {P : Program} {rs : List ResultVar} {k : Nat} {σ0 : Nat → Ent} {n0 : Nat} {pre : Foot} {r : AV} {post : Foot} {c : Cfg} (h : aRet P rs k σ0 n0 pre r post .ret c) : ARet P rs k σ0 n0 pre r post c := h
def ADef (P : Program) (f : FuncId) (caps : List AV) (u u2 : FrameMode) (pre post : Foot) : Prop :=
 callable P f = true ∧ ∀ (W0 : World) (g : Ghost) (σ : Nat → Ent) (n : Nat) (w : World) (vals : List Value), Sim W0 g σ n w → vals.length = caps.length → (∀ (i : Nat) (x : AV) (v : Value), caps[i]? = some x → vals[i]? = some v → Rep g x v) → (∀ p ∈ pre, σ p.1 = p.2) →
  CallsDIn Fence.wide 0 P f vals.toArray u w fun e u' w' => ∃ v, e = .returned v ∧ u' = u2 ∧ ∃ (g' : Ghost) (σ' : Nat → Ent) (n' : Nat), g.le g' ∧ Sim W0 g' σ' n' w' ∧ ∀ id, id < n → σ' id = wr σ post id
theorem ADef.of_recover {P : Program} {f : FuncId} {fn : Func} {idr : Nat} {t : Tmp} {rest : Code} {caps : List AV} {u u2 : FrameMode} {pre post : Foot} {ty : TypeId} {pos : String} {after : Array Edge} {ts : Array TypeId} (rv : AV)
  (hmix : P.follows .mixedOrders = true) (hf : P.funcs[f]? = some fn) (hb : fn.body = some (.seq (.region idr #[(⟨some t, .call { callee := .builtin .recover, args := #[], argTypes := ts }, ty, pos, after, none⟩ : Oper)] false) rest))
  (hname : (fn.name == "runtime.NumGoroutine") = false) {N : Nat} (hN : fn.ntmps = N) (hok1 : codeOK N rest = true) (ht : t < N) (hrs : fn.results = #[]) (hargs : caps.length ≤ N) (hpre : ∀ p ∈ pre, p.2 ≠ .none)
  (hrec : (u = .returning ∧ u2 = .returning ∧ rv = .lit .nilIface) ∨ ∃ T, u = .panicking [{ v := .iface T (.agg #[]), recovered := false }] ∧ u2 = .panicking [{ v := .iface T (.agg #[]), recovered := true }] ∧ rv = .iface T (.agg []))
  (h : ∀ (σ : Nat → Ent) (n : Nat), (∀ p ∈ pre, σ p.1 = p.2) → (∀ p ∈ pre, p.1 < n) → (∀ id, n ≤ id → σ id = .none) → awP P N rest (fun e c => (match e with | .exit _ => False | _ => True) ∧ ∀ id, id < n → c.σ id = wr σ post id) (fun _ _ => False) ⟨upd (initS caps) t rv, σ, n⟩) : ADef P f caps u u2 pre post := by
 refine ⟨by simp [callable, hf, hb, hname], fun W0 g σ n w vals hS hl hv hp => ?_⟩
 subst hN
 have hpn : ∀ p ∈ pre, p.1 < n := fun p hpm => by
  rcases Nat.lt_or_ge p.1 n with h' | h'
  ·exact h'
  ·exact absurd ((hp p hpm).symm.trans (hS.bound p.1 h')) (hpre p hpm)
 have h := h σ n hp hpn hS.bound
 have hSA := SimA.init hS hl hv hargs
 refine callsDIn_of_wpSIn hf hb trivial fun c₀ cs hu => ?_
 generalize ha0 : ({ tmps := vals.toArray ++ Array.replicate (fn.ntmps - vals.toArray.size) undef, defers := [] } : Act) = a0 at *
 have hd0 : a0.defers = [] := by rw [← ha0]
 have go : ∀ (v : Value) (u' : FrameMode), Rep g rv v → rest.wpSIn Fence.wide 0 P (bodyPostS P fn c₀ cs fun e u' w' => ∃ v, e = .returned v ∧ u' = u2 ∧ ∃ (g' : Ghost) (σ' : Nat → Ent) (n' : Nat), g.le g' ∧ Sim W0 g' σ' n' w' ∧ ∀ id, id < n → σ' id = wr σ post id) (a0.put (some t) v) ({ c₀ with mode := u2 } :: cs) w := by
  intro v u' hrv
  refine wpSIn_of_wpIn rfl ?_
  have hSA1 : SimA W0 g fn.ntmps ⟨upd (initS caps) t rv, σ, n⟩ (a0.put (some t) v) w := ⟨hS, by rw [put_size]; exact hSA.size, putA_rep (s := initS caps) (d := some t) hSA.slots hSA.size (fun _ h => by cases h; exact ht) hrv⟩
  refine wpIn_mono (h hok1 hmix W0 g _ w hSA1) fun e a' w' hq => ?_
  obtain ⟨c', g', hle, hS', hD, hq⟩ := hq
  have hfin : (∀ id, id < n → c'.σ id = wr σ post id) → a'.defers = [] ∧ ∃ u', ({ c₀ with mode := u2 } :: cs : List Frame) = { c₀ with mode := u' } :: cs ∧ ∃ v, (results fn a'.tmps).run P w' = .ok v w' ∧ (∃ v', Ending.returned v = .returned v' ∧ u' = u2 ∧ ∃ (g' : Ghost) (σ' : Nat → Ent) (n' : Nat), g.le g' ∧ Sim W0 g' σ' n' w' ∧ ∀ id, id < n → σ' id = wr σ post id) := fun hag =>
   ⟨by rw [hD, put_defers, hd0], u2, rfl, .tuple #[], by rw [results_eq, hrs]; simp [Sem.run_pure], _, rfl, rfl, g', c'.σ, c'.n, hle, hS'.sim, hag⟩
  cases e with
  | normal => exact hfin hq.2
  | ret => exact hfin hq.2
  | exit id => exact hq.1.elim
  | goto => exact hq.elim
  | panic => exact hq.elim
  | outgrown => exact hq.elim
 refine wpSIn_seq (wpSIn_region ?_)
 have hrun : (execOp a0.eval (⟨some t, .call { callee := .builtin .recover, args := #[], argTypes := ts }, ty, pos, after, none⟩ : Oper)).run P w = .ok .recover w := by
  first | rfl | simp [execOp, resolve, Sem.run_bind, Sem.run_pure, Result.andThen] | simp [execOp, go_sem]
 show wpOpsSIn Fence.wide 0 P _ _ [0] a0 (c₀ :: cs) w
 simp only [wpOpsSIn]
 refine ⟨fun _ _ => trivial, ?_⟩
 rw [if_pos (by simp [Region.wanted])]
 have hrun' : (execOp a0.eval #[(⟨some t, .call { callee := .builtin .recover, args := #[], argTypes := ts }, ty, pos, after, none⟩ : Oper)][0]).run P w = .ok .recover w := hrun
 rw [hrun']
 rcases hrec with ⟨rfl, rfl, rfl⟩ | ⟨T, rfl, rfl, rfl⟩
 ·have hc : ({ c₀ with mode := FrameMode.returning } : Frame) = c₀ := by cases c₀; simp only at hu; subst hu; rfl
  have hrc : recoverD (c₀ :: cs) = none := by simp only [recoverD, hu]
  simp only [hrc]
  have key := go .nilIface .returning (.lit _ rfl)
  rw [hc] at key
  exact key
 ·have hrc : recoverD (c₀ :: cs) = some (.iface T (.agg #[]), { c₀ with mode := .panicking [{ v := .iface T (.agg #[]), recovered := true }] } :: cs) := by simp only [recoverD, hu]
  simp only [hrc]
  exact go (.iface T (.agg #[])) .returning (.iface T _ _ (.agg [] [] rfl fun i x v h _ => by simp at h))
theorem ACall.of_bodyD {P : Program} {f : FuncId} {fn : Func} {r0 rest : Code} {idr : Nat} {l : List Oper} {args : List AV} {k : Nat} {pre post : Foot} {r : AV} {x : Operand} {ty : TypeId} {pos : String} {after : Array Edge}
  (hmix : P.follows .mixedOrders = true) (hf : P.funcs[f]? = some fn) (hb : fn.body = some (.seq r0 (.seq (.region idr (l ++ [(⟨none, .defer { callee := .value x, args := #[], argTypes := #[] }, ty, pos, after, none⟩ : Oper)]).toArray false) rest)))
  (hname : (fn.name == "runtime.NumGoroutine") = false) {N : Nat} (hN : fn.ntmps = N) (hok0 : codeOK N r0 = true) (hsh : shapeOK N (l ++ [(⟨none, .defer { callee := .value x, args := #[], argTypes := #[] }, ty, pos, after, none⟩ : Oper)]).toArray = true) (hx0 : opndOK x = true) (hok1 : codeOK N rest = true) {rs : List ResultVar} (hrs : fn.results.toList = rs) (hargs : args.length ≤ N) (hpre : ∀ p ∈ pre, p.2 ≠ .none) (hpost : ∀ q ∈ post, q.1 = k ∨ ∃ p ∈ pre, p.1 = q.1)
  (h : ∀ (σ : Nat → Ent) (n : Nat), (∀ p ∈ pre, σ p.1 = p.2) → (∀ p ∈ pre, p.1 < n) → σ k = .none → k < n → (∀ id, n ≤ id → σ id = .none) →
   awP P N r0 (fun e c => e = .normal ∧ aops P (l ++ [(⟨none, .defer { callee := .value x, args := #[], argTypes := #[] }, ty, pos, after, none⟩ : Oper)]).toArray c.n l 0 [] (fun c1 _ => ∃ fd caps, aeval c1.s x = .fn fd caps ∧
    awP P N rest (fun e c2 => e = .ret ∧ (∃ pr, (∀ p ∈ pr, c2.σ p.1 = p.2) ∧ ADef P fd caps .returning .returning pr []) ∧ ∀ σ' n', (∀ id, id < c2.n → σ' id = c2.σ id) → ARet P rs k σ n pre r post ⟨c2.s, σ', n'⟩)
     (fun ch c2 => ∃ ch2 pr po, (∀ p ∈ pr, c2.σ p.1 = p.2) ∧ settle (.panicking ch2) = .returning ∧ ADef P fd caps (.panicking ch) (.panicking ch2) pr po ∧ ∀ σ' n', (∀ id, id < c2.n → σ' id = wr c2.σ po id) → ARet P rs k σ n pre r post ⟨c2.s, σ', n'⟩) c1) ⟨c.s, c.σ, c.n + (l.length + 1)⟩) (fun _ _ => False) ⟨initS args, σ, n⟩) :
  ACall P f args k pre r post := by
 refine ⟨by simp [callable, hf, hb, hname], hpre, hpost, fun W0 g σ n w vals hS hl hv hk hkn hp => ?_⟩
 have hpn : ∀ p ∈ pre, p.1 < n := fun p hpm => by
  rcases Nat.lt_or_ge p.1 n with h' | h'
  ·exact h'
  ·exact absurd ((hp p hpm).symm.trans (hS.bound p.1 h')) (hpre p hpm)
 have h := h σ n hp hpn hk hkn hS.bound
 subst hN
 have fin : ∀ (c2 : Cfg) (g2 : Ghost) (a2 : Act) (w2 : World), g.le g2 → SimA W0 g2 fn.ntmps c2 a2 w2 → ARet P rs k σ n pre r post c2 →
   ∃ v, (results fn a2.tmps).run P w2 = .ok v w2 ∧ ∃ u, Ending.returned v = .returned u ∧ ∃ g', g.le g' ∧ Sim W0 g' (wr σ post) n w2 ∧ Rep g' r u := by
  intro c2 g2 a2 w2 hle hS2 hA
  obtain ⟨r0', r', ws, fresh, h1, hrle, h2, h3, h4, h5⟩ := hA
  have hws : ∀ q ∈ ws, σ q.1 ≠ .none := fun q hq => by obtain ⟨p, hp1, hp2⟩ := h4 q hq; rw [← hp2, hp p hp1]; exact hpre p hp1
  obtain ⟨g3, hle3, hS3, hrep, _⟩ := hS.leave hS2.sim hle hk hkn h3 hws (post := post) (fresh := fresh) (by
   cases fresh with
   | none => exact h5
   | some r0 => exact ⟨h5.1, h5.2.1⟩)
  obtain ⟨u, hu, hrun⟩ := aresults_sound (fn := fn) hS2 (w2 := w2) (fun _ _ _ _ => rfl) (by rw [hrs]; exact h1)
  exact ⟨u, hrun, u, rfl, g3, hle3, hS3, by rw [h2]; exact hrep _ _ (hrle _ _ hu)⟩
 refine callsIn_wide.1 (callsIn_of_wp_marks (n := 0) hf hb trivial ?_)
 refine wpIn_seq (wpIn_mono (h hok0 hmix W0 g _ w (SimA.init hS hl hv hargs)) fun e a1 w1 hq => ?_)
 obtain ⟨c, g1, hle1, hS1, hD1, hq⟩ := hq
 have hnorm : ∀ {e' : AExit}, (e' = AExit.normal ∧ aops P (l ++ [(⟨none, .defer { callee := .value x, args := #[], argTypes := #[] }, ty, pos, after, none⟩ : Oper)]).toArray c.n l 0 [] (fun c1 _ => ∃ fd caps, aeval c1.s x = .fn fd caps ∧
       awP P fn.ntmps rest (fun e c2 => e = .ret ∧ (∃ pr, (∀ p ∈ pr, c2.σ p.1 = p.2) ∧ ADef P fd caps .returning .returning pr []) ∧ ∀ σ' n', (∀ id, id < c2.n → σ' id = c2.σ id) → ARet P rs k σ n pre r post ⟨c2.s, σ', n'⟩)
         (fun ch c2 => ∃ ch2 pr po, (∀ p ∈ pr, c2.σ p.1 = p.2) ∧ settle (.panicking ch2) = .returning ∧ ADef P fd caps (.panicking ch) (.panicking ch2) pr po ∧ ∀ σ' n', (∀ id, id < c2.n → σ' id = wr c2.σ po id) → ARet P rs k σ n pre r post ⟨c2.s, σ', n'⟩) c1) ⟨c.s, c.σ, c.n + (l.length + 1)⟩) → e' ≠ .normal → False := fun h he => he h.1
 cases e with
 | normal =>
  obtain ⟨_, hops⟩ := hq
  show (Code.seq _ _).wpIn _ _ _ _ _ _
  refine wpIn_seq ?_
  obtain ⟨cs, cσ, cn⟩ := c
  refine region_rest (n := cn) (K := fun c1 => ∃ fd caps, aeval c1.s x = .fn fd caps ∧ _) (by simp) hops hsh hS1 fun c1 g2 a2 w2 hle2 hS2 hD2 hn2 hf2 hK => ?_
  obtain ⟨fd, caps, hx, hrest⟩ := hK
  rw [List.length_singleton, List.range'_one, wpOpsIn_cons]
  have h0 : (l ++ [(⟨none, .defer { callee := .value x, args := #[], argTypes := #[] }, ty, pos, after, none⟩ : Oper)]).toArray[l.length]? = some ⟨none, .defer { callee := .value x, args := #[], argTypes := #[] }, ty, pos, after, none⟩ := by simp
  have hr := hS2.eval hx0
  rw [hx] at hr
  generalize hvx : a2.eval x = vx at hr
  cases hr with
  | fn _ _ vs hvl hvr =>
   unfold wpOpIn
   simp only [h0]
   rw [if_pos (by simp [Region.wanted])]
   refine ⟨fun _ _ => trivial, ?_⟩
   rw [Oper.semAt_none]
   have hexec : (execOp a2.eval (⟨none, .defer { callee := .value x, args := #[], argTypes := #[] }, ty, pos, after, none⟩ : Oper)).run P w2 = .ok (.defer { target := .fn (.func fd) vs.toArray, args := #[] }) w2 := by
    simp [execOp, resolve, hvx, Deferred.ofValue, Sem.run_pure]
   rw [hexec, Oper.uponIn_defer]
   show Exit.then _ _ .normal _ _
   have hput : (({ a2 with defers := { target := .fn (.func fd) vs.toArray, args := #[] } :: a2.defers } : Act).put none undef) = { a2 with defers := { target := .fn (.func fd) vs.toArray, args := #[] } :: a2.defers } := rfl
   rw [hput]
   have hdef : a2.defers = [] := hD2.trans hD1
   have hS2' : SimA W0 g2 fn.ntmps c1 { a2 with defers := { target := .fn (.func fd) vs.toArray, args := #[] } :: a2.defers } w2 := ⟨hS2.sim, hS2.size, hS2.slots⟩
   refine wpIn_mono (hrest hok1 hmix W0 g2 _ w2 hS2') fun e a3 w3 hq3 => ?_
   obtain ⟨c2, g3, hle3, hS3, hD3, hq3⟩ := hq3
   have hD4 : a3.defers = [{ target := .fn (.func fd) vs.toArray, args := #[] }] := by rw [hD3, hdef]
   have hle : g.le g3 := (hle1.trans hle2).trans hle3
   have hcaps : ∀ (i : Nat) (y : AV) (u : Value), caps[i]? = some y → vs[i]? = some u → Rep g3 y u := fun i y u hy hu => (hvr i y u hy hu).mono hle3
   have hinv : callable P fd = true → (invoke (.fn (.func fd) vs.toArray) #[]).run P w3 = .ok (.enter fd vs.toArray) w3 := fun hc => by
    simp only [invoke]
    rw [run_callFunc hc]
    simp
   cases e with
   | ret =>
    obtain ⟨_, ⟨pr, hpr, hc, hdf⟩, hA⟩ := hq3
    show LeavesInM Fence.wide 0 P fn a3.tmps _ a3.defers .returning w3
    rw [hD4]
    refine ⟨by simp, .inr ⟨fun hd => (by cases hd), _, _, fd, vs.toArray, rfl, hinv hc, fun _ _ => trivial, ?_⟩⟩
    refine CallsDIn.mono (hdf W0 g3 c2.σ c2.n w3 vs hS3.sim hvl hcaps hpr) fun e u' w4 hh => ?_
    obtain ⟨v, rfl, rfl, g4, σ4, n4, hle4, hS4, hag⟩ := hh
    exact fin ⟨c2.s, σ4, n4⟩ g4 a3 w4 (hle.trans hle4) ⟨hS4, hS3.size, fun t => (hS3.slots t).mono hle4⟩ (hA σ4 n4 hag)
   | panic ch =>
    obtain ⟨ch2, pr, po, hpr, hset, ⟨hc, hdf⟩, hA⟩ := hq3
    show LeavesInM Fence.wide 0 P fn a3.tmps _ a3.defers (.panicking ch) w3
    rw [hD4]
    refine ⟨by simp, .inr ⟨fun hd => (by cases hd), _, _, fd, vs.toArray, rfl, hinv hc, fun _ _ => trivial, ?_⟩⟩
    refine CallsDIn.mono (hdf W0 g3 c2.σ c2.n w3 vs hS3.sim hvl hcaps hpr) fun e u' w4 hh => ?_
    obtain ⟨v, rfl, rfl, g4, σ4, n4, hle4, hS4, hag⟩ := hh
    show LeavesInM Fence.wide 0 P fn a3.tmps _ [] (settle (.panicking ch2)) w4
    rw [hset]
    exact fin ⟨c2.s, σ4, n4⟩ g4 a3 w4 (hle.trans hle4) ⟨hS4, hS3.size, fun t => (hS3.slots t).mono hle4⟩ (hA σ4 n4 hag)
   | normal => exact absurd hq3.1 (by simp)
   | exit id => exact absurd hq3.1 (by simp)
   | goto => exact hq3.elim
   | outgrown => exact hq3.elim
 | exit id => exact (hnorm hq (by simp)).elim
 | ret => exact (hnorm hq (by simp)).elim
 | panic => exact hq.elim
 | goto => exact hq.elim
 | outgrown => exact hq.elim
def ifTy (P : Program) (t : TypeId) : Bool :=
 match P.underlying t with
 | some (.interface _) => true
 | _ => false
theorem run_equalIn_inil {P : Program} {t : TypeId} {ms : Array (String × TypeId)} (hu : P.underlying t = some (.interface ms)) {a : Value} {r : Bool} (ha : (a = .nilIface ∧ r = true) ∨ ∃ T v, a = .iface T v ∧ r = false) (d : Nat) (w : World) : (Op.equalIn (d + 1) t a .nilIface).run P w = .ok r w := by
 rcases ha with ⟨rfl, rfl⟩ | ⟨T, v, rfl, rfl⟩
 ·simp [Op.equalIn, run_underlying hu]
 ·simp [Op.equalIn, run_underlying hu]
theorem holds_ifaceNil {P : Program} {o : Oper} {s : Slots} {id : Nat} {t yt : TypeId} {x : Operand} {r : Bool} (ho : o.op = .binOp .eql t x (.const .nilIface) yt) (ht : ifTy P t = true)
  (hx : (aeval s x = .lit .nilIface ∧ r = true) ∨ ∃ T z, aeval s x = .iface T z ∧ r = false) : OpHolds P o s id [] (.lit (.bool r)) [] :=
 holds_pure fun g w a hr => by
  have h1 := hr x (by simp [ho, Op.operands])
  have hu : ∃ ms, P.underlying t = some (.interface ms) := by
   unfold ifTy at ht
   split at ht
   ·exact ⟨_, by assumption⟩
   ·cases ht
  obtain ⟨ms, hu⟩ := hu
  refine ⟨.bool r, ?_, .lit _ rfl⟩
  have hc : a.eval (.const .nilIface) = .nilIface := rfl
  simp only [execOp, ho, hc]
  rcases hx with ⟨hx, rfl⟩ | ⟨T, z, hx, rfl⟩
  ·rw [hx] at h1
   have hv := rep_lit_inv h1
   rw [hv]
   have hg : eqGuard .eql t x (.const .nilIface) .nilIface .nilIface = pure () := by simp [eqGuard]
   have hb : binOp .eql t .nilIface .nilIface = (do pure (.bool (← Op.equal t .nilIface .nilIface))) := rfl
   rw [hg, hb]
   have he : (Op.equal t .nilIface .nilIface).run P w = .ok true w := run_equalIn_inil hu (.inl ⟨rfl, rfl⟩) 9999 w
   simp only [Sem.run_bind, Sem.run_pure, Result.andThen_ok, he]
  ·rw [hx] at h1
   generalize hv : a.eval x = v at h1
   cases h1 with
   | iface _ _ v0 h0 =>
    have hg : eqGuard .eql t x (.const .nilIface) (.iface T v0) .nilIface = pure () := by simp [eqGuard]
    have hb : binOp .eql t (.iface T v0) .nilIface = (do pure (.bool (← Op.equal t (.iface T v0) .nilIface))) := rfl
    rw [hg, hb]
    have he : (Op.equal t (.iface T v0) .nilIface).run P w = .ok false w := run_equalIn_inil hu (.inr ⟨T, v0, rfl, rfl⟩) 9999 w
    simp only [Sem.run_bind, Sem.run_pure, Result.andThen_ok, he]
theorem go_ifNilT {P : Program} {ops : Array Oper} {m i : Nat} {r : List Oper} {T : Trace} {k : Cfg → Trace → Prop} {s : Slots} {σ : Nat → Ent} {n : Nat} {ty : TypeId} {pos : String} {after : Array Edge} {t : Tmp} {x : Operand} {tx ty2 : TypeId} (ht : ifTy P tx = true) (hx : aeval s x = .lit .nilIface)
  (h : aops P ops m r (i + 1) T k ⟨upd s t (.lit (.bool true)), σ, n⟩) : aops P ops m (⟨some t, .binOp .eql tx x (.const .nilIface) ty2, ty, pos, after, none⟩ :: r) i T k ⟨s, σ, n⟩ :=
 go_own (st := ⟨[], .lit (.bool true), []⟩) (fun o ho => ⟨holds_ifaceNil ho ht (.inl ⟨hx, rfl⟩), fun p hp => by cases hp⟩) h
theorem go_ifNilF {P : Program} {ops : Array Oper} {m i : Nat} {r : List Oper} {T : Trace} {k : Cfg → Trace → Prop} {s : Slots} {σ : Nat → Ent} {n : Nat} {ty : TypeId} {pos : String} {after : Array Edge} {t : Tmp} {x : Operand} {tx ty2 T2 : TypeId} {z : AV} (ht : ifTy P tx = true) (hx : aeval s x = .iface T2 z)
  (h : aops P ops m r (i + 1) T k ⟨upd s t (.lit (.bool false)), σ, n⟩) : aops P ops m (⟨some t, .binOp .eql tx x (.const .nilIface) ty2, ty, pos, after, none⟩ :: r) i T k ⟨s, σ, n⟩ :=
 go_own (st := ⟨[], .lit (.bool false), []⟩) (fun o ho => ⟨holds_ifaceNil ho ht (.inr ⟨T2, z, hx, rfl⟩), fun p hp => by cases hp⟩) h
end Go.Ab

namespace Go.Proofs.YtdmjpolnbmoehaaDoor
open Go.Ab
attribute [local irreducible] Go.Ab.tyAV Go.Ab.aw Go.Ab.aops Go.Ab.kReg Go.Ab.aThen Go.Ab.aBlk Go.Ab.acond Go.Ab.aguard Go.Ab.astep Go.Ab.AStepX Go.Ab.aRet
attribute [local irreducible] shaG
def encPS (p : Pr) : List UInt8 × Nat := if predB p = true then (encP p, 0) else ([], 5)
theorem encPS_len (p : Pr) : (encPS p).1.length ≤ 40 := by
 unfold encPS
 split
 ·rename_i h; exact (encP_len p h).2
 ·simp
def grantM (t : List UInt8) : List UInt8 := [103, 114, 97, 110, 116] ++ t
def condM (p : Pr) : List UInt8 := [99, 111, 110, 100, 105, 116, 105, 111, 110] ++ (encPS p).1
theorem condM_len (p : Pr) : (condM p).length ≤ 49 := by have := encPS_len p; simp [condM]; omega
section
variable [W : W32]
def restrS (a : Alg) (d : Di) (p : Pr) : Alg × Di × Nat :=
 if predB p = false then (alg0, di0, 5) else if p.kind = 7 then (alg0, di0, 6) else if 8 ≤ d.conds.length then (alg0, di0, 2) else
 if (macS a d.tag (condM p)).2.2 = 0 then ((macS a d.tag (condM p)).1, ⟨d.ticket, d.conds ++ [p], (macS a d.tag (condM p)).2.1⟩, 0) else (alg0, di0, (macS a d.tag (condM p)).2.2)
def mdAV (r : Alg × Di × Nat) : AV := .tup [algAV r.1, diAV r.2.1, .lit (.int .i64 (r.2.2 : Nat))]
end

def teB (t : Te) : Bool := decide (0 ≤ t.least) && decide (t.least ≤ t.most) && decide (t.most ≤ 150)
theorem teB_iff {t : Te} : teB t = true ↔ 0 ≤ t.least ∧ t.least ≤ t.most ∧ t.most ≤ 150 := by
 unfold teB; simp [Bool.and_eq_true, and_assoc]
theorem refTerms_spec (t : Te) (k : Nat) : ACall Tryd.prog 28 [teAV t] k [] (.lit (.bool (teB t))) [] := by
 obtain ⟨x, y⟩ := t
 unfold teAV
 by_cases h1 : 0 ≤ x
 ·by_cases h2 : x ≤ y
  ·by_cases h3 : y ≤ 150
   ·have hr : teB ⟨x, y⟩ = true := by simp [teB, *]
    rw [hr]
    refine Bd Tryd.func28 Tryd.ntmps28 fun σ N hp hpn hk hkn hfree => ?_
    exact W0
   ·have hr : teB ⟨x, y⟩ = false := by simp [teB, *]
    rw [hr]
    refine Bd Tryd.func28 Tryd.ntmps28 fun σ N hp hpn hk hkn hfree => ?_
    exact W0
  ·have hr : teB ⟨x, y⟩ = false := by simp [teB, *]
   rw [hr]
   refine Bd Tryd.func28 Tryd.ntmps28 fun σ N hp hpn hk hkn hfree => ?_
   exact W0
 ·have hr : teB ⟨x, y⟩ = false := by simp [teB, *]
  rw [hr]
  refine Bd Tryd.func28 Tryd.ntmps28 fun σ N hp hpn hk hkn hfree => ?_
  exact W0
def readT (b : List UInt8) : Tg × Te × Nat :=
 if (tagR b 0).2.2 ≠ 0 then (zeroTag, te0, 5) else
 if (numR b 32).2.2 ≠ 0 then (zeroTag, te0, 5) else if (numR b (numR b 32).2.1).2.2 ≠ 0 then (zeroTag, te0, 5) else
 if (numR b (numR b 32).2.1).2.1 ≠ b.length ∨ teB ⟨(numR b 32).1, (numR b (numR b 32).2.1).1⟩ = false then (zeroTag, te0, 5) else
 ((tagR b 0).1, ⟨(numR b 32).1, (numR b (numR b 32).2.1).1⟩, 0)
def moAV (r : Tg × Te × Nat) : AV := .tup [tagAV r.1, teAV r.2.1, .lit (.int .i64 (r.2.2 : Nat))]
section
variable [W : W32]
def openT (a : Alg) (c : Co) (t : List UInt8) : Tg × Te × Nat := if (openS a c.key t).2 ≠ 0 then (zeroTag, te0, (openS a c.key t).2) else readT (openS a c.key t).1
set_option maxHeartbeats 1000000 in
theorem refOpenT_spec (a : Alg) (m : Nat) (ha : AlgIn a m) (hm : m ≤ 900000) (c : Co) (t : List UInt8) (ht : t.length ≤ 100000) (k : Nat) :
  ACall Tryd.prog 34 [algAV a, concAV c, .slice none (t.map byteAV)] k [] (moAV (openT a c t)) [] := by
 obtain ⟨cpa, cke, cps⟩ := c
 have c1 := refOpen_spec a m ha hm cke t ht
 have hbl := openS_len a m ha cke t ht
 unfold openT
 simp only
 unfold soAV at c1
 generalize openS a cke t = X at *
 obtain ⟨b, e⟩ := X
 simp only at c1 hbl ⊢
 clear ha
 unfold moAV
 by_cases he : e = 0
 ·subst he
  rw [if_neg (by simp)]
  unfold readT
  have t1 := fun d => RTag_spec b 0 (by omega) (by omega) d
  by_cases hs : (tagR b 0).2.2 = 0
  ·rw [if_neg (by simpa using hs)]
   have hs2 : (tagR b 0).2.1 = 32 := tagR_used hs
   have hs3 : 32 ≤ b.length := tagR_len hs
   generalize tagR b 0 = T at *
   obtain ⟨kt, u0, e0⟩ := T
   simp only at hs hs2 t1 ⊢
   subst hs
   subst hs2
   have n1 := fun d => RNum_spec b 32 hs3 (by omega) d
   have l1 := numR_le (b := b) hs3
   by_cases h1 : (numR b 32).2.2 = 0
   ·rw [if_neg (by simpa using h1)]
    generalize numR b 32 = Y at *
    obtain ⟨v1, u1, e1'⟩ := Y
    simp only at h1 n1 l1 ⊢
    subst h1
    have n2 := fun d => RNum_spec b u1 l1 (by omega) d
    by_cases h2 : (numR b u1).2.2 = 0
    ·rw [if_neg (by simpa using h2)]
     generalize numR b u1 = Z at *
     obtain ⟨v2, u2, e2'⟩ := Z
     simp only at h2 n2 ⊢
     subst h2
     by_cases h3 : u2 = b.length
     ·subst h3
      have n3 := refTerms_spec ⟨(v1 : Nat), (v2 : Nat)⟩
      cases h4 : teB ⟨(v1 : Nat), (v2 : Nat)⟩ with
      | false =>
       rw [if_pos (.inr rfl)]
       rw [h4] at n3
       unfold teAV at *
       simp only [te0] at *
       simp only [RdBox] at *
       refine Bd Tryd.func34 Tryd.ntmps34 fun σ N hp hpn hk hkn hfree => ?_
       have hcs := And.intro c1 (And.intro (t1 (N + 17 + 2)) (And.intro (n1 (N + 17 + 2)) (And.intro (n2 (N + 17 + 2)) (And.intro n3 True.intro))))
       clear c1 t1 n1 n2 n3
       refine Wk ?_
       exact WD
      | true =>
       rw [if_neg (by simp)]
       rw [h4] at n3
       unfold teAV at *
       simp only at *
       simp only [RdBox] at *
       refine Bd Tryd.func34 Tryd.ntmps34 fun σ N hp hpn hk hkn hfree => ?_
       have hcs := And.intro c1 (And.intro (t1 (N + 17 + 2)) (And.intro (n1 (N + 17 + 2)) (And.intro (n2 (N + 17 + 2)) (And.intro n3 True.intro))))
       clear c1 t1 n1 n2 n3
       refine Wk ?_
       exact WD
     ·rw [if_pos (.inl h3)]
      have h3i : ((u2 : Int) != (b.length : Int)) = true := by simp; omega
      unfold teAV
      simp only [te0]
      simp only [RdBox] at *
      refine Bd Tryd.func34 Tryd.ntmps34 fun σ N hp hpn hk hkn hfree => ?_
      have hcs := And.intro c1 (And.intro (t1 (N + 17 + 2)) (And.intro (n1 (N + 17 + 2)) (And.intro (n2 (N + 17 + 2)) True.intro)))
      clear c1 t1 n1 n2
      refine Wk ?_
      exact WD
    ·rw [if_pos (by simpa using h2)]
     generalize numR b u1 = Z at *
     obtain ⟨v2, u2, e2'⟩ := Z
     simp only at h2 n2 ⊢
     have h2i : ((e2' : Int) != 0) = true := by simp; omega
     unfold teAV
     simp only [te0]
     simp only [RdBox] at *
     refine Bd Tryd.func34 Tryd.ntmps34 fun σ N hp hpn hk hkn hfree => ?_
     have hcs := And.intro c1 (And.intro (t1 (N + 17 + 2)) (And.intro (n1 (N + 17 + 2)) (And.intro (n2 (N + 17 + 2)) True.intro)))
     clear c1 t1 n1 n2
     refine Wk ?_
     exact WD
   ·rw [if_pos (by simpa using h1)]
    generalize numR b 32 = Y at *
    obtain ⟨v1, u1, e1'⟩ := Y
    simp only at h1 n1 l1 ⊢
    have h1i : ((e1' : Int) != 0) = true := by simp; omega
    have n2 := fun d => RNum_off b u1 e1' h1 d
    unfold teAV
    simp only [te0]
    simp only [RdBox] at *
    refine Bd Tryd.func34 Tryd.ntmps34 fun σ N hp hpn hk hkn hfree => ?_
    have hcs := And.intro c1 (And.intro (t1 (N + 17 + 2)) (And.intro (n1 (N + 17 + 2)) (And.intro (n2 (N + 17 + 2)) True.intro)))
    clear c1 t1 n1 n2
    refine Wk ?_
    exact WD
  ·rw [if_pos (by simpa using hs)]
   generalize tagR b 0 = T at *
   obtain ⟨kt, u0, e0⟩ := T
   simp only at hs t1 ⊢
   have h1i : ((e0 : Int) != 0) = true := by simp; omega
   have n1 := fun d => RNum_off b u0 e0 hs d
   have n2 := fun d => RNum_off b u0 e0 hs d
   unfold teAV
   simp only [te0]
   simp only [RdBox] at *
   refine Bd Tryd.func34 Tryd.ntmps34 fun σ N hp hpn hk hkn hfree => ?_
   have hcs := And.intro c1 (And.intro (t1 (N + 17 + 2)) (And.intro (n1 (N + 17 + 2)) (And.intro (n2 (N + 17 + 2)) True.intro)))
   clear c1 t1 n1 n2
   refine Wk ?_
   exact WD
 ·rw [if_pos he]
  have h1i : ((e : Int) != 0) = true := by simp; omega
  simp only [te0_eq]
  refine Bd Tryd.func34 Tryd.ntmps34 fun σ N hp hpn hk hkn hfree => ?_
  have hcs := And.intro c1 True.intro
  clear c1
  refine Wk ?_
  exact WD
def plainT (k : Tg) (t : Te) : List UInt8 := k.1 ++ (leb t.least.toNat ++ leb t.most.toNat)
omit W in
theorem plainT_len (k : Tg) (t : Te) (h : teB t = true) : (plainT k t).length ≤ 50 := by
 obtain ⟨h1, h2, h3⟩ := teB_iff.1 h
 have a := leb_len t.least.toNat 7 (by omega)
 have b := leb_len t.most.toNat 7 (by omega)
 simp [plainT, k.2]; omega
def blankS (a : Alg) (c : Co) (t : Te) : Alg × Bl × Nat :=
 if teB t = false ∨ c.party < 0 ∨ 7 < c.party then (alg0, bl0, 1) else
 if (keyS a).2.2 = 0 then
  if (sealS (keyS a).1 c.key (keyS a).1.fresh (plainT (keyS a).2.1 t)).2.2 = 0 then ((sealS (keyS a).1 c.key (keyS a).1.fresh (plainT (keyS a).2.1 t)).1, ⟨c.party, (keyS a).2.1, (sealS (keyS a).1 c.key (keyS a).1.fresh (plainT (keyS a).2.1 t)).2.1⟩, 0)
  else (alg0, bl0, (sealS (keyS a).1 c.key (keyS a).1.fresh (plainT (keyS a).2.1 t)).2.2)
 else (alg0, bl0, (keyS a).2.2)
def mlAV (r : Alg × Bl × Nat) : AV := .tup [algAV r.1, blAV r.2.1, .lit (.int .i64 (r.2.2 : Nat))]
theorem blankS_in {a : Alg} {m : Nat} (h : AlgIn a m) (c : Co) (t : Te) : AlgIn (blankS a c t).1 (m + 2) := by
 unfold blankS
 split
 ·exact alg0_in _
 ·split
  ·split
   ·exact sealS_in (keyS_in h) _ _ _
   ·exact alg0_in _
  ·exact alg0_in _
set_option maxHeartbeats 1000000 in
theorem refBlank_spec (a : Alg) (m : Nat) (ha : AlgIn a m) (hm : m ≤ 900000) (c : Co) (t : Te) (k : Nat) :
  ACall Tryd.prog 25 [algAV a, concAV c, teAV t] k [] (mlAV (blankS a c t)) [] := by
 have c1 := refTerms_spec t
 have c2 := Key_spec a ha.f0
 have hin := keyS_in ha
 have hpl := plainT_len (keyS a).2.1 t
 unfold blankS
 unfold mlAV
 generalize hX : keyS a = X at *
 obtain ⟨a1, kt, e1'⟩ := X
 unfold mkAV at c2
 simp only at c2 hin hpl ⊢
 clear ha hX
 cases ht : teB t with
 | false =>
  rw [if_pos (.inl rfl)]
  rw [ht] at c1
  simp only [alg0_eq, bl0_eq]
  clear c2
  refine Bd Tryd.func25 Tryd.ntmps25 fun σ N hp hpn hk hkn hfree => ?_
  have hcs := And.intro c1 True.intro
  clear c1
  refine Wk ?_
  exact WD
 | true =>
  rw [ht] at c1
  have hpl := hpl ht
  have ht0 := teB_iff.1 ht
  obtain ⟨pa, ck, ps⟩ := c
  simp only
  by_cases hp1 : pa < 0
  ·rw [if_pos (.inr (.inl hp1))]
   simp only [alg0_eq, bl0_eq]
   clear c2
   refine Bd Tryd.func25 Tryd.ntmps25 fun σ N hp hpn hk hkn hfree => ?_
   have hcs := And.intro c1 True.intro
   clear c1
   refine Wk ?_
   exact WD
  ·by_cases hp2 : 7 < pa
   ·rw [if_pos (.inr (.inr hp2))]
    simp only [alg0_eq, bl0_eq]
    clear c2
    refine Bd Tryd.func25 Tryd.ntmps25 fun σ N hp hpn hk hkn hfree => ?_
    have hcs := And.intro c1 True.intro
    clear c1
    refine Wk ?_
    exact WD
   ·rw [if_neg (by rintro (h | h | h); · cases h
                   ·exact hp1 h
                   ·exact hp2 h)]
    by_cases h1 : e1' = 0
    ·subst h1
     rw [if_pos rfl]
     have c5 := Seal_spec a1 ck a1.fresh (plainT kt t) (by have := hin.bl; omega) hin.bm
     obtain ⟨x, y⟩ := t
     simp only at ht0
     obtain ⟨q1, q2, q3⟩ := ht0
     obtain ⟨x, rfl⟩ := Int.eq_ofNat_of_zero_le q1
     obtain ⟨y, rfl⟩ := Int.eq_ofNat_of_zero_le (show 0 ≤ y by omega)
     have c3 := fun k => Number_spec_f x k (by omega)
     have c4 := fun k => Number_spec_f y k (by omega)
     have hl1 := leb_len x 7 (by omega)
     have hl2 := leb_len y 7 (by omega)
     unfold skAV at c5
     obtain ⟨pl, hplE⟩ : ∃ pl, plainT kt ⟨(x : Nat), (y : Nat)⟩ = pl := ⟨_, rfl⟩
     have hplm : (kt.1.map byteAV ++ (leb x).map byteAV) ++ (leb y).map byteAV = pl.map byteAV := by
      rw [← hplE]; simp [plainT]
     have hpll : pl.length = 32 + ((leb x).length + (leb y).length) := by rw [← hplE]; simp [plainT, kt.2]
     rw [hplE] at c5 ⊢
     generalize sealS a1 ck a1.fresh pl = Z at *
     obtain ⟨a2, b2, e2'⟩ := Z
     simp only at c5 ⊢
     generalize leb x = lx at *
     generalize leb y = ly at *
     have hs1 := tagAV_sz kt
     have hs2 := tagAV_cell kt
     obtain ⟨K, hK⟩ := kt
     have hkA : tagAV ⟨K, hK⟩ = .agg (K.map byteAV) := rfl
     simp only [hkA] at hs1 hs2 c2 hplm ⊢
     clear hplE hin hpl ht
     have hs3 : AV.celll (K.map byteAV) = true := celll_bytes K
     have htk : (K.map byteAV).take 32 = K.map byteAV := List.take_of_length_le (by rw [List.length_map]; omega)
     unfold teAV at *
     simp only at c1
     have haA : algAV a1 = .agg [.lit (.bool a1.free), tagAV a1.seed, .lit (.int .i64 a1.fresh), .slice none (a1.macs.map macAV), .slice none (a1.boxes.map sealAV)] := rfl
     by_cases h2 : e2' = 0
     ·subst h2
      rw [if_pos rfl]
      unfold blAV
      simp only [hkA]
      clear hkA
      refine Bd Tryd.func25 Tryd.ntmps25 fun σ N hp hpn hk hkn hfree => ?_
      have hcs := And.intro c1 (And.intro c2 (And.intro c3 (And.intro c4 (And.intro c5 True.intro))))
      clear c1 c2 c3 c4 c5
      refine Wk ?_
      exact WD
     ·rw [if_neg h2]
      have h2i : ((e2' : Int) != 0) = true := by simp; omega
      simp only [alg0_eq, bl0_eq]
      clear hkA
      refine Bd Tryd.func25 Tryd.ntmps25 fun σ N hp hpn hk hkn hfree => ?_
      have hcs := And.intro c1 (And.intro c2 (And.intro c3 (And.intro c4 (And.intro c5 True.intro))))
      clear c1 c2 c3 c4 c5
      refine Wk ?_
      exact WD
    ·rw [if_neg h1]
     have h1i : ((e1' : Int) != 0) = true := by simp; omega
     simp only [alg0_eq, bl0_eq]
     refine Bd Tryd.func25 Tryd.ntmps25 fun σ N hp hpn hk hkn hfree => ?_
     have hcs := And.intro c1 (And.intro c2 True.intro)
     clear c1 c2
     refine Wk ?_
     exact WD
end

theorem Wst {p q : Prop} (h : q) (h2 : Later q → p := by intro hq; (repeat (first | (apply go_mut; (· assumption); · (simp (disch := omega) [go_sem, *, -List.reduceReplicate]; first | exact ⟨rfl, rfl⟩ | (simp [go_sem, *]; exact ⟨rfl, rfl⟩))) | (apply go_mutP; (· assumption); · (simp (disch := omega) [go_sem, *, -List.reduceReplicate]; try first | rfl | exact ⟨rfl, rfl⟩ | exact ⟨rfl, rfl, rfl⟩)) | (apply go_guard_in; (· rfl); · (simp (disch := omega) [go_sem, *, -List.reduceReplicate]; try first | rfl | omega)) | (apply go_guard_off; (· rfl); · (simp (disch := omega) [go_sem, *, -List.reduceReplicate]; try first | rfl | omega)) | (apply go_guard_no; (· rfl); · (simp (disch := omega) [go_sem, *, -List.reduceReplicate]; try rfl)) | ((first | apply go_move | apply go_assign | apply go_load | apply go_store | apply go_append | apply go_copy | apply go_copy0 | apply go_clear0 | apply go_slice3 | apply go_indexA); · (simp (disch := omega) [go_sem, *, -List.reduceReplicate]; try first | rfl | exact ⟨rfl, rfl⟩ | exact ⟨rfl, rfl, rfl⟩)) | ((first | apply go_loadv | apply go_append0 | apply go_beyond); · (simp (disch := omega) [go_sem, *, -List.reduceReplicate]; try first | rfl | exact ⟨rfl, rfl⟩ | exact ⟨rfl, rfl, rfl⟩)) | (apply go_appself; · (simp (disch := omega) [go_sem, *, -List.reduceReplicate]; try first | rfl | exact ⟨rfl, rfl⟩ | exact ⟨rfl, rfl, rfl⟩)) | ((first | (apply go_appendz; · rfl) | (apply go_new; · rfl) | (apply go_pure; · rfl)); · (simp (disch := omega) [go_sem, *, -List.reduceReplicate]; try first | rfl | exact ⟨rfl, rfl⟩ | exact ⟨rfl, rfl, rfl⟩)) | ((apply go_glob; · assumption); · (simp (disch := omega) [go_sem, *, -List.reduceReplicate]; try first | rfl | exact ⟨rfl, rfl⟩ | exact ⟨rfl, rfl, rfl⟩)) | (apply go_read1; (· rfl); · (simp (disch := omega) [go_sem, *, -List.reduceReplicate]; try first | rfl | exact ⟨rfl, rfl⟩ | exact ⟨rfl, rfl, rfl⟩)) | (apply go_rw1; (· rfl); · (simp (disch := omega) [go_sem, *, -List.reduceReplicate]; try first | rfl | exact ⟨rfl, rfl⟩ | exact ⟨rfl, rfl, rfl⟩)) | (apply go_new1; (· rfl); · (simp (disch := omega) [go_sem, *, -List.reduceReplicate]; try first | rfl | exact ⟨rfl, rfl⟩ | exact ⟨rfl, rfl, rfl⟩)) | (apply go_conv; · (simp (disch := omega) [go_sem, *, -List.reduceReplicate]; try first | rfl | exact ⟨rfl, rfl⟩ | exact ⟨rfl, rfl, rfl⟩)) | ((first | (apply go_new; · rfl) | (apply go_pure; · rfl)); · (simp (disch := omega) [go_sem, *, -List.reduceReplicate]; simp [go_sem, *]; try first | rfl | exact ⟨rfl, rfl⟩)))); exact hq.out) : p := h2 ⟨h⟩
theorem Wgs {p q : Prop} (h : q) (h2 : Later q → p := by intro hq; (repeat (first | apply go_nil | apply go_kreg | (apply go_mut; (· assumption); · (simp (disch := omega) [go_sem, *, -List.reduceReplicate]; first | exact ⟨rfl, rfl⟩ | (simp [go_sem, *]; exact ⟨rfl, rfl⟩))) | (apply go_mutP; (· assumption); · (simp (disch := omega) [go_sem, *, -List.reduceReplicate]; try first | rfl | exact ⟨rfl, rfl⟩ | exact ⟨rfl, rfl, rfl⟩)) | (apply go_guard_in; (· rfl); · (simp (disch := omega) [go_sem, *, -List.reduceReplicate]; try first | rfl | omega)) | (apply go_guard_off; (· rfl); · (simp (disch := omega) [go_sem, *, -List.reduceReplicate]; try first | rfl | omega)) | (apply go_guard_no; (· rfl); · (simp (disch := omega) [go_sem, *, -List.reduceReplicate]; try rfl)) | ((first | apply go_move | apply go_assign | apply go_load | apply go_store | apply go_append | apply go_copy | apply go_copy0 | apply go_clear0 | apply go_slice3 | apply go_indexA); · (simp (disch := omega) [go_sem, *, -List.reduceReplicate]; try first | rfl | exact ⟨rfl, rfl⟩ | exact ⟨rfl, rfl, rfl⟩)) | ((first | apply go_loadv | apply go_append0 | apply go_beyond); · (simp (disch := omega) [go_sem, *, -List.reduceReplicate]; try first | rfl | exact ⟨rfl, rfl⟩ | exact ⟨rfl, rfl, rfl⟩)) | (apply go_appself; · (simp (disch := omega) [go_sem, *, -List.reduceReplicate]; try first | rfl | exact ⟨rfl, rfl⟩ | exact ⟨rfl, rfl, rfl⟩)) | ((first | (apply go_appendz; · rfl) | (apply go_new; · rfl) | (apply go_pure; · rfl)); · (simp (disch := omega) [go_sem, *, -List.reduceReplicate]; try first | rfl | exact ⟨rfl, rfl⟩ | exact ⟨rfl, rfl, rfl⟩)) | ((apply go_glob; · assumption); · (simp (disch := omega) [go_sem, *, -List.reduceReplicate]; try first | rfl | exact ⟨rfl, rfl⟩ | exact ⟨rfl, rfl, rfl⟩)) | (apply go_read1; (· rfl); · (simp (disch := omega) [go_sem, *, -List.reduceReplicate]; try first | rfl | exact ⟨rfl, rfl⟩ | exact ⟨rfl, rfl, rfl⟩)) | (apply go_rw1; (· rfl); · (simp (disch := omega) [go_sem, *, -List.reduceReplicate]; try first | rfl | exact ⟨rfl, rfl⟩ | exact ⟨rfl, rfl, rfl⟩)) | (apply go_new1; (· rfl); · (simp (disch := omega) [go_sem, *, -List.reduceReplicate]; try first | rfl | exact ⟨rfl, rfl⟩ | exact ⟨rfl, rfl, rfl⟩)) | (apply go_conv; · (simp (disch := omega) [go_sem, *, -List.reduceReplicate]; try first | rfl | exact ⟨rfl, rfl⟩ | exact ⟨rfl, rfl, rfl⟩)) | ((first | (apply go_new; · rfl) | (apply go_pure; · rfl)); · (simp (disch := omega) [go_sem, *, -List.reduceReplicate]; simp [go_sem, *]; try first | rfl | exact ⟨rfl, rfl⟩)))); exact hq.out) : p := h2 ⟨h⟩
theorem Wpp {p q : Prop} (h : q) (h2 : Later q → p := by intro hq; (repeat (first | apply goP_seq | apply goP_block | apply goP_scope | apply goP_skip | apply goP_ret | (apply goP_region; · (simp only [List.length_cons, List.length_nil, Nat.reduceAdd, Nat.add_assoc]; rfl)) | apply go_nil | apply go_kreg | apply go_kreg0 | apply go_kreg1 | (apply go_kregT; · (first | (simp [addT, CF, CFy, Ind, DisjF]; done) | (simp only [addT, CF, CFy, Ind]; repeat' (first | exact trivial | apply And.intro | exact Or.inl (by decide +kernel) | (refine Or.inr ⟨?_, ?_⟩ <;> (simp; try omega)))))) | apply go_then | apply go_then_exit | apply go_then_ret | apply go_blk | apply go_blk_ret | apply go_blk_here | (apply go_blk_there; · rfl) | (apply go_ifNilT; (· (kernel_rfl)); (· (simp (disch := omega) [go_sem, *, -List.reduceReplicate]; first | done | rfl))) | (apply go_ifNilF; (· (kernel_rfl)); (· (first | rfl | (simp (disch := omega) [go_sem, *, -List.reduceReplicate]; first | done | rfl | exact ⟨rfl, rfl⟩)))) | (apply go_mut; (· assumption); · (simp (disch := omega) [go_sem, *, -List.reduceReplicate]; first | exact ⟨rfl, rfl⟩ | (simp [go_sem, *]; exact ⟨rfl, rfl⟩))) | (apply go_mutP; (· assumption); · (simp (disch := omega) [go_sem, *, -List.reduceReplicate]; try first | rfl | exact ⟨rfl, rfl⟩ | exact ⟨rfl, rfl, rfl⟩)) | (apply go_guard_in; (· rfl); · (simp (disch := omega) [go_sem, *, -List.reduceReplicate]; try first | rfl | omega)) | (apply go_guard_off; (· rfl); · (simp (disch := omega) [go_sem, *, -List.reduceReplicate]; try first | rfl | omega)) | (apply go_guard_no; (· rfl); · (simp (disch := omega) [go_sem, *, -List.reduceReplicate]; try rfl)) | ((first | apply go_move | apply go_assign | apply go_load | apply go_store | apply go_append | apply go_copy | apply go_copy0 | apply go_clear0 | apply go_slice3 | apply go_indexA); · (simp (disch := omega) [go_sem, *, -List.reduceReplicate]; try first | rfl | exact ⟨rfl, rfl⟩ | exact ⟨rfl, rfl, rfl⟩)) | ((first | apply go_loadv | apply go_append0 | apply go_beyond); · (simp (disch := omega) [go_sem, *, -List.reduceReplicate]; try first | rfl | exact ⟨rfl, rfl⟩ | exact ⟨rfl, rfl, rfl⟩)) | (apply go_appself; · (simp (disch := omega) [go_sem, *, -List.reduceReplicate]; try first | rfl | exact ⟨rfl, rfl⟩ | exact ⟨rfl, rfl, rfl⟩)) | ((first | (apply go_appendz; · rfl) | (apply go_new; · rfl) | (apply go_pure; · rfl)); · (simp (disch := omega) [go_sem, *, -List.reduceReplicate]; try first | rfl | exact ⟨rfl, rfl⟩ | exact ⟨rfl, rfl, rfl⟩)) | ((apply go_glob; · assumption); · (simp (disch := omega) [go_sem, *, -List.reduceReplicate]; try first | rfl | exact ⟨rfl, rfl⟩ | exact ⟨rfl, rfl, rfl⟩)) | (apply go_read1; (· rfl); · (simp (disch := omega) [go_sem, *, -List.reduceReplicate]; try first | rfl | exact ⟨rfl, rfl⟩ | exact ⟨rfl, rfl, rfl⟩)) | (apply go_rw1; (· rfl); · (simp (disch := omega) [go_sem, *, -List.reduceReplicate]; try first | rfl | exact ⟨rfl, rfl⟩ | exact ⟨rfl, rfl, rfl⟩)) | (apply go_new1; (· rfl); · (simp (disch := omega) [go_sem, *, -List.reduceReplicate]; try first | rfl | exact ⟨rfl, rfl⟩ | exact ⟨rfl, rfl, rfl⟩)) | (apply go_conv; · (simp (disch := omega) [go_sem, *, -List.reduceReplicate]; try first | rfl | exact ⟨rfl, rfl⟩ | exact ⟨rfl, rfl, rfl⟩)) | ((first | (apply go_new; · rfl) | (apply go_pure; · rfl)); · (simp (disch := omega) [go_sem, *, -List.reduceReplicate]; simp [go_sem, *]; try first | rfl | exact ⟨rfl, rfl⟩)) | (apply goP_condT; · (simp (disch := omega) [go_sem, *, -List.reduceReplicate]; try first | rfl | omega; done)) | (apply goP_condF; · (simp (disch := omega) [go_sem, *, -List.reduceReplicate]; try first | rfl | omega; done)) | (obtain ⟨hcall, hcs⟩ := hcs; (first | refine go_callw (hcall _) (by simp (disch := omega) [go_sem, *, -List.reduceReplicate]; try rfl) (by simp (disch := omega) [go_sem, *, -List.reduceReplicate]; repeat' first | exact ALe.nil | exact AV.le_refl _ | exact AV.le_nils | exact AV.le_own _ _ | apply ALe.cons | apply AV.sub_agg) (by simp (disch := omega) [go_sem, *, -List.reduceReplicate]) ?_ | refine go_yieldw (hcall _) (by simp (disch := omega) [go_sem, *, -List.reduceReplicate]; try rfl) (by simp (disch := omega) [go_sem, *, -List.reduceReplicate]; repeat' first | exact ALe.nil | exact AV.le_refl _ | exact AV.le_nils | exact AV.le_own _ _ | apply ALe.cons | apply AV.sub_agg) (by simp (disch := omega) [go_sem, *, -List.reduceReplicate]) ?_); clear hcall))); exact hq.out) : p := h2 ⟨h⟩
theorem Wpm {p q : Prop} (h : q) (h2 : Later q → p := by intro hq; (repeat (first | apply goP_seq | apply goP_block | apply goP_scope | apply goP_skip | apply goP_ret | apply go_nil | apply go_kreg | apply go_kreg0 | apply go_kreg1 | (apply go_kregT; · (first | (simp [addT, CF, CFy, Ind, DisjF]; done) | (simp only [addT, CF, CFy, Ind]; repeat' (first | exact trivial | apply And.intro | exact Or.inl (by decide +kernel) | (refine Or.inr ⟨?_, ?_⟩ <;> (simp; try omega)))))) | apply go_then | apply go_then_exit | apply go_then_ret | apply go_blk | apply go_blk_ret | apply go_blk_here | (apply go_blk_there; · rfl) | (apply go_mut; (· assumption); · (simp (disch := omega) [go_sem, *, -List.reduceReplicate]; first | exact ⟨rfl, rfl⟩ | (simp [go_sem, *]; exact ⟨rfl, rfl⟩))) | (apply go_mutP; (· assumption); · (simp (disch := omega) [go_sem, *, -List.reduceReplicate]; try first | rfl | exact ⟨rfl, rfl⟩ | exact ⟨rfl, rfl, rfl⟩)) | (apply go_guard_in; (· rfl); · (simp (disch := omega) [go_sem, *, -List.reduceReplicate]; try first | rfl | omega)) | (apply go_guard_off; (· rfl); · (simp (disch := omega) [go_sem, *, -List.reduceReplicate]; try first | rfl | omega)) | (apply go_guard_no; (· rfl); · (simp (disch := omega) [go_sem, *, -List.reduceReplicate]; try rfl)) | ((first | apply go_move | apply go_assign | apply go_load | apply go_store | apply go_append | apply go_copy | apply go_copy0 | apply go_clear0 | apply go_slice3 | apply go_indexA); · (simp (disch := omega) [go_sem, *, -List.reduceReplicate]; try first | rfl | exact ⟨rfl, rfl⟩ | exact ⟨rfl, rfl, rfl⟩)) | ((first | apply go_loadv | apply go_append0 | apply go_beyond); · (simp (disch := omega) [go_sem, *, -List.reduceReplicate]; try first | rfl | exact ⟨rfl, rfl⟩ | exact ⟨rfl, rfl, rfl⟩)) | (apply go_appself; · (simp (disch := omega) [go_sem, *, -List.reduceReplicate]; try first | rfl | exact ⟨rfl, rfl⟩ | exact ⟨rfl, rfl, rfl⟩)) | ((first | (apply go_appendz; · rfl) | (apply go_new; · rfl) | (apply go_pure; · rfl)); · (simp (disch := omega) [go_sem, *, -List.reduceReplicate]; try first | rfl | exact ⟨rfl, rfl⟩ | exact ⟨rfl, rfl, rfl⟩)) | ((apply go_glob; · assumption); · (simp (disch := omega) [go_sem, *, -List.reduceReplicate]; try first | rfl | exact ⟨rfl, rfl⟩ | exact ⟨rfl, rfl, rfl⟩)) | (apply go_read1; (· rfl); · (simp (disch := omega) [go_sem, *, -List.reduceReplicate]; try first | rfl | exact ⟨rfl, rfl⟩ | exact ⟨rfl, rfl, rfl⟩)) | (apply go_rw1; (· rfl); · (simp (disch := omega) [go_sem, *, -List.reduceReplicate]; try first | rfl | exact ⟨rfl, rfl⟩ | exact ⟨rfl, rfl, rfl⟩)) | (apply go_new1; (· rfl); · (simp (disch := omega) [go_sem, *, -List.reduceReplicate]; try first | rfl | exact ⟨rfl, rfl⟩ | exact ⟨rfl, rfl, rfl⟩)) | (apply go_conv; · (simp (disch := omega) [go_sem, *, -List.reduceReplicate]; try first | rfl | exact ⟨rfl, rfl⟩ | exact ⟨rfl, rfl, rfl⟩)) | ((first | (apply go_new; · rfl) | (apply go_pure; · rfl)); · (simp (disch := omega) [go_sem, *, -List.reduceReplicate]; simp [go_sem, *]; try first | rfl | exact ⟨rfl, rfl⟩)) | (apply goP_condT; · (simp (disch := omega) [go_sem, *, -List.reduceReplicate]; try first | rfl | omega; done)) | (apply goP_condF; · (simp (disch := omega) [go_sem, *, -List.reduceReplicate]; try first | rfl | omega; done)) | (first | (apply go_yieldw (hcs.1 _); (focus (simp (disch := omega) [go_sem, *, -List.reduceReplicate]; (try rfl); done)); (focus (simp (disch := omega) [go_sem, *, -List.reduceReplicate]; (repeat' first | exact ALe.nil | exact AV.le_refl _ | exact AV.le_nils | exact AV.le_own _ _ | apply ALe.cons | apply AV.sub_agg); done)); (focus (simp (disch := omega) [go_sem, *, -List.reduceReplicate]; done)); have hcs := hcs.2) | (first | (apply go_callw (hcs.1 _); (focus (simp (disch := omega) [go_sem, *, -List.reduceReplicate]; (try rfl); done)); (focus (simp (disch := omega) [go_sem, *, -List.reduceReplicate]; (repeat' first | exact ALe.nil | exact AV.le_refl _ | exact AV.le_nils | exact AV.le_own _ _ | apply ALe.cons | apply AV.sub_agg); done)); (focus (simp (disch := omega) [go_sem, *, -List.reduceReplicate]; done)); have hcs := hcs.2) | (have hcs := hcs.2; (first | (apply go_callw (hcs.1 _); (focus (simp (disch := omega) [go_sem, *, -List.reduceReplicate]; (try rfl); done)); (focus (simp (disch := omega) [go_sem, *, -List.reduceReplicate]; (repeat' first | exact ALe.nil | exact AV.le_refl _ | exact AV.le_nils | exact AV.le_own _ _ | apply ALe.cons | apply AV.sub_agg); done)); (focus (simp (disch := omega) [go_sem, *, -List.reduceReplicate]; done)); have hcs := hcs.2) | (have hcs := hcs.2; (first | (apply go_callw (hcs.1 _); (focus (simp (disch := omega) [go_sem, *, -List.reduceReplicate]; (try rfl); done)); (focus (simp (disch := omega) [go_sem, *, -List.reduceReplicate]; (repeat' first | exact ALe.nil | exact AV.le_refl _ | exact AV.le_nils | exact AV.le_own _ _ | apply ALe.cons | apply AV.sub_agg); done)); (focus (simp (disch := omega) [go_sem, *, -List.reduceReplicate]; done)); have hcs := hcs.2) | (have hcs := hcs.2; (first | (apply go_callw (hcs.1 _); (focus (simp (disch := omega) [go_sem, *, -List.reduceReplicate]; (try rfl); done)); (focus (simp (disch := omega) [go_sem, *, -List.reduceReplicate]; (repeat' first | exact ALe.nil | exact AV.le_refl _ | exact AV.le_nils | exact AV.le_own _ _ | apply ALe.cons | apply AV.sub_agg); done)); (focus (simp (disch := omega) [go_sem, *, -List.reduceReplicate]; done)); have hcs := hcs.2) | (have hcs := hcs.2; (first | (apply go_callw (hcs.1 _); (focus (simp (disch := omega) [go_sem, *, -List.reduceReplicate]; (try rfl); done)); (focus (simp (disch := omega) [go_sem, *, -List.reduceReplicate]; (repeat' first | exact ALe.nil | exact AV.le_refl _ | exact AV.le_nils | exact AV.le_own _ _ | apply ALe.cons | apply AV.sub_agg); done)); (focus (simp (disch := omega) [go_sem, *, -List.reduceReplicate]; done)); have hcs := hcs.2) | (have hcs := hcs.2; (first | (apply go_callw (hcs.1 _); (focus (simp (disch := omega) [go_sem, *, -List.reduceReplicate]; (try rfl); done)); (focus (simp (disch := omega) [go_sem, *, -List.reduceReplicate]; (repeat' first | exact ALe.nil | exact AV.le_refl _ | exact AV.le_nils | exact AV.le_own _ _ | apply ALe.cons | apply AV.sub_agg); done)); (focus (simp (disch := omega) [go_sem, *, -List.reduceReplicate]; done)); have hcs := hcs.2) | (have hcs := hcs.2; (first | (apply go_callw (hcs.1 _); (focus (simp (disch := omega) [go_sem, *, -List.reduceReplicate]; (try rfl); done)); (focus (simp (disch := omega) [go_sem, *, -List.reduceReplicate]; (repeat' first | exact ALe.nil | exact AV.le_refl _ | exact AV.le_nils | exact AV.le_own _ _ | apply ALe.cons | apply AV.sub_agg); done)); (focus (simp (disch := omega) [go_sem, *, -List.reduceReplicate]; done)); have hcs := hcs.2) | (have hcs := hcs.2; (apply go_callw (hcs.1 _); (focus (simp (disch := omega) [go_sem, *, -List.reduceReplicate]; (try rfl); done)); (focus (simp (disch := omega) [go_sem, *, -List.reduceReplicate]; (repeat' first | exact ALe.nil | exact AV.le_refl _ | exact AV.le_nils | exact AV.le_own _ _ | apply ALe.cons | apply AV.sub_agg); done)); (focus (simp (disch := omega) [go_sem, *, -List.reduceReplicate]; done)); have hcs := hcs.2)))))))))))))))))); exact hq.out) : p := h2 ⟨h⟩
theorem Wpo {p q : Prop} (h : q) (h2 : Later q → p := by intro hq; (apply goP_region; · (simp only [List.length_cons, List.length_nil, Nat.reduceAdd, Nat.add_assoc]; rfl)); refine Wpm ?_; exact hq.out) : p := h2 ⟨h⟩
theorem pTerms_spec (t : Te) (k : Nat) : ACall Tryd.prog 27 [teAV t] k [] (.lit (.bool (teB t))) [] := by
 obtain ⟨x, y⟩ := t
 unfold teAV
 by_cases h1 : 0 ≤ x
 ·by_cases h2 : x ≤ y
  ·by_cases h3 : y ≤ 150
   ·have hr : teB ⟨x, y⟩ = true := by simp [teB, *]
    rw [hr]
    refine Bd Tryd.func27 Tryd.ntmps27 fun σ N hp hpn hk hkn hfree => ?_
    exact W0
   ·have hr : teB ⟨x, y⟩ = false := by simp [teB, *]
    rw [hr]
    refine Bd Tryd.func27 Tryd.ntmps27 fun σ N hp hpn hk hkn hfree => ?_
    exact W0
  ·have hr : teB ⟨x, y⟩ = false := by simp [teB, *]
   rw [hr]
   refine Bd Tryd.func27 Tryd.ntmps27 fun σ N hp hpn hk hkn hfree => ?_
   exact W0
 ·have hr : teB ⟨x, y⟩ = false := by simp [teB, *]
  rw [hr]
  refine Bd Tryd.func27 Tryd.ntmps27 fun σ N hp hpn hk hkn hfree => ?_
  exact W0
theorem number_ok (b : List UInt8) (hb : b.length ≤ 100000) (n u : Nat) (h : rdS b = (n, u, 0)) (k : Nat) :
  ACall Tryd.prog 101 [.slice none (b.map byteAV)] k [] (.tup [.lit (.int .i64 n), .slice none ((b.drop u).map byteAV)]) [] := by
 have c1 := Read_spec b (by omega)
 have hu := rdS_le b
 rw [h] at c1 hu
 unfold rdAV at c1
 simp only at c1 hu
 have hD : (b.map byteAV).drop u = (b.drop u).map byteAV := by rw [List.map_drop]
 obtain ⟨y, hy⟩ : ∃ y, b.drop u = y := ⟨_, rfl⟩
 rw [hy] at hD ⊢
 clear h hy
 refine Bd Tryd.func101 Tryd.ntmps101 fun σ N hp hpn hk hkn hfree => ?_
 have hcs := And.intro c1 True.intro
 clear c1
 exact W0
def malE (r : Bool) : List PanicEntry := [{ v := .iface 156 (.agg #[]), recovered := r }]
theorem number_bad (b : List UInt8) (hb : b.length ≤ 100000) (h : (rdS b).2.2 ≠ 0) (k : Nat) :
  APanic Tryd.prog 101 [.slice none (b.map byteAV)] k (malE false) := by
 have c1 := Read_spec b (by omega)
 unfold rdAV at c1
 generalize rdS b = X at *
 obtain ⟨n, u, e⟩ := X
 simp only at c1 h
 have hei : ((e : Int) != 0) = true := by simp; omega
 refine APanic.of_body mixed Tryd.func101 rfl (by kernel_rfl) Tryd.ntmps101 (by kernel_rfl) (by simp) fun σ N hk hkn hfree => ?_
 have hcs := And.intro c1 True.intro
 clear c1
 refine Wpm ?_
 iterate 3 (refine Wpo ?_)
 refine goP_panic (T := 156) (l1 := [_, _]) (l2 := []) rfl ?_
 refine Wst ?_
 apply go_nil
 refine ⟨by simp (disch := omega) [go_sem, *, -List.reduceReplicate], rfl, fun id hid => ?_⟩
 simp (disch := omega) only [wr_nil]
theorem read1_ret (i j q : Nat) : ADef Tryd.prog 100 [.ptr i [] 0, .ptr j [] 0, .ptr q [] 0] .returning .returning [] [] := by
 refine ADef.of_recover (.lit .nilIface) mixed Tryd.func100 rfl (by kernel_rfl) Tryd.ntmps100 (by kernel_rfl) (by decide) rfl (by simp) (by simp) (.inl ⟨rfl, rfl, rfl⟩) fun σ N hp hpn hfree => ?_
 refine Wpp ?_
 refine ⟨trivial, fun id hid => ?_⟩
 simp (disch := omega) only [wr_nil]
theorem read1_mal (T1 : Tg) (t1 : Te) (z1 : Int) (i j q : Nat) (hij : i ≠ j) (hiq : i ≠ q) (hjq : j ≠ q) : ADef Tryd.prog 100 [.ptr i [] 0, .ptr j [] 0, .ptr q [] 0] (.panicking (malE false)) (.panicking (malE true))
  [(i, .box 24 (tagAV T1)), (j, .box 61 (teAV t1)), (q, .box 35 (.lit (.int .i64 z1)))] [(i, .box 24 (tagAV zeroTag)), (j, .box 61 (teAV te0)), (q, .box 35 (.lit (.int .i64 5)))] := by
 obtain ⟨ta, tb⟩ := t1
 unfold teAV
 simp only [te0]
 refine ADef.of_recover (.iface 156 (.agg [])) mixed Tryd.func100 rfl (by kernel_rfl) Tryd.ntmps100 (by kernel_rfl) (by decide) rfl (by simp) (by simp) (.inr ⟨_, rfl, rfl, rfl⟩) fun σ N hp hpn hfree => ?_
 simp only [List.mem_cons, List.not_mem_nil, or_false, forall_eq_or_imp, forall_eq] at hp hpn; obtain ⟨hd1, hd2, hd3⟩ := hp; obtain ⟨hdn1, hdn2, hdn3⟩ := hpn
 refine Wpp ?_
 refine ⟨trivial, fun id hid => ?_⟩
 simp only [wr_cons, wr_nil]
 by_cases h1 : id = q
 ·subst h1; simp (disch := omega) only [upd_same]
 by_cases h2 : id = j
 ·subst h2; simp (disch := omega) only [upd_same, upd_ne]
 by_cases h3 : id = i
 ·subst h3; simp (disch := omega) only [upd_same, upd_ne]
 simp (disch := omega) only [upd_ne]
theorem read_short (b : List UInt8) (hb : b.length ≤ 100000) (h : ¬ 32 ≤ b.length) (k : Nat) :
  ACall Tryd.prog 66 [.slice none (b.map byteAV)] k [] (.tup [tagAV zeroTag, teAV te0, .lit (.int .i64 5)]) [] := by
 have hi : (b.length : Int) < 32 := by omega
 refine ACall.of_bodyD (l := [_]) mixed Tryd.func66 rfl (by kernel_rfl) Tryd.ntmps66 (by kernel_rfl) (by kernel_rfl) rfl (by kernel_rfl) rfl (by simp) (by simp) (by simp) fun σ N hp hpn hk hkn hfree => ?_
 (apply goP_region; (· (simp only [List.length_cons, List.length_nil, Nat.reduceAdd]; rfl)))
 refine Wgs ?_
 refine ⟨rfl, ?_⟩
 refine Wst ?_
 apply go_nil
 refine ⟨_, _, rfl, ?_⟩
 refine Wpm ?_
 refine Wpo ?_
 refine goP_panic (T := 156) (l1 := [_, _]) (l2 := []) rfl ?_
 refine Wst ?_
 apply go_nil
 refine ⟨by simp (disch := omega) [go_sem, *, -List.reduceReplicate], ?_⟩
 refine ⟨malE true, _, _, ?_, rfl, read1_mal zeroTag ⟨0, 0⟩ 0 N (N + 1) (N + 2) (by omega) (by omega) (by omega), fun σ' n' hag => ?_⟩
 ·intro p hp
  simp only [List.mem_cons, List.not_mem_nil, or_false] at hp
  rcases hp with rfl | rfl | rfl <;> (simp only [teAV]; simp (disch := omega) [go_sem, *, -List.reduceReplicate])
 ·have q1 : σ' N = .box 24 (tagAV zeroTag) := (hag N (by simp only; omega)).trans (by simp (disch := omega) only [wr_cons, wr_nil, upd_same, upd_ne])
  have q2 : σ' (N + 1) = .box 61 (teAV te0) := (hag (N + 1) (by simp only; omega)).trans (by simp (disch := omega) only [wr_cons, wr_nil, upd_same, upd_ne])
  have q3 : σ' (N + 2) = .box 35 (.lit (.int .i64 5)) := (hag (N + 2) (by simp only; omega)).trans (by simp (disch := omega) only [wr_cons, wr_nil, upd_same])
  have hlow : ∀ id, id < N → σ' id = σ id := fun id hid => (hag id (by simp only; omega)).trans (by simp (disch := omega) only [wr_cons, wr_nil, upd_ne])
  simp only [teAV, te0] at q2 ⊢
  refine ARet.of ?_
  exact go_result (by simp (disch := omega) [go_sem, *, -List.reduceReplicate]; rfl) (by simp (disch := omega) [go_sem]; try rfl) hlow
theorem read_bad1 (b : List UInt8) (hb : b.length ≤ 100000) (h : 32 ≤ b.length) (h1 : (rdS (b.drop 32)).2.2 ≠ 0) (k : Nat) :
  ACall Tryd.prog 66 [.slice none (b.map byteAV)] k [] (.tup [tagAV zeroTag, teAV te0, .lit (.int .i64 5)]) [] := by
 have hi : ¬ (b.length : Int) < 32 := by omega
 have hmin : Nat.min b.length 32 = 32 := Nat.min_eq_right h
 obtain ⟨T, hT⟩ : ∃ T : Tg, T = ⟨b.take 32, by rw [List.length_take]; omega⟩ := ⟨⟨b.take 32, by rw [List.length_take]; omega⟩, rfl⟩
 have hT1 : (b.map byteAV).take 32 = T.1.map byteAV := by rw [hT, List.map_take]
 have hD1 : (b.map byteAV).drop 32 = (b.drop 32).map byteAV := by rw [List.map_drop]
 have hDl : (b.drop 32).length = b.length - 32 := List.length_drop ..
 have c1 := number_bad (b.drop 32) (by omega) h1
 obtain ⟨y, hy⟩ : ∃ y, b.drop 32 = y := ⟨_, rfl⟩
 rw [hy] at hD1 hDl
 rw [hy] at c1
 clear h1 hy hT
 obtain ⟨T, hTl⟩ := T
 have hTA : tagAV ⟨T, hTl⟩ = .agg (T.map byteAV) := rfl
 have hs1 : (AV.agg (T.map byteAV)).sz = 32 := by simp only [AV.sz, szl_bytes]; exact hTl
 have hs2 : (AV.agg (T.map byteAV)).cell = true := celll_bytes T
 have hz32 : (zeroTag.val.map byteAV).drop 32 = [] := rfl
 simp only at hT1
 refine ACall.of_bodyD (l := [_]) mixed Tryd.func66 rfl (by kernel_rfl) Tryd.ntmps66 (by kernel_rfl) (by kernel_rfl) rfl (by kernel_rfl) rfl (by simp) (by simp) (by simp) fun σ N hp hpn hk hkn hfree => ?_
 (apply goP_region; (· (simp only [List.length_cons, List.length_nil, Nat.reduceAdd]; rfl)))
 refine Wgs ?_
 refine ⟨rfl, ?_⟩
 refine Wst ?_
 apply go_nil
 refine ⟨_, _, rfl, ?_⟩
 have M : Mut (N + 8) := ⟨⟩
 refine Wpm ?_
 iterate 3 (refine Wpo ?_)
 refine goP_callPanic (ch := malE false) (l1 := [_]) (l2 := [_, _, _, _, _, _]) rfl ?_
 refine Wst ?_
 apply go_nil
 refine ⟨⟨_, _, rfl, ?_⟩, ?_⟩
 ·refine Eq.mpr (congrArg (fun l => APanic Tryd.prog _ l _ _) ?_) (c1 _)
  simp (disch := omega) [go_sem, *, -List.reduceReplicate]
 ·refine ⟨malE true, _, _, ?_, rfl, read1_mal ⟨T, hTl⟩ ⟨0, 0⟩ 0 N (N + 1) (N + 2) (by omega) (by omega) (by omega), fun σ' n' hag => ?_⟩
  ·intro p hp
   simp only [List.mem_cons, List.not_mem_nil, or_false] at hp
   rcases hp with rfl | rfl | rfl <;> (simp only [teAV]; simp (disch := omega) [go_sem, *, -List.reduceReplicate])
  ·have q1 : σ' N = .box 24 (tagAV zeroTag) := (hag N (by simp only; omega)).trans (by simp (disch := omega) only [wr_cons, wr_nil, upd_same, upd_ne])
   have q2 : σ' (N + 1) = .box 61 (teAV te0) := (hag (N + 1) (by simp only; omega)).trans (by simp (disch := omega) only [wr_cons, wr_nil, upd_same, upd_ne])
   have q3 : σ' (N + 2) = .box 35 (.lit (.int .i64 5)) := (hag (N + 2) (by simp only; omega)).trans (by simp (disch := omega) only [wr_cons, wr_nil, upd_same])
   have hlow : ∀ id, id < N → σ' id = σ id := fun id hid => (hag id (by simp only; omega)).trans (by simp (disch := omega) only [wr_cons, wr_nil, upd_ne])
   simp only [teAV, te0] at q2 ⊢
   refine ARet.of ?_
   exact go_result (by simp (disch := omega) [go_sem, *, -List.reduceReplicate]; rfl) (by simp (disch := omega) [go_sem]; try rfl) hlow
theorem read_bad2 (b : List UInt8) (hb : b.length ≤ 100000) (h : 32 ≤ b.length) (n1 q1 : Nat) (h1 : rdS (b.drop 32) = (n1, q1, 0)) (h2 : (rdS ((b.drop 32).drop q1)).2.2 ≠ 0) (k : Nat) :
  ACall Tryd.prog 66 [.slice none (b.map byteAV)] k [] (.tup [tagAV zeroTag, teAV te0, .lit (.int .i64 5)]) [] := by
 have hi : ¬ (b.length : Int) < 32 := by omega
 have hmin : Nat.min b.length 32 = 32 := Nat.min_eq_right h
 obtain ⟨T, hT⟩ : ∃ T : Tg, T = ⟨b.take 32, by rw [List.length_take]; omega⟩ := ⟨⟨b.take 32, by rw [List.length_take]; omega⟩, rfl⟩
 have hT1 : (b.map byteAV).take 32 = T.1.map byteAV := by rw [hT, List.map_take]
 have hD1 : (b.map byteAV).drop 32 = (b.drop 32).map byteAV := by rw [List.map_drop]
 have hDl : (b.drop 32).length = b.length - 32 := List.length_drop ..
 have hle1 := rdS_le (b.drop 32)
 rw [h1] at hle1
 simp only at hle1
 have c1 := number_ok (b.drop 32) (by omega) n1 q1 h1
 obtain ⟨y2, hy2⟩ : ∃ z, (b.drop 32).drop q1 = z := ⟨_, rfl⟩
 have hy2l : y2.length ≤ b.length := by rw [← hy2, List.length_drop]; omega
 rw [hy2] at c1 h2
 have c2 := number_bad y2 (by omega) h2
 obtain ⟨y, hy⟩ : ∃ y, b.drop 32 = y := ⟨_, rfl⟩
 rw [hy] at hD1 hDl
 rw [hy] at c1
 clear h1 h2 hy hT hy2 hle1
 obtain ⟨T, hTl⟩ := T
 have hTA : tagAV ⟨T, hTl⟩ = .agg (T.map byteAV) := rfl
 have hs1 : (AV.agg (T.map byteAV)).sz = 32 := by simp only [AV.sz, szl_bytes]; exact hTl
 have hs2 : (AV.agg (T.map byteAV)).cell = true := celll_bytes T
 have hz32 : (zeroTag.val.map byteAV).drop 32 = [] := rfl
 simp only at hT1
 have hcs := And.intro c1 True.intro
 clear c1
 refine ACall.of_bodyD (l := [_]) mixed Tryd.func66 rfl (by kernel_rfl) Tryd.ntmps66 (by kernel_rfl) (by kernel_rfl) rfl (by kernel_rfl) rfl (by simp) (by simp) (by simp) fun σ N hp hpn hk hkn hfree => ?_
 (apply goP_region; (· (simp only [List.length_cons, List.length_nil, Nat.reduceAdd]; rfl)))
 refine Wgs ?_
 refine ⟨rfl, ?_⟩
 refine Wst ?_
 apply go_nil
 refine ⟨_, _, rfl, ?_⟩
 have M : Mut (N + 8) := ⟨⟩
 refine Wpm ?_
 iterate 4 (refine Wpo ?_)
 refine goP_callPanic (ch := malE false) (l1 := [_]) (l2 := [_, _, _, _, _, _]) rfl ?_
 refine Wst ?_
 apply go_nil
 refine ⟨⟨_, _, rfl, ?_⟩, ?_⟩
 ·refine Eq.mpr (congrArg (fun l => APanic Tryd.prog _ l _ _) ?_) (c2 _)
  simp (disch := omega) [go_sem, *, -List.reduceReplicate]
 ·refine ⟨malE true, _, _, ?_, rfl, read1_mal ⟨T, hTl⟩ ⟨(n1 : Nat), 0⟩ 0 N (N + 1) (N + 2) (by omega) (by omega) (by omega), fun σ' n' hag => ?_⟩
  ·intro p hp
   simp only [List.mem_cons, List.not_mem_nil, or_false] at hp
   rcases hp with rfl | rfl | rfl <;> (simp only [teAV]; simp (disch := omega) [go_sem, *, -List.reduceReplicate])
  ·have q1 : σ' N = .box 24 (tagAV zeroTag) := (hag N (by simp only; omega)).trans (by simp (disch := omega) only [wr_cons, wr_nil, upd_same, upd_ne])
   have q2 : σ' (N + 1) = .box 61 (teAV te0) := (hag (N + 1) (by simp only; omega)).trans (by simp (disch := omega) only [wr_cons, wr_nil, upd_same, upd_ne])
   have q3 : σ' (N + 2) = .box 35 (.lit (.int .i64 5)) := (hag (N + 2) (by simp only; omega)).trans (by simp (disch := omega) only [wr_cons, wr_nil, upd_same])
   have hlow : ∀ id, id < N → σ' id = σ id := fun id hid => (hag id (by simp only; omega)).trans (by simp (disch := omega) only [wr_cons, wr_nil, upd_ne])
   simp only [teAV, te0] at q2 ⊢
   refine ARet.of ?_
   exact go_result (by simp (disch := omega) [go_sem, *, -List.reduceReplicate]; rfl) (by simp (disch := omega) [go_sem]; try rfl) hlow
theorem read_long (b : List UInt8) (hb : b.length ≤ 100000) (h : 32 ≤ b.length) (n1 q1 : Nat) (h1 : rdS (b.drop 32) = (n1, q1, 0)) (n2 q2 : Nat) (h2 : rdS ((b.drop 32).drop q1) = (n2, q2, 0)) (h3 : 0 < (((b.drop 32).drop q1).drop q2).length) (k : Nat) :
  ACall Tryd.prog 66 [.slice none (b.map byteAV)] k [] (.tup [tagAV zeroTag, teAV te0, .lit (.int .i64 5)]) [] := by
 have hi : ¬ (b.length : Int) < 32 := by omega
 have hmin : Nat.min b.length 32 = 32 := Nat.min_eq_right h
 obtain ⟨T, hT⟩ : ∃ T : Tg, T = ⟨b.take 32, by rw [List.length_take]; omega⟩ := ⟨⟨b.take 32, by rw [List.length_take]; omega⟩, rfl⟩
 have hT1 : (b.map byteAV).take 32 = T.1.map byteAV := by rw [hT, List.map_take]
 have hD1 : (b.map byteAV).drop 32 = (b.drop 32).map byteAV := by rw [List.map_drop]
 have hDl : (b.drop 32).length = b.length - 32 := List.length_drop ..
 have hle1 := rdS_le (b.drop 32)
 rw [h1] at hle1
 simp only at hle1
 have c1 := number_ok (b.drop 32) (by omega) n1 q1 h1
 obtain ⟨y2, hy2⟩ : ∃ z, (b.drop 32).drop q1 = z := ⟨_, rfl⟩
 have hy2l : y2.length ≤ b.length := by rw [← hy2, List.length_drop]; omega
 rw [hy2] at c1 h2
 have hle2 := rdS_le y2
 rw [h2] at hle2
 simp only at hle2
 have c2 := number_ok y2 (by omega) n2 q2 h2
 obtain ⟨z, hzz⟩ : ∃ z, y2.drop q2 = z := ⟨_, rfl⟩
 rw [hy2] at h3
 rw [hzz] at c2 h3
 obtain ⟨y, hy⟩ : ∃ y, b.drop 32 = y := ⟨_, rfl⟩
 rw [hy] at hD1 hDl
 rw [hy] at c1
 clear h1 h2 hy hT hy2 hle1 hzz hle2
 obtain ⟨T, hTl⟩ := T
 have hTA : tagAV ⟨T, hTl⟩ = .agg (T.map byteAV) := rfl
 have hs1 : (AV.agg (T.map byteAV)).sz = 32 := by simp only [AV.sz, szl_bytes]; exact hTl
 have hs2 : (AV.agg (T.map byteAV)).cell = true := celll_bytes T
 have hz32 : (zeroTag.val.map byteAV).drop 32 = [] := rfl
 simp only at hT1
 have h3i : (0 : Int) < (z.length : Int) := by omega
 have hcs := And.intro c1 (And.intro c2 True.intro)
 clear c1 c2
 refine ACall.of_bodyD (l := [_]) mixed Tryd.func66 rfl (by kernel_rfl) Tryd.ntmps66 (by kernel_rfl) (by kernel_rfl) rfl (by kernel_rfl) rfl (by simp) (by simp) (by simp) fun σ N hp hpn hk hkn hfree => ?_
 (apply goP_region; (· (simp only [List.length_cons, List.length_nil, Nat.reduceAdd]; rfl)))
 refine Wgs ?_
 refine ⟨rfl, ?_⟩
 refine Wst ?_
 apply go_nil
 refine ⟨_, _, rfl, ?_⟩
 have M : Mut (N + 8) := ⟨⟩
 refine Wpm ?_
 iterate 6 (refine Wpo ?_)
 refine goP_panic (T := 156) (l1 := [_, _]) (l2 := []) rfl ?_
 refine Wst ?_
 apply go_nil
 refine ⟨by simp (disch := omega) [go_sem, *, -List.reduceReplicate], ?_⟩
 refine ⟨malE true, _, _, ?_, rfl, read1_mal ⟨T, hTl⟩ ⟨(n1 : Nat), (n2 : Nat)⟩ 0 N (N + 1) (N + 2) (by omega) (by omega) (by omega), fun σ' n' hag => ?_⟩
 ·intro p hp
  simp only [List.mem_cons, List.not_mem_nil, or_false] at hp
  rcases hp with rfl | rfl | rfl <;> (simp only [teAV]; simp (disch := omega) [go_sem, *, -List.reduceReplicate])
 ·have q1 : σ' N = .box 24 (tagAV zeroTag) := (hag N (by simp only; omega)).trans (by simp (disch := omega) only [wr_cons, wr_nil, upd_same, upd_ne])
  have q2 : σ' (N + 1) = .box 61 (teAV te0) := (hag (N + 1) (by simp only; omega)).trans (by simp (disch := omega) only [wr_cons, wr_nil, upd_same, upd_ne])
  have q3 : σ' (N + 2) = .box 35 (.lit (.int .i64 5)) := (hag (N + 2) (by simp only; omega)).trans (by simp (disch := omega) only [wr_cons, wr_nil, upd_same])
  have hlow : ∀ id, id < N → σ' id = σ id := fun id hid => (hag id (by simp only; omega)).trans (by simp (disch := omega) only [wr_cons, wr_nil, upd_ne])
  simp only [teAV, te0] at q2 ⊢
  refine ARet.of ?_
  exact go_result (by simp (disch := omega) [go_sem, *, -List.reduceReplicate]; rfl) (by simp (disch := omega) [go_sem]; try rfl) hlow
theorem read_inv (b : List UInt8) (hb : b.length ≤ 100000) (h : 32 ≤ b.length) (n1 q1 : Nat) (h1 : rdS (b.drop 32) = (n1, q1, 0)) (n2 q2 : Nat) (h2 : rdS ((b.drop 32).drop q1) = (n2, q2, 0)) (h3 : ((b.drop 32).drop q1).drop q2 = []) (h4 : teB ⟨(n1 : Nat), (n2 : Nat)⟩ = false) (k : Nat) :
  ACall Tryd.prog 66 [.slice none (b.map byteAV)] k [] (.tup [tagAV zeroTag, teAV te0, .lit (.int .i64 5)]) [] := by
 have c3 := pTerms_spec ⟨(n1 : Nat), (n2 : Nat)⟩
 rw [h4] at c3
 unfold teAV at c3
 simp only at c3
 have hi : ¬ (b.length : Int) < 32 := by omega
 have hmin : Nat.min b.length 32 = 32 := Nat.min_eq_right h
 obtain ⟨T, hT⟩ : ∃ T : Tg, T = ⟨b.take 32, by rw [List.length_take]; omega⟩ := ⟨⟨b.take 32, by rw [List.length_take]; omega⟩, rfl⟩
 have hT1 : (b.map byteAV).take 32 = T.1.map byteAV := by rw [hT, List.map_take]
 have hD1 : (b.map byteAV).drop 32 = (b.drop 32).map byteAV := by rw [List.map_drop]
 have hDl : (b.drop 32).length = b.length - 32 := List.length_drop ..
 have hle1 := rdS_le (b.drop 32)
 rw [h1] at hle1
 simp only at hle1
 have c1 := number_ok (b.drop 32) (by omega) n1 q1 h1
 obtain ⟨y2, hy2⟩ : ∃ z, (b.drop 32).drop q1 = z := ⟨_, rfl⟩
 have hy2l : y2.length ≤ b.length := by rw [← hy2, List.length_drop]; omega
 rw [hy2] at c1 h2
 have hle2 := rdS_le y2
 rw [h2] at hle2
 simp only at hle2
 have c2 := number_ok y2 (by omega) n2 q2 h2
 obtain ⟨z, hzz⟩ : ∃ z, y2.drop q2 = z := ⟨_, rfl⟩
 rw [hy2] at h3
 rw [hzz] at c2 h3
 obtain ⟨y, hy⟩ : ∃ y, b.drop 32 = y := ⟨_, rfl⟩
 rw [hy] at hD1 hDl
 rw [hy] at c1
 clear h1 h2 hy hT hy2 hle1 hzz hle2
 obtain ⟨T, hTl⟩ := T
 have hTA : tagAV ⟨T, hTl⟩ = .agg (T.map byteAV) := rfl
 have hs1 : (AV.agg (T.map byteAV)).sz = 32 := by simp only [AV.sz, szl_bytes]; exact hTl
 have hs2 : (AV.agg (T.map byteAV)).cell = true := celll_bytes T
 have hz32 : (zeroTag.val.map byteAV).drop 32 = [] := rfl
 simp only at hT1
 subst h3
 have hcs := And.intro c1 (And.intro c2 (And.intro c3 True.intro))
 clear c1 c2 c3 h4
 refine ACall.of_bodyD (l := [_]) mixed Tryd.func66 rfl (by kernel_rfl) Tryd.ntmps66 (by kernel_rfl) (by kernel_rfl) rfl (by kernel_rfl) rfl (by simp) (by simp) (by simp) fun σ N hp hpn hk hkn hfree => ?_
 (apply goP_region; (· (simp only [List.length_cons, List.length_nil, Nat.reduceAdd]; rfl)))
 refine Wgs ?_
 refine ⟨rfl, ?_⟩
 refine Wst ?_
 apply go_nil
 refine ⟨_, _, rfl, ?_⟩
 have M : Mut (N + 8) := ⟨⟩
 refine Wpm ?_
 iterate 6 (refine Wpo ?_)
 refine goP_panic (T := 156) (l1 := [_, _]) (l2 := []) rfl ?_
 refine Wst ?_
 apply go_nil
 refine ⟨by simp (disch := omega) [go_sem, *, -List.reduceReplicate], ?_⟩
 refine ⟨malE true, _, _, ?_, rfl, read1_mal ⟨T, hTl⟩ ⟨(n1 : Nat), (n2 : Nat)⟩ 0 N (N + 1) (N + 2) (by omega) (by omega) (by omega), fun σ' n' hag => ?_⟩
 ·intro p hp
  simp only [List.mem_cons, List.not_mem_nil, or_false] at hp
  rcases hp with rfl | rfl | rfl <;> (simp only [teAV]; simp (disch := omega) [go_sem, *, -List.reduceReplicate])
 ·have q1 : σ' N = .box 24 (tagAV zeroTag) := (hag N (by simp only; omega)).trans (by simp (disch := omega) only [wr_cons, wr_nil, upd_same, upd_ne])
  have q2 : σ' (N + 1) = .box 61 (teAV te0) := (hag (N + 1) (by simp only; omega)).trans (by simp (disch := omega) only [wr_cons, wr_nil, upd_same, upd_ne])
  have q3 : σ' (N + 2) = .box 35 (.lit (.int .i64 5)) := (hag (N + 2) (by simp only; omega)).trans (by simp (disch := omega) only [wr_cons, wr_nil, upd_same])
  have hlow : ∀ id, id < N → σ' id = σ id := fun id hid => (hag id (by simp only; omega)).trans (by simp (disch := omega) only [wr_cons, wr_nil, upd_ne])
  simp only [teAV, te0] at q2 ⊢
  refine ARet.of ?_
  exact go_result (by simp (disch := omega) [go_sem, *, -List.reduceReplicate]; rfl) (by simp (disch := omega) [go_sem]; try rfl) hlow
theorem read_ok (b : List UInt8) (hb : b.length ≤ 100000) (h : 32 ≤ b.length) (n1 q1 : Nat) (h1 : rdS (b.drop 32) = (n1, q1, 0)) (n2 q2 : Nat) (h2 : rdS ((b.drop 32).drop q1) = (n2, q2, 0)) (h3 : ((b.drop 32).drop q1).drop q2 = []) (h4 : teB ⟨(n1 : Nat), (n2 : Nat)⟩ = true) (T : Tg) (hT0 : T.1 = b.take 32) (k : Nat) :
  ACall Tryd.prog 66 [.slice none (b.map byteAV)] k [] (.tup [tagAV T, teAV ⟨(n1 : Nat), (n2 : Nat)⟩, .lit (.int .i64 0)]) [] := by
 have c3 := pTerms_spec ⟨(n1 : Nat), (n2 : Nat)⟩
 rw [h4] at c3
 unfold teAV at *
 simp only at c3 ⊢
 have hi : ¬ (b.length : Int) < 32 := by omega
 have hmin : Nat.min b.length 32 = 32 := Nat.min_eq_right h
 have hT1 : (b.map byteAV).take 32 = T.1.map byteAV := by rw [hT0, List.map_take]
 have hD1 : (b.map byteAV).drop 32 = (b.drop 32).map byteAV := by rw [List.map_drop]
 have hDl : (b.drop 32).length = b.length - 32 := List.length_drop ..
 have hle1 := rdS_le (b.drop 32)
 rw [h1] at hle1
 simp only at hle1
 have c1 := number_ok (b.drop 32) (by omega) n1 q1 h1
 obtain ⟨y2, hy2⟩ : ∃ z, (b.drop 32).drop q1 = z := ⟨_, rfl⟩
 have hy2l : y2.length ≤ b.length := by rw [← hy2, List.length_drop]; omega
 rw [hy2] at c1 h2
 have hle2 := rdS_le y2
 rw [h2] at hle2
 simp only at hle2
 have c2 := number_ok y2 (by omega) n2 q2 h2
 obtain ⟨z, hzz⟩ : ∃ z, y2.drop q2 = z := ⟨_, rfl⟩
 rw [hy2] at h3
 rw [hzz] at c2 h3
 obtain ⟨y, hy⟩ : ∃ y, b.drop 32 = y := ⟨_, rfl⟩
 rw [hy] at hD1 hDl
 rw [hy] at c1
 clear h1 h2 hy hT0 hy2 hle1 hzz hle2
 obtain ⟨T, hTl⟩ := T
 have hTA : tagAV ⟨T, hTl⟩ = .agg (T.map byteAV) := rfl
 have hs1 : (AV.agg (T.map byteAV)).sz = 32 := by simp only [AV.sz, szl_bytes]; exact hTl
 have hs2 : (AV.agg (T.map byteAV)).cell = true := celll_bytes T
 have hz32 : (zeroTag.val.map byteAV).drop 32 = [] := rfl
 simp only at hT1
 rw [hTA]
 subst h3
 have hcs := And.intro c1 (And.intro c2 (And.intro c3 True.intro))
 clear c1 c2 c3 h4
 refine ACall.of_bodyD (l := [_]) mixed Tryd.func66 rfl (by kernel_rfl) Tryd.ntmps66 (by kernel_rfl) (by kernel_rfl) rfl (by kernel_rfl) rfl (by simp) (by simp) (by simp) fun σ N hp hpn hk hkn hfree => ?_
 (apply goP_region; (· (simp only [List.length_cons, List.length_nil, Nat.reduceAdd]; rfl)))
 refine Wgs ?_
 refine ⟨rfl, ?_⟩
 refine Wst ?_
 apply go_nil
 refine ⟨_, _, rfl, ?_⟩
 have M : Mut (N + 8) := ⟨⟩
 refine Wpm ?_
 iterate 7 (refine Wpo ?_)
 refine ⟨rfl, ⟨[], (fun p hp => by cases hp), read1_ret N (N + 1) (N + 2)⟩, fun σ' n' hag => ?_⟩
 have q1 : σ' N = .box 24 (.agg (T.map byteAV)) := (hag N (by simp only; omega)).trans (by simp (disch := omega) [go_sem, *, -List.reduceReplicate])
 have q2 : σ' (N + 1) = .box 61 (.agg [.lit (.int .i64 n1), .lit (.int .i64 n2)]) := (hag (N + 1) (by simp only; omega)).trans (by simp (disch := omega) [go_sem, *, -List.reduceReplicate])
 have q3 : σ' (N + 2) = .box 35 (.lit (.int .i64 0)) := (hag (N + 2) (by simp only; omega)).trans (by simp (disch := omega) [go_sem, *, -List.reduceReplicate])
 have hlow : ∀ id, id < N → σ' id = σ id := fun id hid => (hag id (by simp only; omega)).trans (by simp (disch := omega) only [wr_nil, upd_ne])
 refine ARet.of ?_
 exact go_result (by simp (disch := omega) [go_sem, *, -List.reduceReplicate]; rfl) (by simp (disch := omega) [go_sem]; try rfl) hlow
theorem read_spec (b : List UInt8) (hb : b.length ≤ 100000) (k : Nat) : ACall Tryd.prog 66 [.slice none (b.map byteAV)] k [] (moAV (readT b)) [] := by
 unfold readT moAV
 by_cases h : 32 ≤ b.length
 ·have ht := tagR_ok (b := b) (u := 0) (by omega)
  rw [ht]
  rw [if_neg (by simp)]
  have hn : ∀ u, numR b u = ((rdS (b.drop u)).1, u + (rdS (b.drop u)).2.1, (rdS (b.drop u)).2.2) := fun _ => rfl
  by_cases h1 : (rdS (b.drop 32)).2.2 ≠ 0
  ·rw [if_pos (by rw [hn]; exact h1)]
   exact read_bad1 b hb h h1 k
  ·rw [if_neg (by rw [hn]; exact h1)]
   have h1e : rdS (b.drop 32) = ((rdS (b.drop 32)).1, (rdS (b.drop 32)).2.1, 0) := by
    have : (rdS (b.drop 32)).2.2 = 0 := by omega
    rw [← this]
   have hle1 := rdS_le (b.drop 32)
   generalize (rdS (b.drop 32)).1 = n1 at *
   generalize (rdS (b.drop 32)).2.1 = q1 at *
   have hu1 : numR b 32 = (n1, 32 + q1, 0) := by rw [hn, h1e]
   rw [hu1]
   simp only
   have hdd : b.drop (32 + q1) = (b.drop 32).drop q1 := by rw [List.drop_drop]
   by_cases h2 : (rdS ((b.drop 32).drop q1)).2.2 ≠ 0
   ·rw [if_pos (by rw [hn, hdd]; exact h2)]
    exact read_bad2 b hb h n1 q1 h1e h2 k
   ·rw [if_neg (by rw [hn, hdd]; exact h2)]
    have h2e : rdS ((b.drop 32).drop q1) = ((rdS ((b.drop 32).drop q1)).1, (rdS ((b.drop 32).drop q1)).2.1, 0) := by
     have : (rdS ((b.drop 32).drop q1)).2.2 = 0 := by omega
     rw [← this]
    have hle2 := rdS_le ((b.drop 32).drop q1)
    generalize (rdS ((b.drop 32).drop q1)).1 = n2 at *
    generalize (rdS ((b.drop 32).drop q1)).2.1 = q2 at *
    have hu2 : numR b (32 + q1) = (n2, 32 + q1 + q2, 0) := by rw [hn, hdd, h2e]
    rw [hu2]
    simp only
    rw [List.length_drop, List.length_drop] at hle2
    rw [List.length_drop] at hle1
    have hl3 : (((b.drop 32).drop q1).drop q2).length = b.length - (32 + q1 + q2) := by simp only [List.length_drop]; omega
    by_cases h3 : 32 + q1 + q2 = b.length
    ·have h3e : ((b.drop 32).drop q1).drop q2 = [] := List.length_eq_zero_iff.1 (by omega)
     cases h4 : teB ⟨(n1 : Nat), (n2 : Nat)⟩ with
     | false =>
      rw [if_pos (.inr rfl)]
      exact read_inv b hb h n1 q1 h1e n2 q2 h2e h3e h4 k
     | true =>
      rw [if_neg (by rintro (h5 | h5); · exact h5 h3
                     ·cases h5)]
      exact read_ok b hb h n1 q1 h1e n2 q2 h2e h3e h4 _ (by simp) k
    ·rw [if_pos (.inl h3)]
     exact read_long b hb h n1 q1 h1e n2 q2 h2e (by omega) k
 ·have ht := tagR_bad (b := b) (u := 0) (by omega)
  rw [ht, if_pos (by simp)]
  exact read_short b hb h k

theorem Fresh_spec (a : Alg) (e d r1 r2 k : Nat) :
  ACall Tryd.prog 58 [.ptr d [] 0] k (makE a e d r1 r2) (.lit (.int .i64 a.fresh)) [] := by
 obtain ⟨fr, sd, fs, L, B⟩ := a
 unfold makE makB makAV
 simp only
 refine Bd (hpre := by simp [rowM_eq, rowB_eq]) Tryd.func58 Tryd.ntmps58 fun σ N hp hpn hk hkn hfree => ?_
 simp only [List.mem_cons, List.not_mem_nil, or_false, forall_eq_or_imp, forall_eq] at hp hpn; obtain ⟨hd1, hd2, hd3⟩ := hp; obtain ⟨hdn1, hdn2, hdn3⟩ := hpn
 exact W0
theorem pPlain_spec (key : Tg) (t : Te) (h : teB t = true) (k : Nat) :
  ACall Tryd.prog 59 [tagAV key, teAV t] k [] (.slice none ((plainT key t).map byteAV)) [] := by
 have ht0 := teB_iff.1 h
 obtain ⟨x, y⟩ := t
 simp only at ht0
 obtain ⟨q1, q2, q3⟩ := ht0
 obtain ⟨x, rfl⟩ := Int.eq_ofNat_of_zero_le q1
 obtain ⟨y, rfl⟩ := Int.eq_ofNat_of_zero_le (show 0 ≤ y by omega)
 have c1 := Append_ok_f key.1 (by rw [key.2]; decide) x (by omega)
 have hl1 := leb_len x 7 (by omega)
 have c2 := Append_ok_f (key.1 ++ leb x) (by rw [List.length_append, key.2]; omega) y (by omega)
 have hpl : plainT key ⟨(x : Nat), (y : Nat)⟩ = (key.1 ++ leb x) ++ leb y := by unfold plainT; simp
 rw [hpl]
 generalize (key.1 ++ leb x) ++ leb y = P2 at *
 generalize key.1 ++ leb x = P1 at *
 clear hpl h
 unfold teAV
 simp only
 have hs1 := tagAV_sz key
 have hs2 := tagAV_cell key
 obtain ⟨K, hK⟩ := key
 have hkA : tagAV ⟨K, hK⟩ = .agg (K.map byteAV) := rfl
 simp only [hkA] at hs1 hs2 c1 ⊢
 clear hkA
 have htk : (K.map byteAV).take 32 = K.map byteAV := List.take_of_length_le (by rw [List.length_map]; omega)
 refine Bd Tryd.func59 Tryd.ntmps59 fun σ N hp hpn hk hkn hfree => ?_
 have hcs := And.intro c1 (And.intro c2 True.intro)
 clear c1 c2
 exact W0
section
variable [W : W32]
theorem mKey_in {a : Alg} {m : Nat} (h : AlgIn a m) (e : Nat) : AlgIn (mKey a e).1 (m + 1) := by
 unfold mKey
 split
 ·exact h.more (Nat.le_succ _)
 ·split
  ·exact keyS_in h
  ·exact h.more (Nat.le_succ _)
theorem mKey_boxes (a : Alg) (e : Nat) : (mKey a e).1.boxes = a.boxes ∧ (mKey a e).1.macs = a.macs := by
 unfold mKey
 split
 ·exact ⟨rfl, rfl⟩
 ·split
  ·rename_i h
   unfold keyS at h ⊢
   split at h
   ·cases h
   ·rename_i h2; rw [if_neg h2]; exact ⟨rfl, rfl⟩
  ·exact ⟨rfl, rfl⟩
def blP (a : Alg) (c : Co) (t : Te) : Alg × Nat × List UInt8 := bxInto (mKey a 0).1 (mKey a 0).2.1 c.key (mKey a 0).1.fresh (plainT (mKey a 0).2.2 t)
theorem blP_blank (a : Alg) (c : Co) (t : Te) (h1 : teB t = true) (h2 : ¬ c.party < 0) (h3 : ¬ 7 < c.party) :
  blankS a c t = if (blP a c t).2.1 = 0 then ((blP a c t).1, ⟨c.party, (mKey a 0).2.2, (blP a c t).2.2⟩, 0) else (alg0, bl0, (blP a c t).2.1) := by
 unfold blankS
 rw [if_neg (show ¬ (teB t = false ∨ c.party < 0 ∨ 7 < c.party) from fun h => by rcases h with h | h | h <;> simp_all)]
 unfold blP
 by_cases hk : (keyS a).2.2 = 0
 ·have hm : mKey a 0 = ((keyS a).1, 0, (keyS a).2.1) := by unfold mKey; rw [if_neg (by simp), if_pos hk]
  rw [if_pos hk, hm]
  simp only
  have hs := bxInto_seal (keyS a).1 c.key (keyS a).1.fresh (plainT (keyS a).2.1 t)
  rw [hs]
  by_cases hb : (bxInto (keyS a).1 0 c.key (keyS a).1.fresh (plainT (keyS a).2.1 t)).2.1 = 0
  ·simp only [if_pos hb, if_true]
  ·simp only [if_neg hb]
 ·have hm : mKey a 0 = (a, (keyS a).2.2, zeroTag) := by unfold mKey; rw [if_neg (by simp), if_neg hk]
  rw [if_neg hk, hm]
  simp only
  have hb : bxInto a (keyS a).2.2 c.key a.fresh (plainT zeroTag t) = (a, (keyS a).2.2, []) := by
   unfold bxInto bxE mBox
   rw [if_neg hk, if_pos hk]
  rw [hb, if_neg hk]
set_option maxHeartbeats 4000000 in
theorem Blank_spec (a : Alg) (m : Nat) (ha : AlgIn a m) (hm : m ≤ 900000) (c : Co) (t : Te) (g k : Nat) :
  ACall Tryd.prog 24 [algAV a, concAV c, teAV t] k [(g, shaG)] (mlAV (blankS a c t)) [] := by
 have c0 := pTerms_spec t
 have haA : algAV a = .agg [.lit (.bool a.free), tagAV a.seed, .lit (.int .i64 a.fresh), .slice none (a.macs.map macAV), .slice none (a.boxes.map sealAV)] := rfl
 obtain ⟨pa, ck, ps⟩ := c
 by_cases hbad : teB t = false ∨ pa < 0 ∨ 7 < pa
 ·have hB : blankS a ⟨pa, ck, ps⟩ t = (alg0, bl0, 1) := by unfold blankS; rw [if_pos hbad]
  rw [hB]
  unfold mlAV
  simp only [alg0_eq, bl0_eq]
  clear hB ha
  have e01 : ((1 : Nat) : Int) = 1 := rfl
  cases ht : teB t with
  | false =>
   rw [ht] at c0
   clear ht hbad
   refine Bd Tryd.func24 Tryd.ntmps24 fun σ N hp hpn hk hkn hfree => ?_
   obtain ⟨hd, hdn⟩ := HD0 hp hpn; clear hp hpn
   have hcs := And.intro c0 True.intro
   clear c0
   refine Wk ?_
   exact WD
  | true =>
   rw [ht] at c0 hbad
   by_cases h2 : pa < 0
   ·clear ht hbad
    refine Bd Tryd.func24 Tryd.ntmps24 fun σ N hp hpn hk hkn hfree => ?_
    obtain ⟨hd, hdn⟩ := HD0 hp hpn; clear hp hpn
    have hcs := And.intro c0 True.intro
    clear c0
    refine Wk ?_
    exact WD
   ·have h3 : 7 < pa := by rcases hbad with h | h | h
                           ·cases h
                           ·exact absurd h h2
                           ·exact h
    clear ht hbad
    refine Bd Tryd.func24 Tryd.ntmps24 fun σ N hp hpn hk hkn hfree => ?_
    obtain ⟨hd, hdn⟩ := HD0 hp hpn; clear hp hpn
    have hcs := And.intro c0 True.intro
    clear c0
    refine Wk ?_
    exact WD
 ·have ht : teB t = true := by cases h : teB t with
   | true => rfl
   | false => exact absurd (.inl h) hbad
  have h2 : ¬ pa < 0 := fun h => hbad (.inr (.inl h))
  have h3 : ¬ 7 < pa := fun h => hbad (.inr (.inr h))
  rw [ht] at c0
  have hBl := blP_blank a ⟨pa, ck, ps⟩ t ht h2 h3
  have cb := Begin_spec a (by have := ha.ml; omega) (by have := ha.bl; omega)
  have hin := mKey_in ha 0
  have hmb := mKey_boxes a 0
  have cK := fun q r1 r2 => mKey_spec a 0 ha.f0 (by have := ha.f1; omega) q r1 r2 g
  have cP := pPlain_spec (mKey a 0).2.2 t ht
  have hpl := plainT_len (mKey a 0).2.2 t ht
  have cI := fun q r1 r2 => bxInto_spec (mKey a 0).1 (mKey a 0).2.1 ck (mKey a 0).1.fresh (plainT (mKey a 0).2.2 t) (by have := hin.bl; omega) hin.bm (by omega) q r1 r2 g
  have hmx := mBox_macs (mKey a 0).1 (bxE (mKey a 0).2.1 (mKey a 0).1.fresh (plainT (mKey a 0).2.2 t)) ck (mKey a 0).1.fresh (plainT (mKey a 0).2.2 t)
  have cF := fun q r1 r2 => Fresh_spec (mKey a 0).1 (mKey a 0).2.1 q r1 r2
  rw [hBl]
  unfold blP at *
  have hmx : (bxInto (mKey a 0).1 (mKey a 0).2.1 ck (mKey a 0).1.fresh (plainT (mKey a 0).2.2 t)).1.macs = a.macs := hmx.trans hmb.2
  simp only at hmb ⊢
  generalize bxInto (mKey a 0).1 (mKey a 0).2.1 ck (mKey a 0).1.fresh (plainT (mKey a 0).2.2 t) = X at *
  generalize plainT (mKey a 0).2.2 t = PL at *
  generalize mKey a 0 = Y at *
  obtain ⟨a2, e2, b2⟩ := X
  obtain ⟨a1, e1, kt⟩ := Y
  simp only at *
  obtain ⟨hmb1, hmb2⟩ := hmb
  clear hBl ha hin hpl ht hbad
  by_cases he : e2 = 0
  ·subst he
   rw [if_pos rfl]
   unfold mlAV
   simp only
   have cd := Done_ok a2
   unfold makAV at cb
   unfold makE at *
   simp only [List.cons_append, List.nil_append] at *
   simp only [makB_def, rowM_eq, rowB_eq, hmb1, hmb2, hmx] at *
   refine Bd Tryd.func24 Tryd.ntmps24 fun σ N hp hpn hk hkn hfree => ?_
   obtain ⟨hd, hdn⟩ := HD0 hp hpn; clear hp hpn
   have hcs := And.intro c0 (And.intro cb True.intro)
   refine Wm ?_
   iterate 3 refine Wz ?_
   clear hcs
   refine go_cliprowIn (N + 19 + 1) [0, 3] 102 65 (bt := 140) (c := .agg [.agg [.lit (.bool a.free), tagAV a.seed, .lit (.int .i64 a.fresh), .clip (a.macs.map macAV), .clip (a.boxes.map sealAV)], .lit (.int .i64 ((0 : Nat) : Int))]) (xs := a.macs.map macAV) (by simp (disch := omega) [go_sem, *, -List.reduceReplicate]) rfl (all_macs1 _) ?_; refine go_cliprowIn (N + 19 + 1) [0, 4] 105 35 (bt := 140) (c := .agg [.agg [.lit (.bool a.free), tagAV a.seed, .lit (.int .i64 a.fresh), .slice (some (N + 19 + 3)) (a.macs.map macAV), .clip (a.boxes.map sealAV)], .lit (.int .i64 ((0 : Nat) : Int))]) (xs := a.boxes.map sealAV) (by simp (disch := omega) [go_sem, *, -List.reduceReplicate]) rfl (all_boxes1 _) ?_
   have hcs := And.intro (cK (N + 19 + 1) (N + 19 + 3) (N + 19 + 3 + 1)) (And.intro (cF (N + 19 + 1) (N + 19 + 3) (N + 19 + 3 + 1)) (And.intro cP (And.intro (cI (N + 19 + 1) (N + 19 + 3) (N + 19 + 3 + 1)) (And.intro (cd (N + 19 + 1) (N + 19 + 3) (N + 19 + 3 + 1)) True.intro))))
   clear c0 cb cK cF cP cI cd
   refine Wk ?_
   unfold blAV algAV
   exact WD
  ·rw [if_neg he]
   have h1i : ((e2 : Int) != 0) = true := by rw [bne_iff_ne]; omega
   unfold mlAV
   simp only [alg0_eq, bl0_eq]
   have cd := Done_bad a2 e2 he
   unfold makAV at cb
   unfold makE at *
   simp only [List.cons_append, List.nil_append] at *
   simp only [makB_def, rowM_eq, rowB_eq, hmb1, hmb2, hmx] at *
   refine Bd Tryd.func24 Tryd.ntmps24 fun σ N hp hpn hk hkn hfree => ?_
   obtain ⟨hd, hdn⟩ := HD0 hp hpn; clear hp hpn
   have hcs := And.intro c0 (And.intro cb True.intro)
   refine Wm ?_
   iterate 3 refine Wz ?_
   clear hcs
   refine go_cliprowIn (N + 19 + 1) [0, 3] 102 65 (bt := 140) (c := .agg [.agg [.lit (.bool a.free), tagAV a.seed, .lit (.int .i64 a.fresh), .clip (a.macs.map macAV), .clip (a.boxes.map sealAV)], .lit (.int .i64 ((0 : Nat) : Int))]) (xs := a.macs.map macAV) (by simp (disch := omega) [go_sem, *, -List.reduceReplicate]) rfl (all_macs1 _) ?_; refine go_cliprowIn (N + 19 + 1) [0, 4] 105 35 (bt := 140) (c := .agg [.agg [.lit (.bool a.free), tagAV a.seed, .lit (.int .i64 a.fresh), .slice (some (N + 19 + 3)) (a.macs.map macAV), .clip (a.boxes.map sealAV)], .lit (.int .i64 ((0 : Nat) : Int))]) (xs := a.boxes.map sealAV) (by simp (disch := omega) [go_sem, *, -List.reduceReplicate]) rfl (all_boxes1 _) ?_
   have hcs := And.intro (cK (N + 19 + 1) (N + 19 + 3) (N + 19 + 3 + 1)) (And.intro (cF (N + 19 + 1) (N + 19 + 3) (N + 19 + 3 + 1)) (And.intro cP (And.intro (cI (N + 19 + 1) (N + 19 + 3) (N + 19 + 3 + 1)) (And.intro (cd (N + 19 + 1) (N + 19 + 3) (N + 19 + 3 + 1)) True.intro))))
   clear c0 cb cK cF cP cI cd
   refine Wk ?_
   exact WD
end

section
variable [W : W32]
set_option maxHeartbeats 4000000 in
theorem tOpen_spec (a : Alg) (m : Nat) (ha : AlgIn a m) (hm : m ≤ 900000) (c : Co) (t : List UInt8) (ht : t.length ≤ 100000) (g k : Nat) :
  ACall Tryd.prog 33 [algAV a, concAV c, .slice none (t.map byteAV)] k [(g, shaG)] (moAV (openT a c t)) [] := by
 have c0 := pOpen_spec a m ha hm c.key t ht g
 have hol := openS_len a m ha c.key t ht
 have haA : algAV a = .agg [.lit (.bool a.free), tagAV a.seed, .lit (.int .i64 a.fresh), .slice none (a.macs.map macAV), .slice none (a.boxes.map sealAV)] := rfl
 unfold openT
 unfold soAV at c0
 generalize openS a c.key t = X at *
 obtain ⟨b, e⟩ := X
 simp only at c0 hol ⊢
 obtain ⟨cp, ck, cs⟩ := c
 simp only at c0
 clear ha
 by_cases he : e = 0
 ·subst he
  rw [if_neg (by simp)]
  have c1 := read_spec b (by omega)
  generalize readT b = Y at *
  obtain ⟨y1, y2, y3⟩ := Y
  unfold moAV at c1 ⊢
  simp only at c1 ⊢
  refine Bd Tryd.func33 Tryd.ntmps33 fun σ N hp hpn hk hkn hfree => ?_
  obtain ⟨hd, hdn⟩ := HD0 hp hpn; clear hp hpn
  have hcs := And.intro c0 (And.intro c1 True.intro)
  clear c0 c1
  refine Wk ?_
  exact WD
 ·rw [if_pos he]
  have h1i : ((e : Int) != 0) = true := by rw [bne_iff_ne]; omega
  unfold moAV
  simp only [te0_eq]
  refine Bd Tryd.func33 Tryd.ntmps33 fun σ N hp hpn hk hkn hfree => ?_
  obtain ⟨hd, hdn⟩ := HD0 hp hpn; clear hp hpn
  have hcs := And.intro c0 True.intro
  clear c0
  refine Wk ?_
  exact WD
end
end Go.Proofs.YtdmjpolnbmoehaaDoor
