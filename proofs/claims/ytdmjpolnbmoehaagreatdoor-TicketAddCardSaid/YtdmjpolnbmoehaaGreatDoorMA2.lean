/- Texts Q5, X3, X4, K19p, X5, X6, C16, X7, X8, W1, X9, X10, joined. -/
import Derived.Test.YtdmjpolnbmoehaaGreatDoorMA1

namespace Go.Proofs.YtdmjpolnbmoehaaGreatDoor
open Go.Ab
attribute [local irreducible] Go.Ab.tyAV Go.Ab.aw Go.Ab.aops Go.Ab.kReg Go.Ab.aThen Go.Ab.aBlk Go.Ab.acond Go.Ab.aguard Go.Ab.astep Go.Ab.AStepX Go.Ab.aRet
attribute [local irreducible] shaG
section
variable [W : W32]
theorem mNode_node (a : Alg) (key : Tg) (msg : List UInt8) : nodeS a key msg = if (mNode a 0 key msg).2.1 = 0 then ((mNode a 0 key msg).1, (mNode a 0 key msg).2.2, 0) else (alg0, zeroTag, (mNode a 0 key msg).2.1) := by
 by_cases h : (macS a key msg).2.2 = 0
 ·have h1 : mMac a 0 key msg = ((macS a key msg).1, 0, (macS a key msg).2.1) := by unfold mMac; rw [if_neg (by simp), if_pos h]
  by_cases h' : (macS (macS a key msg).1 (macS a key msg).2.1 nodeB).2.2 = 0
  ·have h2 : mNode a 0 key msg = ((macS (macS a key msg).1 (macS a key msg).2.1 nodeB).1, 0, (macS a key msg).2.1) := by unfold mNode; rw [h1]; simp only; unfold mMac; rw [if_neg (by simp), if_pos h']
   rw [nodeS_3 h h', h2]; simp
  ·have h2 : (mNode a 0 key msg).2.1 = (macS (macS a key msg).1 (macS a key msg).2.1 nodeB).2.2 := by unfold mNode; rw [h1]; simp only; unfold mMac; rw [if_neg (by simp), if_neg h']
   rw [nodeS_2 h h', h2, if_neg h']
 ·have h1 : mMac a 0 key msg = (a, (macS a key msg).2.2, zeroTag) := by unfold mMac; rw [if_neg (by simp), if_neg h]
  have h2 : mNode a 0 key msg = (a, (macS a key msg).2.2, zeroTag) := by unfold mNode; rw [h1]; simp only; rw [mMac_err h]
  rw [nodeS_1 h, h2, if_neg h]
end

section
variable [W : W32]
theorem hDerive_spec (seed : Tg) (n : Nat) (hn : n ≤ 1000000000) (g k : Nat) :
  ACall Tryz.prog 187 [tagAV seed, .lit (.string ⟨#[102, 114, 101, 115, 104]⟩), .lit (.int .i64 n)] k [(g, shaG)] (.tup [tagAV (derT seed n), .lit (.int .i64 0)]) [] := by
 have c1 := label_fresh
 have e7 := sh8_wrap (n : Int) 56
 have e6 := sh8_wrap (n : Int) 48
 have e5 := sh8_wrap (n : Int) 40
 have e4 := sh8_wrap (n : Int) 32
 have e3 := sh8_wrap (n : Int) 24
 have e2 := sh8_wrap (n : Int) 16
 have e1 := sh8_wrap (n : Int) 8
 have e0 := sh8_wrap (n : Int) 0
 simp only [Int.reducePow, Int.pow_zero, Int.fdiv_one] at e7 e6 e5 e4 e3 e2 e1 e0
 unfold derT
 have c2 := hmacOf_spec seed.1 ([102, 114, 101, 115, 104, 0] ++ eightB n) (by rw [seed.2]; decide) (by simp) (by simp [eightB]) g
 generalize hmacT seed.1 ([102, 114, 101, 115, 104, 0] ++ eightB n) = T at *
 have h0n : (0 : Int) ≤ (n : Int) := by omega
 have hnn : ¬ ((n : Int) < 0) := by omega
 have hnm : ¬ ((281474976710656 : Int) < (n : Int)) := by omega
 unfold eightB at c2
 generalize sh8 (n : Int) 56 = b7 at *
 generalize sh8 (n : Int) 48 = b6 at *
 generalize sh8 (n : Int) 40 = b5 at *
 generalize sh8 (n : Int) 32 = b4 at *
 generalize sh8 (n : Int) 24 = b3 at *
 generalize sh8 (n : Int) 16 = b2 at *
 generalize sh8 (n : Int) 8 = b1 at *
 generalize sh8 (n : Int) 0 = b0 at *
 have hs1 := tagAV_sz seed
 have hs2 := tagAV_cell seed
 obtain ⟨S, hS⟩ := seed
 have hkA : tagAV ⟨S, hS⟩ = .agg (S.map byteAV) := rfl
 simp only [hkA] at hs1 hs2 c2 ⊢
 clear hkA
 have htk : (S.map byteAV).take 32 = S.map byteAV := List.take_of_length_le (by rw [List.length_map]; omega)
 have h102 : byteAV 102 = .lit (.int .u8 102) := rfl
 have h114 : byteAV 114 = .lit (.int .u8 114) := rfl
 have h101 : byteAV 101 = .lit (.int .u8 101) := rfl
 have h115 : byteAV 115 = .lit (.int .u8 115) := rfl
 have h104 : byteAV 104 = .lit (.int .u8 104) := rfl
 have hz0 : byteAV 0 = .lit (.int .u8 0) := rfl
 have hb7 : byteAV b7 = .lit (.int .u8 b7.toNat) := rfl
 have hb6 : byteAV b6 = .lit (.int .u8 b6.toNat) := rfl
 have hb5 : byteAV b5 = .lit (.int .u8 b5.toNat) := rfl
 have hb4 : byteAV b4 = .lit (.int .u8 b4.toNat) := rfl
 have hb3 : byteAV b3 = .lit (.int .u8 b3.toNat) := rfl
 have hb2 : byteAV b2 = .lit (.int .u8 b2.toNat) := rfl
 have hb1 : byteAV b1 = .lit (.int .u8 b1.toNat) := rfl
 have hb0 : byteAV b0 = .lit (.int .u8 b0.toNat) := rfl
 refine Bd Tryz.func187 Tryz.ntmps187 fun σ N hp hpn hk hkn hfree => ?_
 obtain ⟨hd, hdn⟩ := HD0 hp hpn; clear hp hpn
 have hcs := And.intro c1 (And.intro c2 True.intro)
 clear c1 c2
 refine Wk ?_
 refine go_loopB (N + 2) mixed (by kernel_rfl) [8, 9, 25, 26, 27, 28, 29, 30, 31, 32, 33, 34, 35] [] (fun m_ s_ σ_ n_ => ∃ (u : Nat) (q : Nat) (acc : List UInt8), m_ = 8 - u ∧ s_ 9 = .lit (.int .i64 (56 - 8 * (u : Int))) ∧ s_ 8 = .slice (some q) (acc.map byteAV) ∧ σ_ (N) = .box 29 (.agg (S.map byteAV)) ∧ σ_ (N+1) = .box 29 (tagAV zeroTag) ∧ σ_ (q) = .row 5 1 acc.length ∧ (u ≤ 8) ∧ (N + 2 ≤ q) ∧ (q < n_) ∧ (acc = [102, 114, 101, 115, 104, 0] ++ [b7, b6, b5, b4, b3, b2, b1, b0].take u)) ⟨_, 0, _, [102, 114, 101, 115, 104, 0], rfl, WF, WF, WF, WF, WF, WC, WC, WC, WC⟩ ?_
 intro m_1 s_1 σ_1 n_1 hs_1 hf_1 hn_1 hI_1
 obtain ⟨u, q, acc, hm_1, h1_9, h1_8, e1_0, e1_1, e1_2, hu, hq, hqn, hacc⟩ := hI_1
 have h1_2 := KS hs_1 2
 have h1_3 := KS hs_1 3
 have h1_6 := KS hs_1 6
 have h1_7 := KS hs_1 7
 have k1_0 := KE hf_1 (g)
 have hlow := KL (N := N) (σ := σ) hf_1
 have hcase : u = 0 ∨ u = 1 ∨ u = 2 ∨ u = 3 ∨ u = 4 ∨ u = 5 ∨ u = 6 ∨ u = 7 ∨ u = 8 := by omega
 rcases hcase with rfl | hcase
 ·simp only [List.take_zero, List.append_nil] at hacc
  subst hacc
  refine Wk ?_
  exact ⟨WS, WG, WN, _, (show 8 - (1) < m_1 by omega), 1, q, [102, 114, 101, 115, 104, 0, b7], rfl, WF, WF, WF, WF, WF, WC, WC, WC, WC⟩
 rcases hcase with rfl | hcase
 ·simp only [List.take_succ_cons, List.take_zero, List.cons_append, List.nil_append] at hacc
  subst hacc
  refine Wk ?_
  exact ⟨WS, WG, WN, _, (show 8 - (2) < m_1 by omega), 2, q, [102, 114, 101, 115, 104, 0, b7, b6], rfl, WF, WF, WF, WF, WF, WC, WC, WC, WC⟩
 rcases hcase with rfl | hcase
 ·simp only [List.take_succ_cons, List.take_zero, List.cons_append, List.nil_append] at hacc
  subst hacc
  refine Wk ?_
  exact ⟨WS, WG, WN, _, (show 8 - (3) < m_1 by omega), 3, q, [102, 114, 101, 115, 104, 0, b7, b6, b5], rfl, WF, WF, WF, WF, WF, WC, WC, WC, WC⟩
 rcases hcase with rfl | hcase
 ·simp only [List.take_succ_cons, List.take_zero, List.cons_append, List.nil_append] at hacc
  subst hacc
  refine Wk ?_
  exact ⟨WS, WG, WN, _, (show 8 - (4) < m_1 by omega), 4, q, [102, 114, 101, 115, 104, 0, b7, b6, b5, b4], rfl, WF, WF, WF, WF, WF, WC, WC, WC, WC⟩
 rcases hcase with rfl | hcase
 ·simp only [List.take_succ_cons, List.take_zero, List.cons_append, List.nil_append] at hacc
  subst hacc
  refine Wk ?_
  exact ⟨WS, WG, WN, _, (show 8 - (5) < m_1 by omega), 5, q, [102, 114, 101, 115, 104, 0, b7, b6, b5, b4, b3], rfl, WF, WF, WF, WF, WF, WC, WC, WC, WC⟩
 rcases hcase with rfl | hcase
 ·simp only [List.take_succ_cons, List.take_zero, List.cons_append, List.nil_append] at hacc
  subst hacc
  refine Wk ?_
  exact ⟨WS, WG, WN, _, (show 8 - (6) < m_1 by omega), 6, q, [102, 114, 101, 115, 104, 0, b7, b6, b5, b4, b3, b2], rfl, WF, WF, WF, WF, WF, WC, WC, WC, WC⟩
 rcases hcase with rfl | hcase
 ·simp only [List.take_succ_cons, List.take_zero, List.cons_append, List.nil_append] at hacc
  subst hacc
  refine Wk ?_
  exact ⟨WS, WG, WN, _, (show 8 - (7) < m_1 by omega), 7, q, [102, 114, 101, 115, 104, 0, b7, b6, b5, b4, b3, b2, b1], rfl, WF, WF, WF, WF, WF, WC, WC, WC, WC⟩
 rcases hcase with rfl | hcase
 ·simp only [List.take_succ_cons, List.take_zero, List.cons_append, List.nil_append] at hacc
  subst hacc
  refine Wk ?_
  exact ⟨WS, WG, WN, _, (show 8 - (8) < m_1 by omega), 8, q, [102, 114, 101, 115, 104, 0, b7, b6, b5, b4, b3, b2, b1, b0], rfl, WF, WF, WF, WF, WF, WC, WC, WC, WC⟩
 subst hcase
 simp only [List.take_succ_cons, List.take_zero, List.cons_append, List.nil_append] at hacc
 subst hacc
 replace hcs := hcs.2
 exact W0
def mKey (a : Alg) (e : Nat) : Alg × Nat × Tg :=
 if e ≠ 0 then (a, e, zeroTag) else if (keyS a).2.2 = 0 then ((keyS a).1, 0, (keyS a).2.1) else (a, (keyS a).2.2, zeroTag)
end
def bI (key : Tg) (nonce : Int) (plain : List UInt8) : List BoxE → Nat → Int
 | [], _ => -1
 | e :: r, u => if e.key = key ∧ e.nonce = nonce ∧ e.plain = plain then u else bI key nonce plain r (u + 1)
theorem bI_none {key : Tg} {nonce : Int} {plain : List UInt8} : ∀ (L : List BoxE) (u : Nat), boxL key nonce plain L = none → bI key nonce plain L u = -1
 | [], _, _ => rfl
 | e :: r, u, h => by
  rw [boxL] at h
  split at h
  ·cases h
  ·rename_i hn
   rw [bI, if_neg hn]
   exact bI_none r _ h
theorem bI_some {key : Tg} {nonce : Int} {plain t : List UInt8} : ∀ (L : List BoxE) (u : Nat), boxL key nonce plain L = some t → ∃ (i : Nat) (h : i < L.length), bI key nonce plain L u = ((u + i : Nat) : Int) ∧ (L[i]).box = t
 | [], _, h => by cases h
 | e :: r, u, h => by
  rw [boxL] at h
  split at h
  ·rename_i hc
   injection h with h
   exact ⟨0, by simp, by rw [bI, if_pos hc, Nat.add_zero], h⟩
  ·rename_i hn
   obtain ⟨i, hi, h1, h2⟩ := bI_some r (u + 1) h
   exact ⟨i + 1, by simp; omega, by rw [bI, if_neg hn, h1]; congr 1; omega, h2⟩
theorem box1_spec (e : BoxE) (key : Tg) (nonce : Int) (plain : List UInt8) (he : e.plain.length ≤ 100000) (hm : plain.length ≤ 1000000) (k : Nat) :
  ACall Tryz.prog 215 [sealAV e, .view (tagAV key), .view (.lit (.int .i64 nonce)), .view (.slice none (plain.map byteAV))] k [] (.lit (.bool (decide (e.key = key ∧ e.nonce = nonce ∧ e.plain = plain)))) [] := by
 obtain ⟨zk, zn, zp, zb⟩ := e
 simp only at he ⊢
 have c1 := Equal_spec zp plain (by omega) (by omega)
 have hzd : sealAV ⟨zk, zn, zp, zb⟩ = .agg [tagAV zk, .lit (.int .i64 zn), bAV zp, bAV zb] := rfl
 have hzb := bAV_def zp
 by_cases h1 : zk = key
 ·have d1 : decide (zk = key) = true := decide_eq_true h1
  by_cases h3 : zn = nonce
  ·have d3 : decide (zn = nonce) = true := decide_eq_true h3
   have d3' : (zn == nonce) = true := by simp [h3]
   by_cases h2 : zp = plain
   ·have d2 : decide (zp = plain) = true := decide_eq_true h2
    rw [decide_eq_true (show zk = key ∧ zn = nonce ∧ zp = plain from ⟨h1, h3, h2⟩)]
    rw [d2] at c1
    refine Bd Tryz.func215 Tryz.ntmps215 fun σ N hp hpn hk hkn hfree => ?_
    have hcs := And.intro c1 True.intro
    clear c1 h1 h2 d2 h3
    exact W0
   ·have d2 : decide (zp = plain) = false := decide_eq_false h2
    rw [decide_eq_false (show ¬ (zk = key ∧ zn = nonce ∧ zp = plain) from fun h => h2 h.2.2)]
    rw [d2] at c1
    refine Bd Tryz.func215 Tryz.ntmps215 fun σ N hp hpn hk hkn hfree => ?_
    have hcs := And.intro c1 True.intro
    clear c1 h1 h2 d2 h3
    exact W0
  ·have d3 : decide (zn = nonce) = false := decide_eq_false h3
   have d3' : (zn == nonce) = false := by simp [h3]
   rw [decide_eq_false (show ¬ (zk = key ∧ zn = nonce ∧ zp = plain) from fun h => h3 h.2.1)]
   refine Bd Tryz.func215 Tryz.ntmps215 fun σ N hp hpn hk hkn hfree => ?_
   clear c1 h1 h3
   exact W0
 ·have d1 : decide (zk = key) = false := decide_eq_false h1
  rw [decide_eq_false (show ¬ (zk = key ∧ zn = nonce ∧ zp = plain) from fun h => h1 h.1)]
  refine Bd Tryz.func215 Tryz.ntmps215 fun σ N hp hpn hk hkn hfree => ?_
  clear c1 h1
  exact W0
theorem IndexB_spec (L : List BoxE) (key : Tg) (nonce : Int) (plain : List UInt8) (hl : L.length ≤ 1000000) (hm : ∀ e ∈ L, e.plain.length ≤ 100000 ∧ e.box.length ≤ 100000) (hp0 : plain.length ≤ 1000000) (k : Nat) :
  ACall Tryz.prog 214 [.slice none (L.map sealAV), .fn 215 [.view (tagAV key), .view (.lit (.int .i64 nonce)), .view (.slice none (plain.map byteAV))]] k [] (.lit (.int .i64 (bI key nonce plain L 0))) [] := by
 obtain ⟨R, hR⟩ : ∃ R, bI key nonce plain L 0 = R := ⟨_, rfl⟩
 rw [hR]
 have hdr : L.drop 0 = L := rfl
 refine Bd Tryz.func214 Tryz.ntmps214 fun σ N hp hpn hk hkn hfree => ?_
 refine Wk ?_
 refine go_loopF mixed (by kernel_rfl) [4, 5, 8, 9, 10, 11, 12, 13, 14, 15, 16, 17, 18] [] (fun m_ s_ σ_ n_ => ∃ (u : Nat), m_ = L.length - u ∧ s_ 8 = .lit (.int .i64 u) ∧ (u ≤ L.length) ∧ (bI key nonce plain (L.drop u) u = R)) ⟨_, 0, rfl, WF, WC, WC⟩ ?_
 intro m_2 s_2 σ_2 n_2 hs_2 hf_2 hn_2 hI_2
 obtain ⟨u, hm_2, h2_8, hu, hno⟩ := hI_2
 have h2_0 := KS hs_2 0
 have h2_1 := KS hs_2 1
 have h2_7 := KS hs_2 7
 have hlow := KL (N := N) (σ := σ) hf_2
 clear hR hdr
 by_cases hul : u = L.length
 ·subst hul
  rw [List.drop_length] at hno
  simp only [bI] at hno
  subst hno
  clear hm
  exact W0
 ·have hu1 : u < L.length := by omega
  rw [List.drop_eq_getElem_cons hu1, bI] at hno
  have hmz := (hm _ (List.getElem_mem hu1)).1
  obtain ⟨z, hz⟩ : ∃ z, L[u] = z := ⟨_, rfl⟩
  rw [hz] at hno hmz
  have c1 := box1_spec z key nonce plain hmz hp0
  by_cases hc : z.key = key ∧ z.nonce = nonce ∧ z.plain = plain
  ·rw [if_pos hc] at hno
   subst hno
   rw [decide_eq_true hc] at c1
   have hcs := And.intro c1 True.intro
   clear c1 hm hc hmz
   exact W0
  ·rw [if_neg hc] at hno
   rw [decide_eq_false hc] at c1
   have hcs := And.intro c1 True.intro
   clear c1 hm hc hmz
   refine Wk ?_
   exact ⟨WS, WG, WN, _, (show L.length - (u + 1) < m_2 by omega), u + 1, rfl, WF, WC, WC⟩
section
variable [W : W32]
theorem bInto1_spec (key : Tg) (nn : Int) (plain : List UInt8) (hp0 : plain.length ≤ 10000) (g k : Nat) :
  ACall Tryz.prog 185 [.view (.lit (.int .i64 nn)), .view (tagAV key), .view (.slice none (plain.map byteAV))] k [(g, shaG)] (.slice none ((sealB key.1 nn plain).map byteAV)) [] := by
 have c1 := bNumber_row nn
 have c2 := bCrypt_spec key nn plain (by omega) g
 have hE := eightB_len nn
 have hS := strmB_len key.1 nn plain
 have c3 := bCheck_spec key (eightB nn ++ strmB key.1 nn plain) (by rw [List.length_append, hE, hS]; omega) g
 unfold sealB
 generalize hmacT key.1 ([98, 111, 120] ++ (eightB nn ++ strmB key.1 nn plain)) = T at *
 generalize eightB nn = E at *
 generalize strmB key.1 nn plain = S at *
 have hbm : E.map byteAV ++ S.map byteAV = (E ++ S).map byteAV := by rw [List.map_append]
 have hbl : E.length + S.length = (E ++ S).length := by rw [List.length_append]
 have hbs : (E ++ S).length ≤ 20000 := by rw [List.length_append]; omega
 generalize E ++ S = b0 at *
 have ht1 := tagAV_sz T
 have ht2 := tagAV_cell T
 obtain ⟨T, hT⟩ := T
 have htA : tagAV ⟨T, hT⟩ = .agg (T.map byteAV) := rfl
 simp only [htA] at c3 ht1 ht2 ⊢
 clear htA
 have htk2 : (T.map byteAV).take 32 = T.map byteAV := List.take_of_length_le (by rw [List.length_map]; omega)
 have hbbm : b0.map byteAV ++ T.map byteAV = (b0 ++ T).map byteAV := by rw [List.map_append]
 generalize b0 ++ T = bb at *
 refine Bd Tryz.func185 Tryz.ntmps185 fun σ N hp hpn hk hkn hfree => ?_
 obtain ⟨hd, hdn⟩ := HD0 hp hpn; clear hp hpn
 have hcs := And.intro c1 (And.intro c2 (And.intro c3 True.intro))
 clear c1 c2 c3
 exact WM
end

theorem RV2 {P : Program} {rs : List ResultVar} {k : Nat} {σ0 : Nat → Ent} {n0 : Nat} {pre post : Foot} {r r0 : AV} {c : Cfg} (d1 : Nat) (E1 : Ent) (d2 : Nat) (E2 : Ent) (h1 : aresults P c rs = some r0 := by simp (disch := omega) [go_sem, *, -List.reduceReplicate]; rfl) (hle : AV.le r0 r := by first | exact AV.le_refl _ | ((first | apply AV.le_slices | apply AV.le_nilsE | apply AV.le_clipE); first | rfl | (simp (disch := omega) [go_sem, *, -List.reduceReplicate]; done)) | (apply AV.sub_tup; repeat' first | exact ALe.nil | exact AV.le_refl _ | apply ALe.cons | ((first | apply AV.le_slices | apply AV.le_nilsE | apply AV.le_clipE); first | rfl | (simp (disch := omega) [go_sem, *, -List.reduceReplicate]; done)))) (h2 : r.ren (rn n0 k none) = r := by first | rfl | (simp (disch := omega) [go_sem]; done) | (simp (disch := omega) [go_sem, *]; done) | simp (disch := omega) [go_sem])
  (ha : c.σ d1 = E1 := by simp (disch := omega) [go_sem, *]) (hb : c.σ d2 = E2 := by simp (disch := omega) [go_sem, *]) (h3 : ∀ id, id < n0 → id ≠ d1 → id ≠ d2 → c.σ id = σ0 id := by intro id hid hdd hdd2; simp (disch := omega) only [upd_ne, wr_cons, wr_nil]; try (first | exact hlow id hid hdd hdd2 | exact hlow id hid)) (h4 : ∃ p ∈ pre, p.1 = d1 := by simp) (h6 : ∃ p ∈ pre, p.1 = d2 := by simp) (h5 : renF (rn n0 k none) [(d1, E1), (d2, E2)] = post := by simp (disch := omega) [go_sem, *]) : aRet P rs k σ0 n0 pre r post .ret c :=
 go_resultWI [(d1, E1), (d2, E2)] h1 hle h2 (fun id hid => by
  rw [wr_cons, wr_cons, wr_nil]
  by_cases hdd : id = d2
  ·subst hdd; rw [upd_same, hb]
  ·rw [upd_ne _ _ _ _ hdd]
   by_cases hde : id = d1
   ·subst hde; rw [upd_same, ha]
   ·rw [upd_ne _ _ _ _ hde]; exact h3 id hid hde hdd) (fun q hq => by
  simp only [List.mem_cons, List.not_mem_nil, or_false] at hq
  rcases hq with rfl | rfl
  ·exact h4
  ·exact h6) h5
section
variable [W : W32]
set_option maxHeartbeats 2000000 in
theorem mKey_spec (a : Alg) (e : Nat) (h0 : 0 ≤ a.fresh) (hlm : a.fresh ≤ 1000000) (d r1 r2 g k : Nat) :
  ACall Tryz.prog 136 [.ptr d [] 0] k (makE a e d r1 r2 ++ [(g, shaG)]) (tagAV (mKey a e).2.2) [(d, makB (mKey a e).1 (mKey a e).2.1 r1 r2)] := by
 obtain ⟨fr, sd, fs, L, B⟩ := a
 simp only at h0 hlm
 obtain ⟨n, rfl⟩ := Int.eq_ofNat_of_zero_le h0
 unfold makE
 simp only [List.cons_append, List.nil_append]
 have c1 := Fail_spec ⟨fr, sd, (n : Int), L, B⟩ e 2
 unfold makE at c1
 have e02 : ((2 : Nat) : Int) = 2 := rfl
 by_cases he0 : e = 0
 ·subst he0
  rw [if_pos rfl] at c1
  by_cases h1 : (65536 : Int) ≤ (n : Int)
  ·have hm : mKey ⟨fr, sd, (n : Int), L, B⟩ 0 = (⟨fr, sd, (n : Int), L, B⟩, 2, zeroTag) := by unfold mKey keyS; rw [if_pos h1]; rfl
   rw [hm]
   simp only [makAV_eq, rowM_eq, rowB_eq, e02] at *
   refine Bd Tryz.func136 Tryz.ntmps136 fun σ N hp hpn hk hkn hfree => ?_
   simp only [List.mem_cons, List.not_mem_nil, or_false, forall_eq_or_imp, forall_eq] at hp hpn; obtain ⟨hd1, hd2, hd3, hd4⟩ := hp; obtain ⟨hdn1, hdn2, hdn3, hdn4⟩ := hpn
   have hcs := And.intro (c1 d r1 r2) True.intro
   clear c1 hm
   refine Wk ?_
   exact RW (d) ((.box 203 (.agg [.agg [.lit (.bool fr), tagAV sd, .lit (.int .i64 n), .slice (some r1) (L.map macAV), .slice (some r2) (B.map sealAV)], .lit (.int .i64 2)])))
  ·have hm : mKey ⟨fr, sd, (n : Int), L, B⟩ 0 = (⟨fr, sd, (n : Int) + 1, L, B⟩, 0, if fr then symT 107 ((n : Int) + 1) else derT sd ((n : Int) + 1)) := by unfold mKey keyS; rw [if_neg h1]; rfl
   rw [hm]
   have hn1 : (n : Int) + 1 = ((n + 1 : Nat) : Int) := by omega
   cases fr with
   | true =>
    have c2 := pSymbol_spec 107 (n + 1) (by omega)
    have e107 : ((107 : UInt8).toNat : Int) = 107 := rfl
    rw [e107, ← hn1] at c2
    simp only [if_true]
    generalize symT 107 ((n : Int) + 1) = T at *
    clear c1 hm hn1 e107
    simp only [makAV_eq, rowM_eq, rowB_eq] at *
    refine Bd Tryz.func136 Tryz.ntmps136 fun σ N hp hpn hk hkn hfree => ?_
    simp only [List.mem_cons, List.not_mem_nil, or_false, forall_eq_or_imp, forall_eq] at hp hpn; obtain ⟨hd1, hd2, hd3, hd4⟩ := hp; obtain ⟨hdn1, hdn2, hdn3, hdn4⟩ := hpn
    have hcs := And.intro c2 True.intro
    clear c2
    refine Wk ?_
    exact RW (d) ((.box 203 (.agg [.agg [.lit (.bool true), tagAV sd, .lit (.int .i64 ((n : Int) + 1)), .slice (some r1) (L.map macAV), .slice (some r2) (B.map sealAV)], .lit (.int .i64 0)])))
   | false =>
    have c2 := hDerive_spec sd (n + 1) (by omega) g
    have cf := Fail_spec ⟨false, sd, (n : Int) + 1, L, B⟩ 0 0
    rw [if_pos rfl] at cf
    unfold makE at cf
    rw [← hn1] at c2
    simp only [Bool.false_eq_true, if_false]
    generalize derT sd ((n : Int) + 1) = T at *
    have e00 : ((0 : Nat) : Int) = 0 := rfl
    clear c1 hm hn1
    simp only [makAV_eq, rowM_eq, rowB_eq, e00] at *
    refine Bd Tryz.func136 Tryz.ntmps136 fun σ N hp hpn hk hkn hfree => ?_
    simp only [List.mem_cons, List.not_mem_nil, or_false, forall_eq_or_imp, forall_eq] at hp hpn; obtain ⟨hd1, hd2, hd3, hd4⟩ := hp; obtain ⟨hdn1, hdn2, hdn3, hdn4⟩ := hpn
    have hne : d ≠ r1 := by rintro rfl; rw [hd1] at hd2; cases hd2
    have hne3 : d ≠ r2 := by rintro rfl; rw [hd1] at hd3; cases hd3
    have hneg : g ≠ d := by rintro rfl; rw [hd4] at hd1; exact shaG_nbox hd1
    have hcs := And.intro c2 (And.intro (cf d r1 r2) True.intro)
    clear c2 cf
    refine Wk ?_
    exact RW (d) ((.box 203 (.agg [.agg [.lit (.bool false), tagAV sd, .lit (.int .i64 ((n : Int) + 1)), .slice (some r1) (L.map macAV), .slice (some r2) (B.map sealAV)], .lit (.int .i64 0)])))
 ·have hm : mKey ⟨fr, sd, (n : Int), L, B⟩ e = (⟨fr, sd, (n : Int), L, B⟩, e, zeroTag) := by unfold mKey; rw [if_pos he0]
  rw [hm]
  rw [if_neg he0] at c1
  have hei : ((e : Int) != 0) = true := by simp; omega
  by_cases h1 : (65536 : Int) ≤ (n : Int)
  ·simp only [makAV_eq, rowM_eq, rowB_eq] at *
   refine Bd Tryz.func136 Tryz.ntmps136 fun σ N hp hpn hk hkn hfree => ?_
   simp only [List.mem_cons, List.not_mem_nil, or_false, forall_eq_or_imp, forall_eq] at hp hpn; obtain ⟨hd1, hd2, hd3, hd4⟩ := hp; obtain ⟨hdn1, hdn2, hdn3, hdn4⟩ := hpn
   have hcs := And.intro (c1 d r1 r2) True.intro
   clear c1 hm
   refine Wk ?_
   exact RW (d) ((.box 203 (.agg [.agg [.lit (.bool fr), tagAV sd, .lit (.int .i64 n), .slice (some r1) (L.map macAV), .slice (some r2) (B.map sealAV)], .lit (.int .i64 e)])))
  ·simp only [makAV_eq, rowM_eq, rowB_eq] at *
   refine Bd Tryz.func136 Tryz.ntmps136 fun σ N hp hpn hk hkn hfree => ?_
   simp only [List.mem_cons, List.not_mem_nil, or_false, forall_eq_or_imp, forall_eq] at hp hpn; obtain ⟨hd1, hd2, hd3, hd4⟩ := hp; obtain ⟨hdn1, hdn2, hdn3, hdn4⟩ := hpn
   clear c1 hm
   refine Wk ?_
   exact RW (d) ((.box 203 (.agg [.agg [.lit (.bool fr), tagAV sd, .lit (.int .i64 n), .slice (some r1) (L.map macAV), .slice (some r2) (B.map sealAV)], .lit (.int .i64 e)])))
def mBox (a : Alg) (e : Nat) (key : Tg) (nn : Int) (plain : List UInt8) : Alg × Nat × List UInt8 :=
 if e ≠ 0 then (a, e, []) else match boxL key nn plain a.boxes with
  | some b => (a, 0, b)
  | none => if 65536 ≤ a.boxes.length then (a, 2, []) else ({ a with boxes := a.boxes ++ [⟨key, nn, plain, sealN a key nn plain⟩] }, 0, sealN a key nn plain)
set_option maxHeartbeats 4000000 in
theorem mBox_spec (a : Alg) (e : Nat) (key : Tg) (nn : Int) (plain : List UInt8) (hl : a.boxes.length ≤ 1000000) (hm : ∀ x ∈ a.boxes, x.plain.length ≤ 100000 ∧ x.box.length ≤ 100000) (hp0 : plain.length ≤ 10000) (d r1 r2 g k : Nat) :
  ACall Tryz.prog 184 [.ptr d [] 0, tagAV key, .lit (.int .i64 nn), .slice none (plain.map byteAV), .fn 185 [.view (.lit (.int .i64 nn)), .view (tagAV key), .view (.slice none (plain.map byteAV))]] k (makE a e d r1 r2 ++ [(g, shaG)])
   (.slice none ((mBox a e key nn plain).2.2.map byteAV)) [(d, makB (mBox a e key nn plain).1 (mBox a e key nn plain).2.1 r1 r2), (r2, rowB (mBox a e key nn plain).1.boxes.length)] := by
 obtain ⟨fr, sd, fs, L, B⟩ := a
 simp only at hl hm
 unfold makE
 simp only [List.cons_append, List.nil_append]
 by_cases he0 : e = 0
 ·subst he0
  have c2 := IndexB_spec B key nn plain hl hm (by omega)
  cases he : boxL key nn plain B with
  | some t =>
   have hmb : mBox ⟨fr, sd, fs, L, B⟩ 0 key nn plain = (⟨fr, sd, fs, L, B⟩, 0, t) := by unfold mBox; simp only [he]; rfl
   rw [hmb]
   obtain ⟨i, hi, hfi, hti⟩ := bI_some B 0 he
   rw [hfi, Nat.zero_add] at c2
   have hbt : t.length ≤ 100000 := by rw [← hti]; exact (hm _ (List.getElem_mem hi)).2
   obtain ⟨z, hz⟩ : ∃ z, B[i] = z := ⟨_, rfl⟩
   rw [hz] at hti
   have hzm : (B.map sealAV)[i]? = some (sealAV z) := by rw [List.getElem?_map, List.getElem?_eq_getElem hi, hz]; rfl
   obtain ⟨zk, zn, zp, zb⟩ := z
   simp only at hti
   subst hti
   have hzd : sealAV ⟨zk, zn, zp, zb⟩ = .agg [tagAV zk, .lit (.int .i64 zn), bAV zp, bAV zb] := rfl
   have hzb := bAV_def zb
   have c3 := Clone_spec zb (by omega)
   simp only [makAV_eq, rowM_eq, rowB_eq] at *
   refine Bd Tryz.func184 Tryz.ntmps184 fun σ N hp hpn hk hkn hfree => ?_
   simp only [List.mem_cons, List.not_mem_nil, or_false, forall_eq_or_imp, forall_eq] at hp hpn; obtain ⟨hd1, hd2, hd3, hd4⟩ := hp; obtain ⟨hdn1, hdn2, hdn3, hdn4⟩ := hpn
   have hne : d ≠ r1 := by rintro rfl; rw [hd1] at hd2; cases hd2
   have hne3 : d ≠ r2 := by rintro rfl; rw [hd1] at hd3; cases hd3
   have hneg : g ≠ d := by rintro rfl; rw [hd4] at hd1; exact shaG_nbox hd1
   have hneg1 : g ≠ r2 := by rintro rfl; rw [hd4] at hd3; exact shaG_nrow hd3
   refine Wm ?_
   refine Wz ?_
   refine go_view 6 (id := N) (bt := 29) (x := tagAV key) (by simp (disch := omega) [go_sem, *, -List.reduceReplicate]) (by simp (disch := omega) [go_sem, *, -List.reduceReplicate]) ?_
   refine go_view 7 (id := N + 1) (bt := 3) (x := .lit (.int .i64 nn)) (by simp (disch := omega) [go_sem, *, -List.reduceReplicate]) (by simp (disch := omega) [go_sem, *, -List.reduceReplicate]) ?_
   refine go_view 8 (id := N + 2) (bt := 26) (x := .slice none (plain.map byteAV)) (by simp (disch := omega) [go_sem, *, -List.reduceReplicate]) (by simp (disch := omega) [go_sem, *, -List.reduceReplicate]) ?_
   have hcs := And.intro c2 (And.intro c3 True.intro)
   clear c2 c3 hm he hfi hmb
   refine Wk ?_
   exact RV2 (d) ((.box 203 (.agg [.agg [.lit (.bool fr), tagAV sd, .lit (.int .i64 fs), .slice (some r1) (L.map macAV), .slice (some r2) (B.map sealAV)], .lit (.int .i64 0)]))) (r2) ((.row 151 35 B.length))
  | none =>
   rw [bI_none B 0 he] at c2
   have c3 := pSymbol_spec 98 (B.length + 1) (by omega)
   have e98 : ((98 : UInt8).toNat : Int) = 98 := rfl
   have hn1 : ((B.length + 1 : Nat) : Int) = (B.length : Int) + 1 := by omega
   rw [e98, hn1] at c3
   by_cases hf : 65536 ≤ B.length
   ·have hmb : mBox ⟨fr, sd, fs, L, B⟩ 0 key nn plain = (⟨fr, sd, fs, L, B⟩, 2, []) := by unfold mBox; simp only [he, if_pos hf]; rfl
    rw [hmb]
    have hfi : (65536 : Int) < (B.length : Int) + 1 := by omega
    have c1 := Fail_spec ⟨fr, sd, fs, L, B⟩ 0 2
    rw [if_pos rfl] at c1
    unfold makE at c1
    have e02 : ((2 : Nat) : Int) = 2 := rfl
    clear c3 e98 hn1
    simp only [makAV_eq, rowM_eq, rowB_eq, e02] at *
    refine Bd Tryz.func184 Tryz.ntmps184 fun σ N hp hpn hk hkn hfree => ?_
    simp only [List.mem_cons, List.not_mem_nil, or_false, forall_eq_or_imp, forall_eq] at hp hpn; obtain ⟨hd1, hd2, hd3, hd4⟩ := hp; obtain ⟨hdn1, hdn2, hdn3, hdn4⟩ := hpn
    have hne : d ≠ r1 := by rintro rfl; rw [hd1] at hd2; cases hd2
    have hne3 : d ≠ r2 := by rintro rfl; rw [hd1] at hd3; cases hd3
    have hneg : g ≠ d := by rintro rfl; rw [hd4] at hd1; exact shaG_nbox hd1
    have hneg1 : g ≠ r2 := by rintro rfl; rw [hd4] at hd3; exact shaG_nrow hd3
    refine Wm ?_
    refine Wz ?_
    refine go_view 6 (id := N) (bt := 29) (x := tagAV key) (by simp (disch := omega) [go_sem, *, -List.reduceReplicate]) (by simp (disch := omega) [go_sem, *, -List.reduceReplicate]) ?_
    refine go_view 7 (id := N + 1) (bt := 3) (x := .lit (.int .i64 nn)) (by simp (disch := omega) [go_sem, *, -List.reduceReplicate]) (by simp (disch := omega) [go_sem, *, -List.reduceReplicate]) ?_
    refine go_view 8 (id := N + 2) (bt := 26) (x := .slice none (plain.map byteAV)) (by simp (disch := omega) [go_sem, *, -List.reduceReplicate]) (by simp (disch := omega) [go_sem, *, -List.reduceReplicate]) ?_
    have hcs := And.intro c2 (And.intro (c1 d r1 r2) True.intro)
    clear c1 c2 hm he hmb
    refine Wk ?_
    exact RV2 (d) ((.box 203 (.agg [.agg [.lit (.bool fr), tagAV sd, .lit (.int .i64 fs), .slice (some r1) (L.map macAV), .slice (some r2) (B.map sealAV)], .lit (.int .i64 2)]))) (r2) ((.row 151 35 B.length))
   ·have hfi : ¬ (65536 : Int) < (B.length : Int) + 1 := by omega
    have hb : (B.length + 1) * 88 ≤ 140737488355328 := by omega
    have hb0 : B.length * 88 ≤ 140737488355328 := by omega
    have hb1 : B.length ≤ 140737488355327 := by omega
    have hsl := sealN_len ⟨fr, sd, fs, L, B⟩ key nn plain
    obtain ⟨bb, hbb⟩ : ∃ bb, sealN ⟨fr, sd, fs, L, B⟩ key nn plain = bb := ⟨_, rfl⟩
    have hmb : mBox ⟨fr, sd, fs, L, B⟩ 0 key nn plain = (⟨fr, sd, fs, L, B ++ [⟨key, nn, plain, bb⟩]⟩, 0, bb) := by unfold mBox; simp only [he, if_neg hf, hbb]; rfl
    rw [hbb] at hsl
    rw [hmb]
    have hL2 : (B ++ [(⟨key, nn, plain, bb⟩ : BoxE)]).map sealAV = B.map sealAV ++ [.agg [tagAV key, .lit (.int .i64 nn), .slice none (plain.map byteAV), .slice none (bb.map byteAV)]] := by rw [List.map_append]; rfl
    have hL3 : (B ++ [(⟨key, nn, plain, bb⟩ : BoxE)]).length = B.length + 1 := by simp
    have c4 := bInto1_spec key nn plain (by omega) g
    have c5 := Clone_spec plain (by omega)
    have c6 := Clone_spec bb (by omega)
    have hbbT : fr = true → bb = (symT 98 ((B.length : Int) + 1)).1 ++ List.replicate (plain.length + 8) 0 := fun h => by subst h; rw [← hbb]; rfl
    have hbbF : fr = false → bb = sealB key.1 nn plain := fun h => by subst h; rw [← hbb]; rfl
    clear hbb
    generalize symT 98 ((B.length : Int) + 1) = T at *
    have ht1 := tagAV_sz T
    have ht2 := tagAV_cell T
    obtain ⟨pz, hpz⟩ : ∃ pz, T.1 ++ List.replicate (plain.length + 8) 0 = pz := ⟨_, rfl⟩
    have hpzm : T.1.map byteAV ++ List.replicate ((plain.length : Int) + 8).toNat (AV.lit (.int .u8 0)) = pz.map byteAV := by
     rw [← hpz, List.map_append, List.map_replicate, show ((plain.length : Int) + 8).toNat = plain.length + 8 by omega]; rfl
    have hpzl : 32 + ((plain.length : Int) + 8).toNat = pz.length := by rw [← hpz, List.length_append, List.length_replicate, T.2]; omega
    have hpz2 : pz.length ≤ 20000 := by omega
    cases fr with
    | true =>
     have hbz : bb = pz := (hbbT rfl).trans hpz
     subst hbz
     clear hbbT hbbF hpz
     obtain ⟨T, hT⟩ := T
     have htA : tagAV ⟨T, hT⟩ = .agg (T.map byteAV) := rfl
     simp only [htA] at c3 ht1 ht2 hpzm
     clear htA
     simp only [makAV_eq, rowM_eq, rowB_eq, hL2, hL3] at *
     refine Bd Tryz.func184 Tryz.ntmps184 fun σ N hp hpn hk hkn hfree => ?_
     simp only [List.mem_cons, List.not_mem_nil, or_false, forall_eq_or_imp, forall_eq] at hp hpn; obtain ⟨hd1, hd2, hd3, hd4⟩ := hp; obtain ⟨hdn1, hdn2, hdn3, hdn4⟩ := hpn
     have hne : d ≠ r1 := by rintro rfl; rw [hd1] at hd2; cases hd2
     have hne3 : d ≠ r2 := by rintro rfl; rw [hd1] at hd3; cases hd3
     have hneg : g ≠ d := by rintro rfl; rw [hd4] at hd1; exact shaG_nbox hd1
     have hneg1 : g ≠ r2 := by rintro rfl; rw [hd4] at hd3; exact shaG_nrow hd3
     refine Wm ?_
     refine Wz ?_
     refine go_view 6 (id := N) (bt := 29) (x := tagAV key) (by simp (disch := omega) [go_sem, *, -List.reduceReplicate]) (by simp (disch := omega) [go_sem, *, -List.reduceReplicate]) ?_
     refine go_view 7 (id := N + 1) (bt := 3) (x := .lit (.int .i64 nn)) (by simp (disch := omega) [go_sem, *, -List.reduceReplicate]) (by simp (disch := omega) [go_sem, *, -List.reduceReplicate]) ?_
     refine go_view 8 (id := N + 2) (bt := 26) (x := .slice none (plain.map byteAV)) (by simp (disch := omega) [go_sem, *, -List.reduceReplicate]) (by simp (disch := omega) [go_sem, *, -List.reduceReplicate]) ?_
     have hcs := And.intro c2 (And.intro c3 True.intro)
     iterate 6 refine Wz ?_
     clear hcs
     (apply go_region; · (simp only [List.length_cons, List.length_nil, Nat.reduceAdd, Nat.add_assoc]; rfl))
     refine go_sliceWhole (id := N + 29 + 2) (path := []) (off := 0) (bt := 29) (c := .agg (T.map byteAV)) (ys := T.map byteAV) (by simp (disch := omega) [go_sem, *, -List.reduceReplicate]) (by simp (disch := omega) [go_sem, *, -List.reduceReplicate]) pa29 rfl rfl (by rw [List.length_map]; exact hT) (bytes_all1 T) (by unfold maxLen; omega) ?_
     refine Wm ?_
     refine go_appendzC (xs := T.map byteAV) (q := (plain.length : Int) + 8) (by simp (disch := omega) [go_sem, *, -List.reduceReplicate]) si26 it3 rfl (by simp) (by simp (disch := omega) [go_sem, *, -List.reduceReplicate]; try rfl) (by omega) (bytes_all1 T) (by rw [List.length_map, hT, hpzl]; omega) (by rw [List.length_map, hT, hpzl]; omega) ?_
     rw [hpzm, List.length_map, hT, hpzl]
     have hcs := And.intro c5 (And.intro c6 True.intro)
     clear c2 c3 c4 c5 c6 hm he hmb hL2 hL3 hpzm
     refine Wk ?_
     exact RV2 (d) ((.box 203 (.agg [.agg [.lit (.bool true), tagAV sd, .lit (.int .i64 fs), .slice (some r1) (L.map macAV), .slice (some r2) (B.map sealAV ++ [.agg [tagAV key, .lit (.int .i64 nn), .slice none (plain.map byteAV), .slice none (bb.map byteAV)]])], .lit (.int .i64 0)]))) (r2) ((.row 151 35 (B.length + 1)))
    | false =>
     rw [← hbbF rfl] at c4
     clear hbbT hbbF hpz
     obtain ⟨T, hT⟩ := T
     have htA : tagAV ⟨T, hT⟩ = .agg (T.map byteAV) := rfl
     simp only [htA] at c3 ht1 ht2 hpzm
     clear htA
     simp only [makAV_eq, rowM_eq, rowB_eq, hL2, hL3] at *
     refine Bd Tryz.func184 Tryz.ntmps184 fun σ N hp hpn hk hkn hfree => ?_
     simp only [List.mem_cons, List.not_mem_nil, or_false, forall_eq_or_imp, forall_eq] at hp hpn; obtain ⟨hd1, hd2, hd3, hd4⟩ := hp; obtain ⟨hdn1, hdn2, hdn3, hdn4⟩ := hpn
     have hne : d ≠ r1 := by rintro rfl; rw [hd1] at hd2; cases hd2
     have hne3 : d ≠ r2 := by rintro rfl; rw [hd1] at hd3; cases hd3
     have hneg : g ≠ d := by rintro rfl; rw [hd4] at hd1; exact shaG_nbox hd1
     have hneg1 : g ≠ r2 := by rintro rfl; rw [hd4] at hd3; exact shaG_nrow hd3
     refine Wm ?_
     refine Wz ?_
     refine go_view 6 (id := N) (bt := 29) (x := tagAV key) (by simp (disch := omega) [go_sem, *, -List.reduceReplicate]) (by simp (disch := omega) [go_sem, *, -List.reduceReplicate]) ?_
     refine go_view 7 (id := N + 1) (bt := 3) (x := .lit (.int .i64 nn)) (by simp (disch := omega) [go_sem, *, -List.reduceReplicate]) (by simp (disch := omega) [go_sem, *, -List.reduceReplicate]) ?_
     refine go_view 8 (id := N + 2) (bt := 26) (x := .slice none (plain.map byteAV)) (by simp (disch := omega) [go_sem, *, -List.reduceReplicate]) (by simp (disch := omega) [go_sem, *, -List.reduceReplicate]) ?_
     have hcs := And.intro c2 (And.intro c3 True.intro)
     iterate 6 refine Wz ?_
     clear hcs
     (apply go_region; · (simp only [List.length_cons, List.length_nil, Nat.reduceAdd, Nat.add_assoc]; rfl))
     refine go_sliceWhole (id := N + 29 + 2) (path := []) (off := 0) (bt := 29) (c := .agg (T.map byteAV)) (ys := T.map byteAV) (by simp (disch := omega) [go_sem, *, -List.reduceReplicate]) (by simp (disch := omega) [go_sem, *, -List.reduceReplicate]) pa29 rfl rfl (by rw [List.length_map]; exact hT) (bytes_all1 T) (by unfold maxLen; omega) ?_
     refine Wm ?_
     refine go_appendzC (xs := T.map byteAV) (q := (plain.length : Int) + 8) (by simp (disch := omega) [go_sem, *, -List.reduceReplicate]) si26 it3 rfl (by simp) (by simp (disch := omega) [go_sem, *, -List.reduceReplicate]; try rfl) (by omega) (bytes_all1 T) (by rw [List.length_map, hT, hpzl]; omega) (by rw [List.length_map, hT, hpzl]; omega) ?_
     rw [hpzm, List.length_map, hT, hpzl]
     have hcs := And.intro (c4) (And.intro c5 (And.intro c6 True.intro))
     clear c2 c3 c4 c5 c6 hm he hmb hL2 hL3 hpzm
     refine Wk ?_
     exact RV2 (d) ((.box 203 (.agg [.agg [.lit (.bool false), tagAV sd, .lit (.int .i64 fs), .slice (some r1) (L.map macAV), .slice (some r2) (B.map sealAV ++ [.agg [tagAV key, .lit (.int .i64 nn), .slice none (plain.map byteAV), .slice none (bb.map byteAV)]])], .lit (.int .i64 0)]))) (r2) ((.row 151 35 (B.length + 1)))
 ·have hmb : mBox ⟨fr, sd, fs, L, B⟩ e key nn plain = (⟨fr, sd, fs, L, B⟩, e, []) := by unfold mBox; rw [if_pos he0]
  rw [hmb]
  have hei : ((e : Int) != 0) = true := by simp; omega
  simp only [makAV_eq, rowM_eq, rowB_eq] at *
  refine Bd Tryz.func184 Tryz.ntmps184 fun σ N hp hpn hk hkn hfree => ?_
  simp only [List.mem_cons, List.not_mem_nil, or_false, forall_eq_or_imp, forall_eq] at hp hpn; obtain ⟨hd1, hd2, hd3, hd4⟩ := hp; obtain ⟨hdn1, hdn2, hdn3, hdn4⟩ := hpn
  have hne : d ≠ r1 := by rintro rfl; rw [hd1] at hd2; cases hd2
  have hne3 : d ≠ r2 := by rintro rfl; rw [hd1] at hd3; cases hd3
  have hneg : g ≠ d := by rintro rfl; rw [hd4] at hd1; exact shaG_nbox hd1
  have hneg1 : g ≠ r2 := by rintro rfl; rw [hd4] at hd3; exact shaG_nrow hd3
  clear hm hmb
  refine Wk ?_
  exact RV2 (d) ((.box 203 (.agg [.agg [.lit (.bool fr), tagAV sd, .lit (.int .i64 fs), .slice (some r1) (L.map macAV), .slice (some r2) (B.map sealAV)], .lit (.int .i64 e)]))) (r2) ((.row 151 35 B.length))
end
end Go.Proofs.YtdmjpolnbmoehaaGreatDoor

namespace Go.Proofs.YtdmjpolnbmoehaaGreatDoor
open Go.Ab
set_option maxHeartbeats 2000000 in
theorem eight_be8 (L : List UInt8) (h : L.length = 8) : eightB (be8 L : Int) = L := by
 obtain ⟨a, b, c, d, e, f, g, i, rfl⟩ : ∃ a b c d e f g i, L = [a, b, c, d, e, f, g, i] := by
  match L, h with
  | [a, b, c, d, e, f, g, i], _ => exact ⟨a, b, c, d, e, f, g, i, rfl⟩
 have ha := a.toNat_lt
 have hb := b.toNat_lt
 have hc := c.toNat_lt
 have hd := d.toNat_lt
 have he := e.toNat_lt
 have hf := f.toNat_lt
 have hg := g.toNat_lt
 have hi := i.toNat_lt
 obtain ⟨m, hm⟩ : ∃ m : Int, ((be8 [a, b, c, d, e, f, g, i] : Nat) : Int) = m := ⟨_, rfl⟩
 rw [hm]
 simp only [be8, List.foldl_cons, List.foldl_nil] at hm
 have d7 : m / 72057594037927936 % 256 = a.toNat := by omega
 have d6 : m / 281474976710656 % 256 = b.toNat := by omega
 have d5 : m / 1099511627776 % 256 = c.toNat := by omega
 have d4 : m / 4294967296 % 256 = d.toNat := by omega
 have d3 : m / 16777216 % 256 = e.toNat := by omega
 have d2 : m / 65536 % 256 = f.toNat := by omega
 have d1 : m / 256 % 256 = g.toNat := by omega
 have d0 : m % 256 = i.toNat := by omega
 have e7 := sh8_toNat m 56
 have e6 := sh8_toNat m 48
 have e5 := sh8_toNat m 40
 have e4 := sh8_toNat m 32
 have e3 := sh8_toNat m 24
 have e2 := sh8_toNat m 16
 have e1 := sh8_toNat m 8
 have e0 := sh8_toNat m 0
 simp only [Int.reducePow, Int.pow_zero, Int.ediv_one] at e7 e6 e5 e4 e3 e2 e1 e0
 rw [d7] at e7
 rw [d6] at e6
 rw [d5] at e5
 rw [d4] at e4
 rw [d3] at e3
 rw [d2] at e2
 rw [d1] at e1
 rw [d0] at e0
 have key : ∀ x y : UInt8, (x.toNat : Int) = (y.toNat : Int) → x = y := fun x y h => UInt8.toNat_inj.1 (by exact_mod_cast h)
 unfold eightB
 rw [key (sh8 m 56) a e7, key (sh8 m 48) b e6, key (sh8 m 40) c e5, key (sh8 m 32) d e4, key (sh8 m 24) e e3, key (sh8 m 16) f e2, key (sh8 m 8) g e1, key (sh8 m 0) i e0]
end Go.Proofs.YtdmjpolnbmoehaaGreatDoor

namespace Go.Proofs.YtdmjpolnbmoehaaGreatDoor
open Go.Ab
attribute [local irreducible] Go.Ab.tyAV Go.Ab.aw Go.Ab.aops Go.Ab.kReg Go.Ab.aThen Go.Ab.aBlk Go.Ab.acond Go.Ab.aguard Go.Ab.astep Go.Ab.AStepX Go.Ab.aRet
attribute [local irreducible] shaG
section
variable [W : W32]
theorem mBox_macs (a : Alg) (e : Nat) (key : Tg) (nn : Int) (plain : List UInt8) : (mBox a e key nn plain).1.macs = a.macs := by
 unfold mBox
 split
 ·rfl
 ·split
  ·rfl
  ·split <;> rfl
def bxE (e : Nat) (nn : Int) (plain : List UInt8) : Nat := if e = 0 then (if nn < 0 ∨ 281474976710656 < nn then 1 else if 256 < plain.length then 2 else 0) else e
def bxInto (a : Alg) (e : Nat) (key : Tg) (nn : Int) (plain : List UInt8) : Alg × Nat × List UInt8 := mBox a (bxE e nn plain) key nn plain
theorem bxInto_seal (a : Alg) (key : Tg) (nn : Int) (plain : List UInt8) : sealS a key nn plain = if (bxInto a 0 key nn plain).2.1 = 0 then ((bxInto a 0 key nn plain).1, (bxInto a 0 key nn plain).2.2, 0) else (alg0, [], (bxInto a 0 key nn plain).2.1) := by
 unfold sealS bxInto bxE mBox
 rw [if_pos rfl]
 by_cases h1 : nn < 0 ∨ 281474976710656 < nn
 ·rw [if_pos h1, if_pos h1]; rfl
 ·rw [if_neg h1, if_neg h1]
  by_cases h2 : 256 < plain.length
  ·rw [if_pos h2, if_pos h2]; rfl
  ·rw [if_neg h2, if_neg h2]
   simp only [ne_eq, not_true_eq_false, if_false]
   cases boxL key nn plain a.boxes with
   | some b => rfl
   | none =>
    by_cases h3 : 65536 ≤ a.boxes.length
    ·simp only [if_pos h3]; rfl
    ·simp only [if_neg h3]; rfl
set_option maxHeartbeats 2000000 in
theorem bxInto_spec (a : Alg) (e : Nat) (key : Tg) (nn : Int) (plain : List UInt8) (hl : a.boxes.length ≤ 1000000) (hm : ∀ x ∈ a.boxes, x.plain.length ≤ 100000 ∧ x.box.length ≤ 100000) (hp0 : plain.length ≤ 10000) (d r1 r2 g k : Nat) :
  ACall Tryz.prog 132 [.ptr d [] 0, tagAV key, .lit (.int .i64 nn), .slice none (plain.map byteAV)] k (makE a e d r1 r2 ++ [(g, shaG)])
   (.slice none ((bxInto a e key nn plain).2.2.map byteAV)) [(d, makB (bxInto a e key nn plain).1 (bxInto a e key nn plain).2.1 r1 r2), (r2, rowB (bxInto a e key nn plain).1.boxes.length)] := by
 unfold bxInto bxE
 by_cases h1 : nn < 0
 ·rw [if_pos (show nn < 0 ∨ 281474976710656 < nn from .inl h1)]
  have c1 := Fail_spec a e 1 d r1 r2
  have c2 := mBox_spec a (if e = 0 then 1 else e) key nn plain hl hm hp0 d r1 r2 g
  have hmx := mBox_macs a (if e = 0 then 1 else e) key nn plain
  generalize (if e = 0 then 1 else e) = e1 at *
  generalize mBox a e1 key nn plain = X at *
  obtain ⟨a2, e2, b2⟩ := X
  simp only at c2 hmx ⊢
  unfold makE at *
  simp only [List.cons_append, List.nil_append] at *
  have e01 : ((1 : Nat) : Int) = 1 := rfl
  simp only [makB_def, rowM_eq, rowB_eq, hmx, e01] at *
  clear hm hmx e01
  refine Bd Tryz.func132 Tryz.ntmps132 fun σ N hp hpn hk hkn hfree => ?_
  simp only [List.mem_cons, List.not_mem_nil, or_false, forall_eq_or_imp, forall_eq] at hp hpn; obtain ⟨hd1, hd2, hd3, hd4⟩ := hp; obtain ⟨hdn1, hdn2, hdn3, hdn4⟩ := hpn
  have hne : d ≠ r1 := by rintro rfl; rw [hd1] at hd2; cases hd2
  have hne3 : d ≠ r2 := by rintro rfl; rw [hd1] at hd3; cases hd3
  have hneg : g ≠ d := by rintro rfl; rw [hd4] at hd1; exact shaG_nbox hd1
  have hneg1 : g ≠ r2 := by rintro rfl; rw [hd4] at hd3; exact shaG_nrow hd3
  refine Wm ?_
  refine Wz ?_
  refine go_view 5 (id := N) (bt := 29) (x := tagAV key) (by simp (disch := omega) [go_sem, *, -List.reduceReplicate]) (by simp (disch := omega) [go_sem, *, -List.reduceReplicate]) ?_
  refine go_view 6 (id := N + 1) (bt := 3) (x := .lit (.int .i64 nn)) (by simp (disch := omega) [go_sem, *, -List.reduceReplicate]) (by simp (disch := omega) [go_sem, *, -List.reduceReplicate]) ?_
  refine go_view 7 (id := N + 2) (bt := 26) (x := .slice none (plain.map byteAV)) (by simp (disch := omega) [go_sem, *, -List.reduceReplicate]) (by simp (disch := omega) [go_sem, *, -List.reduceReplicate]) ?_
  have hcs := And.intro c1 (And.intro c2 True.intro)
  clear c1 c2
  refine Wk ?_
  exact RV2 (d) ((.box 203 (.agg [.agg [.lit (.bool a2.free), tagAV a2.seed, .lit (.int .i64 a2.fresh), .slice (some r1) (a.macs.map macAV), .slice (some r2) (a2.boxes.map sealAV)], .lit (.int .i64 (e2 : Int))]))) (r2) ((.row 151 35 a2.boxes.length))
 by_cases h2 : 281474976710656 < nn
 ·rw [if_pos (show nn < 0 ∨ 281474976710656 < nn from .inr h2)]
  have c1 := Fail_spec a e 1 d r1 r2
  have c2 := mBox_spec a (if e = 0 then 1 else e) key nn plain hl hm hp0 d r1 r2 g
  have hmx := mBox_macs a (if e = 0 then 1 else e) key nn plain
  generalize (if e = 0 then 1 else e) = e1 at *
  generalize mBox a e1 key nn plain = X at *
  obtain ⟨a2, e2, b2⟩ := X
  simp only at c2 hmx ⊢
  unfold makE at *
  simp only [List.cons_append, List.nil_append] at *
  have e01 : ((1 : Nat) : Int) = 1 := rfl
  simp only [makB_def, rowM_eq, rowB_eq, hmx, e01] at *
  clear hm hmx e01
  refine Bd Tryz.func132 Tryz.ntmps132 fun σ N hp hpn hk hkn hfree => ?_
  simp only [List.mem_cons, List.not_mem_nil, or_false, forall_eq_or_imp, forall_eq] at hp hpn; obtain ⟨hd1, hd2, hd3, hd4⟩ := hp; obtain ⟨hdn1, hdn2, hdn3, hdn4⟩ := hpn
  have hne : d ≠ r1 := by rintro rfl; rw [hd1] at hd2; cases hd2
  have hne3 : d ≠ r2 := by rintro rfl; rw [hd1] at hd3; cases hd3
  have hneg : g ≠ d := by rintro rfl; rw [hd4] at hd1; exact shaG_nbox hd1
  have hneg1 : g ≠ r2 := by rintro rfl; rw [hd4] at hd3; exact shaG_nrow hd3
  refine Wm ?_
  refine Wz ?_
  refine go_view 5 (id := N) (bt := 29) (x := tagAV key) (by simp (disch := omega) [go_sem, *, -List.reduceReplicate]) (by simp (disch := omega) [go_sem, *, -List.reduceReplicate]) ?_
  refine go_view 6 (id := N + 1) (bt := 3) (x := .lit (.int .i64 nn)) (by simp (disch := omega) [go_sem, *, -List.reduceReplicate]) (by simp (disch := omega) [go_sem, *, -List.reduceReplicate]) ?_
  refine go_view 7 (id := N + 2) (bt := 26) (x := .slice none (plain.map byteAV)) (by simp (disch := omega) [go_sem, *, -List.reduceReplicate]) (by simp (disch := omega) [go_sem, *, -List.reduceReplicate]) ?_
  have hcs := And.intro c1 (And.intro c2 True.intro)
  clear c1 c2
  refine Wk ?_
  exact RV2 (d) ((.box 203 (.agg [.agg [.lit (.bool a2.free), tagAV a2.seed, .lit (.int .i64 a2.fresh), .slice (some r1) (a.macs.map macAV), .slice (some r2) (a2.boxes.map sealAV)], .lit (.int .i64 (e2 : Int))]))) (r2) ((.row 151 35 a2.boxes.length))
 rw [if_neg (show ¬ (nn < 0 ∨ 281474976710656 < nn) by omega)]
 by_cases h3 : 256 < plain.length
 ·rw [if_pos h3]
  have h3i : (256 : Int) < (plain.length : Int) := by omega
  have c1 := Fail_spec a e 2 d r1 r2
  have c2 := mBox_spec a (if e = 0 then 2 else e) key nn plain hl hm hp0 d r1 r2 g
  have hmx := mBox_macs a (if e = 0 then 2 else e) key nn plain
  generalize (if e = 0 then 2 else e) = e1 at *
  generalize mBox a e1 key nn plain = X at *
  obtain ⟨a2, e2, b2⟩ := X
  simp only at c2 hmx ⊢
  unfold makE at *
  simp only [List.cons_append, List.nil_append] at *
  have e02 : ((2 : Nat) : Int) = 2 := rfl
  simp only [makB_def, rowM_eq, rowB_eq, hmx, e02] at *
  clear hm hmx e02
  refine Bd Tryz.func132 Tryz.ntmps132 fun σ N hp hpn hk hkn hfree => ?_
  simp only [List.mem_cons, List.not_mem_nil, or_false, forall_eq_or_imp, forall_eq] at hp hpn; obtain ⟨hd1, hd2, hd3, hd4⟩ := hp; obtain ⟨hdn1, hdn2, hdn3, hdn4⟩ := hpn
  have hne : d ≠ r1 := by rintro rfl; rw [hd1] at hd2; cases hd2
  have hne3 : d ≠ r2 := by rintro rfl; rw [hd1] at hd3; cases hd3
  have hneg : g ≠ d := by rintro rfl; rw [hd4] at hd1; exact shaG_nbox hd1
  have hneg1 : g ≠ r2 := by rintro rfl; rw [hd4] at hd3; exact shaG_nrow hd3
  refine Wm ?_
  refine Wz ?_
  refine go_view 5 (id := N) (bt := 29) (x := tagAV key) (by simp (disch := omega) [go_sem, *, -List.reduceReplicate]) (by simp (disch := omega) [go_sem, *, -List.reduceReplicate]) ?_
  refine go_view 6 (id := N + 1) (bt := 3) (x := .lit (.int .i64 nn)) (by simp (disch := omega) [go_sem, *, -List.reduceReplicate]) (by simp (disch := omega) [go_sem, *, -List.reduceReplicate]) ?_
  refine go_view 7 (id := N + 2) (bt := 26) (x := .slice none (plain.map byteAV)) (by simp (disch := omega) [go_sem, *, -List.reduceReplicate]) (by simp (disch := omega) [go_sem, *, -List.reduceReplicate]) ?_
  have hcs := And.intro c1 (And.intro c2 True.intro)
  clear c1 c2
  refine Wk ?_
  exact RV2 (d) ((.box 203 (.agg [.agg [.lit (.bool a2.free), tagAV a2.seed, .lit (.int .i64 a2.fresh), .slice (some r1) (a.macs.map macAV), .slice (some r2) (a2.boxes.map sealAV)], .lit (.int .i64 (e2 : Int))]))) (r2) ((.row 151 35 a2.boxes.length))
 ·rw [if_neg h3]
  have h3i : ¬ (256 : Int) < (plain.length : Int) := by omega
  rw [show (if e = 0 then 0 else e) = e by split <;> omega]
  have c1 := True.intro
  have c2 := mBox_spec a e key nn plain hl hm hp0 d r1 r2 g
  have hmx := mBox_macs a e key nn plain
  generalize mBox a e key nn plain = X at *
  obtain ⟨a2, e2, b2⟩ := X
  simp only at c2 hmx ⊢
  unfold makE at *
  simp only [List.cons_append, List.nil_append] at *
  simp only [makB_def, rowM_eq, rowB_eq, hmx] at *
  clear hm hmx
  refine Bd Tryz.func132 Tryz.ntmps132 fun σ N hp hpn hk hkn hfree => ?_
  simp only [List.mem_cons, List.not_mem_nil, or_false, forall_eq_or_imp, forall_eq] at hp hpn; obtain ⟨hd1, hd2, hd3, hd4⟩ := hp; obtain ⟨hdn1, hdn2, hdn3, hdn4⟩ := hpn
  have hne : d ≠ r1 := by rintro rfl; rw [hd1] at hd2; cases hd2
  have hne3 : d ≠ r2 := by rintro rfl; rw [hd1] at hd3; cases hd3
  have hneg : g ≠ d := by rintro rfl; rw [hd4] at hd1; exact shaG_nbox hd1
  have hneg1 : g ≠ r2 := by rintro rfl; rw [hd4] at hd3; exact shaG_nrow hd3
  refine Wm ?_
  refine Wz ?_
  refine go_view 5 (id := N) (bt := 29) (x := tagAV key) (by simp (disch := omega) [go_sem, *, -List.reduceReplicate]) (by simp (disch := omega) [go_sem, *, -List.reduceReplicate]) ?_
  refine go_view 6 (id := N + 1) (bt := 3) (x := .lit (.int .i64 nn)) (by simp (disch := omega) [go_sem, *, -List.reduceReplicate]) (by simp (disch := omega) [go_sem, *, -List.reduceReplicate]) ?_
  refine go_view 7 (id := N + 2) (bt := 26) (x := .slice none (plain.map byteAV)) (by simp (disch := omega) [go_sem, *, -List.reduceReplicate]) (by simp (disch := omega) [go_sem, *, -List.reduceReplicate]) ?_
  have hcs := And.intro c2 True.intro
  clear c1 c2
  refine Wk ?_
  exact RV2 (d) ((.box 203 (.agg [.agg [.lit (.bool a2.free), tagAV a2.seed, .lit (.int .i64 a2.fresh), .slice (some r1) (a.macs.map macAV), .slice (some r2) (a2.boxes.map sealAV)], .lit (.int .i64 (e2 : Int))]))) (r2) ((.row 151 35 a2.boxes.length))
end

def o8 (a b : UInt8) : UInt8 := a ||| b
theorem o8_eq (a b : UInt8) : bits .or .u8 (a.toNat : Int) (b.toNat : Int) = ((o8 a b).toNat : Int) := by
 have ha := a.toNat_lt
 have hb := b.toNat_lt
 have h2 := (a ||| b).toNat_lt
 have h3 : (BitVec.ofInt 8 (a.toNat : Int) ||| BitVec.ofInt 8 (b.toNat : Int)).toNat = (a ||| b).toNat := by
  rw [UInt8.toNat_or, BitVec.toNat_or]
  congr 1
  ·rw [BitVec.ofInt_natCast, BitVec.toNat_ofNat]; exact Nat.mod_eq_of_lt ha
  ·rw [BitVec.ofInt_natCast, BitVec.toNat_ofNat]; exact Nat.mod_eq_of_lt hb
 show IntKind.u8.wrap (((BitVec.ofInt 8 (a.toNat : Int) ||| BitVec.ofInt 8 (b.toNat : Int)).toNat : Nat) : Int) = _
 rw [h3, IntKind.wrap_u8]
 unfold o8
 omega
theorem x8_zero {a b : UInt8} : x8 a b = 0 ↔ a = b := by
 rw [x8_xor]; exact UInt8.xor_eq_zero_iff
theorem o8_zero {a b : UInt8} : o8 a b = 0 ↔ a = 0 ∧ b = 0 := by
 unfold o8; exact UInt8.or_eq_zero_iff
theorem hEqual_spec (a b : List UInt8) (ha : a.length ≤ 100000) (_hb : b.length ≤ 100000) (k : Nat) :
  ACall Tryz.prog 144 [.slice none (a.map byteAV), .slice none (b.map byteAV)] k [] (.lit (.bool (decide (a = b)))) [] := by
 by_cases hl : a.length = b.length
 ·refine Bd Tryz.func144 Tryz.ntmps144 fun σ N hp hpn hk hkn hfree => ?_
  refine Wk ?_
  refine go_loopF mixed (by kernel_rfl) [5, 6, 14, 15, 16, 17, 18, 19, 20, 21, 22, 23, 24, 25, 26, 27, 28] [] (fun m_ s_ σ_ n_ => ∃ (u : Nat) (d : UInt8), m_ = a.length - u ∧ s_ 14 = .lit (.int .i64 u) ∧ s_ 5 = .lit (.int .u8 d.toNat) ∧ (u ≤ a.length) ∧ (d = 0 ↔ a.take u = b.take u)) ⟨_, 0, 0, rfl, WF, WF, WC, WC⟩ ?_
  intro m_1 s_1 σ_1 n_1 hs_1 hf_1 hn_1 hI_1
  obtain ⟨u, d, hm_1, h1_14, h1_5, hu, hd⟩ := hI_1
  have h1_0 := KS hs_1 0
  have h1_1 := KS hs_1 1
  have h1_4 := KS hs_1 4
  have h1_13 := KS hs_1 13
  have hlow := KL (N := N) (σ := σ) hf_1
  by_cases hul : u = a.length
  ·have hr : decide (d = 0) = decide (a = b) := by
    have : (d = 0) ↔ a = b := by
     rw [hd, hul, List.take_length, hl, List.take_length]
    simp only [this]
   have hr2 : ((d.toNat : Int) == 0) = decide (a = b) := by
    rw [← hr]
    by_cases h0 : d = 0
    ·subst h0; rfl
    ·rw [decide_eq_false h0, beq_eq_false_iff_ne]
     intro h1
     exact h0 (UInt8.toNat_inj.1 (by simpa using h1))
   have hr3 : decide ((d.toNat : Int) = 0) = decide (a = b) := hr2
   generalize decide (a = b) = R at *
   subst hul
   clear hd hr
   exact W0
  ·have hua : u < a.length := by omega
   have hub : u < b.length := by omega
   obtain ⟨x, hx⟩ : ∃ x, a[u] = x := ⟨_, rfl⟩
   obtain ⟨y, hy⟩ : ∃ y, b[u] = y := ⟨_, rfl⟩
   have hxx : byteAV x = .lit (.int .u8 x.toNat) := rfl
   have hyy : byteAV y = .lit (.int .u8 y.toNat) := rfl
   have h1 := x8_eq x y
   have h2 := o8_eq d (x8 x y)
   have h3 : o8 d (x8 x y) = 0 ↔ a.take (u + 1) = b.take (u + 1) := by
    rw [o8_zero, x8_zero, hd, List.take_succ_eq_append_getElem hua, List.take_succ_eq_append_getElem hub, hx, hy]
    constructor
    ·rintro ⟨e1, e2⟩; rw [e1, e2]
    ·intro e
     have := List.append_inj e (by rw [List.length_take, List.length_take]; omega)
     exact ⟨this.1, by simpa using this.2⟩
   clear hd
   generalize x8 x y = v at *
   generalize o8 d v = w at *
   refine Wk ?_
   exact ⟨WS, WG, WN, _, (show a.length - (u + 1) < m_1 by omega), u + 1, w, rfl, WF, WF, WC, WC⟩
 ·rw [decide_eq_false (fun h => hl (by rw [h]))]
  have hl2 : ((a.length : Int) != (b.length : Int)) = true := by simp; omega
  refine Bd Tryz.func144 Tryz.ntmps144 fun σ N hp hpn hk hkn hfree => ?_
  exact W0
section
variable [W : W32]
set_option maxHeartbeats 1000000 in
theorem pOpen_free (sd : Tg) (fs : Int) (L : List MacE) (B : List BoxE) (key : Tg) (b : List UInt8) (hl : B.length ≤ 1000000) (hm : ∀ e ∈ B, e.plain.length ≤ 100000 ∧ e.box.length ≤ 100000) (hb : b.length ≤ 100000) (g k : Nat) :
  ACall Tryz.prog 68 [algAV ⟨true, sd, fs, L, B⟩, tagAV key, .slice none (b.map byteAV)] k [(g, shaG)] (soAV (openS ⟨true, sd, fs, L, B⟩ key b)) [] := by
 unfold openS
 rw [if_pos rfl]
 simp only
 generalize hR : openL key b B = R
 refine Bd Tryz.func68 Tryz.ntmps68 fun σ N hp hpn hk hkn hfree => ?_
 obtain ⟨hd, hdn⟩ := HD0 hp hpn; clear hp hpn
 have haA : algAV ⟨true, sd, fs, L, B⟩ = .agg [.lit (.bool true), tagAV sd, .lit (.int .i64 fs), .slice none (L.map macAV), .slice none (B.map sealAV)] := rfl
 refine Wk ?_
 refine go_loopF mixed (by kernel_rfl) [6, 7, 9, 17, 18, 19, 20, 21, 22, 23, 24, 25, 26, 27, 28, 29, 30, 31, 32, 33, 34] [N, N+1] (fun m_ s_ σ_ n_ => ∃ (u : Nat), m_ = B.length - u ∧ s_ 17 = .lit (.int .i64 u) ∧ σ_ (N) = .box 38 (.agg [.lit (.bool true), tagAV sd, .lit (.int .i64 fs), .slice none (L.map macAV), .slice none (B.map sealAV)]) ∧ σ_ (N+1) = .box 29 (tagAV key) ∧ (u ≤ B.length) ∧ (openL key b (B.drop u) = R)) ⟨_, 0, rfl, WF, WF, WF, WC, WC⟩ ?_
 intro m_2 s_2 σ_2 n_2 hs_2 hf_2 hn_2 hI_2
 obtain ⟨u, hm_2, h2_17, e2_0, e2_1, hu, hd⟩ := hI_2
 have h2_2 := KS hs_2 2
 have h2_4 := KS hs_2 4
 have h2_15 := KS hs_2 15
 have h2_16 := KS hs_2 16
 have k2_0 := KE hf_2 (g)
 have hlow := KL (N := N) (σ := σ) hf_2
 clear haA
 by_cases hul : u = B.length
 ·subst hul
  rw [List.drop_length] at hd
  simp only [openL] at hd
  subst hd
  clear hR hm
  unfold soAV
  simp only [List.map_nil]
  exact WL
 ·have hu1 : u < B.length := by omega
  rw [List.drop_eq_getElem_cons hu1, openL] at hd
  have hmz := hm _ (List.getElem_mem hu1)
  obtain ⟨z, hz⟩ : ∃ z, B[u] = z := ⟨_, rfl⟩
  rw [hz] at hd hmz
  obtain ⟨zk, zn, zp, zb⟩ := z
  simp only at hd hmz
  have hzd : sealAV ⟨zk, zn, zp, zb⟩ = .agg [tagAV zk, .lit (.int .i64 zn), bAV zp, bAV zb] := rfl
  have hzb := bAV_def zp
  have hzb2 := bAV_def zb
  obtain ⟨hmz1, hmz2⟩ := hmz
  have c1 := Equal_spec zb b (by omega) (by omega)
  have c2 := Clone_spec zp (by omega)
  clear hR hm
  by_cases h1 : zk = key
  ·by_cases h3 : zb = b
   ·rw [if_pos ⟨h1, h3⟩] at hd
    subst hd
    rw [decide_eq_true h3] at c1
    have hcs := And.intro c1 (And.intro c2 True.intro)
    clear c1 c2
    subst h1
    subst h3
    unfold soAV
    simp only
    exact WL
   ·rw [if_neg (fun h => h3 h.2)] at hd
    rw [decide_eq_false h3] at c1
    have hcs := And.intro c1 True.intro
    clear c1 c2
    subst h1
    refine Wk ?_
    exact ⟨WS, WG, WN, _, (show B.length - (u + 1) < m_2 by omega), u + 1, rfl, WF, WF, WF, WC, WC⟩
  ·rw [if_neg (fun h => h1 h.1)] at hd
   have d1 : decide (zk = key) = false := decide_eq_false h1
   clear c1 c2
   refine Wk ?_
   exact ⟨WS, WG, WN, _, (show B.length - (u + 1) < m_2 by omega), u + 1, rfl, WF, WF, WF, WC, WC⟩
set_option maxHeartbeats 1000000 in
theorem pOpen_real (sd : Tg) (fs : Int) (L : List MacE) (B : List BoxE) (key : Tg) (b : List UInt8) (hb : b.length ≤ 100000) (g k : Nat) :
  ACall Tryz.prog 68 [algAV ⟨false, sd, fs, L, B⟩, tagAV key, .slice none (b.map byteAV)] k [(g, shaG)] (soAV (openS ⟨false, sd, fs, L, B⟩ key b)) [] := by
 unfold openS
 rw [if_neg (by simp)]
 have haA : algAV ⟨false, sd, fs, L, B⟩ = .agg [.lit (.bool false), tagAV sd, .lit (.int .i64 fs), .slice none (L.map macAV), .slice none (B.map sealAV)] := rfl
 unfold soAV
 by_cases h1 : b.length < 40
 ·rw [if_pos (.inl h1)]
  have h1i : (b.length : Int) < 40 := by omega
  simp only [List.map_nil]
  refine Bd Tryz.func68 Tryz.ntmps68 fun σ N hp hpn hk hkn hfree => ?_
  obtain ⟨hd, hdn⟩ := HD0 hp hpn; clear hp hpn
  exact WL
 have h1i : ¬ (b.length : Int) < 40 := by omega
 by_cases h2 : 296 < b.length
 ·rw [if_pos (.inr h2)]
  have h2i : (296 : Int) < (b.length : Int) := by omega
  simp only [List.map_nil]
  refine Bd Tryz.func68 Tryz.ntmps68 fun σ N hp hpn hk hkn hfree => ?_
  obtain ⟨hd, hdn⟩ := HD0 hp hpn; clear hp hpn
  exact WL
 have h2i : ¬ (296 : Int) < (b.length : Int) := by omega
 rw [if_neg (by omega)]
 have hn32 : ((b.length : Int) - 32).toNat = b.length - 32 := by omega
 have hn32i : (0 : Int) ≤ (b.length : Int) - 32 := by omega
 have hA1 : (b.map byteAV).take (b.length - 32) = (b.take (b.length - 32)).map byteAV := by rw [List.map_take]
 have hD1 : (b.map byteAV).drop (b.length - 32) = (b.drop (b.length - 32)).map byteAV := by rw [List.map_drop]
 have hD2 : ((b.take (b.length - 32)).map byteAV).drop 8 = ((b.take (b.length - 32)).drop 8).map byteAV := by rw [List.map_drop]
 have hl1 : (b.take (b.length - 32)).length = b.length - 32 := by rw [List.length_take]; omega
 have hl2 : (b.drop (b.length - 32)).length = 32 := by rw [List.length_drop]; omega
 have hL8 : (b.take 8).length = 8 := by rw [List.length_take]; omega
 have hT8 : (b.take (b.length - 32)).take 8 = b.take 8 := by rw [List.take_take, Nat.min_eq_left (by omega)]
 have hE8 := eight_be8 (b.take 8) hL8
 have c1 := bCheck_spec key (b.take (b.length - 32)) (by omega) g
 have c3 := bCrypt_spec key (be8 (b.take 8) : Int) ((b.take (b.length - 32)).drop 8) (by rw [List.length_drop]; omega) g
 rw [hE8] at c3
 have hD3 : ((b.take (b.length - 32)).map byteAV).take 8 = (b.take 8).map byteAV := by rw [← List.map_take, hT8]
 generalize hmacT key.1 ([98, 111, 120] ++ b.take (b.length - 32)) = T at *
 have c2 := hEqual_spec T.1 (b.drop (b.length - 32)) (by rw [T.2]; decide) (by omega)
 have ht1 := tagAV_sz T
 have ht2 := tagAV_cell T
 obtain ⟨T, hT⟩ := T
 have htA : tagAV ⟨T, hT⟩ = .agg (T.map byteAV) := rfl
 simp only [htA] at ht1 ht2 c1 c2 ⊢
 clear htA hE8 hT8
 have htk2 : (T.map byteAV).take 32 = T.map byteAV := List.take_of_length_le (by rw [List.length_map]; omega)
 generalize b.take 8 = N8 at *
 by_cases h3 : T = b.drop (b.length - 32)
 ·rw [if_pos h3]
  rw [decide_eq_true h3] at c2
  simp only
  generalize strmB key.1 (be8 N8 : Int) ((b.take (b.length - 32)).drop 8) = St at *
  clear h3
  generalize (b.take (b.length - 32)).drop 8 = Bq at *
  generalize b.drop (b.length - 32) = Dr at *
  generalize b.take (b.length - 32) = Tk at *
  have hTk : (Tk.map byteAV).take (b.length - 32) = Tk.map byteAV := List.take_of_length_le (by rw [List.length_map]; omega)
  refine Bd Tryz.func68 Tryz.ntmps68 fun σ N hp hpn hk hkn hfree => ?_
  obtain ⟨hd, hdn⟩ := HD0 hp hpn; clear hp hpn
  have hcs := And.intro c1 (And.intro c2 (And.intro c3 True.intro))
  clear c1 c2 c3
  exact WL
 ·rw [if_neg h3]
  rw [decide_eq_false h3] at c2
  simp only [List.map_nil]
  clear h3 c3
  generalize b.drop (b.length - 32) = Dr at *
  generalize b.take (b.length - 32) = Tk at *
  refine Bd Tryz.func68 Tryz.ntmps68 fun σ N hp hpn hk hkn hfree => ?_
  obtain ⟨hd, hdn⟩ := HD0 hp hpn; clear hp hpn
  have hcs := And.intro c1 (And.intro c2 True.intro)
  clear c1 c2
  exact WL
theorem pOpen_spec (a : Alg) (m : Nat) (ha : AlgIn a m) (hm : m ≤ 900000) (key : Tg) (b : List UInt8) (hb : b.length ≤ 100000) (g k : Nat) :
  ACall Tryz.prog 68 [algAV a, tagAV key, .slice none (b.map byteAV)] k [(g, shaG)] (soAV (openS a key b)) [] := by
 obtain ⟨fr, sd, fs, L, B⟩ := a
 cases fr with
 | true => exact pOpen_free sd fs L B key b (by have := ha.bl; simp only at this; omega) ha.bm hb g k
 | false => exact pOpen_real sd fs L B key b hb g k
end
end Go.Proofs.YtdmjpolnbmoehaaGreatDoor

namespace Go.Ab
open Go.RowKit
def LQP (W0 : World) (g : Ghost) (N : Nat) (D : List Deferred) (Q : AExit → Cfg → Prop) (QP : List PanicEntry → Cfg → Prop) : Exit → Act → World → Prop := fun e a w =>
 ∃ c g', g.le g' ∧ SimA W0 g' N c a w ∧ a.defers = D ∧ match e with
  | .normal => Q .normal c
  | .exit id => Q (.exit id) c
  | .ret => Q .ret c
  | .panic ch => QP ch c
  | _ => False
theorem LQP.mono {W0 : World} {g g' : Ghost} {N : Nat} {D D' : List Deferred} {Q : AExit → Cfg → Prop} {QP : List PanicEntry → Cfg → Prop} (hg : g.le g') (hD : D' = D) {e : Exit} {a : Act} {w : World} (h : LQP W0 g' N D' Q QP e a w) : LQP W0 g N D Q QP e a w :=
 let ⟨c, g'', hle, hs, hm, hq⟩ := h
 ⟨c, g'', hg.trans hle, hs, hm.trans hD, hq⟩
def awP (P : Program) (N : Nat) (b : Code) (Q : AExit → Cfg → Prop) (QP : List PanicEntry → Cfg → Prop) (c : Cfg) : Prop :=
 codeOK N b = true → P.follows .mixedOrders = true → ∀ W0 g a w, SimA W0 g N c a w → b.wpIn (wideAt none) 0 P (LQP W0 g N a.defers Q QP) a w
section
variable {P : Program} {N : Nat} {Q : AExit → Cfg → Prop} {QP : List PanicEntry → Cfg → Prop} {c : Cfg}
theorem goP_skip (h : Q .normal c) : awP P N .skip Q QP c := fun _ _ _ g _ _ hS => wpIn_skip ⟨c, g, g.le_refl, hS, rfl, h⟩
theorem goP_ret (h : Q .ret c) : awP P N .ret Q QP c := fun _ _ _ g _ _ hS => wpIn_ret ⟨c, g, g.le_refl, hS, rfl, h⟩
theorem goP_seq {x y : Code} (h : awP P N x (aThen (awP P N y Q QP) Q) QP c) : awP P N (.seq x y) Q QP c := fun hok hmix W0 g a w hS => by
 simp only [codeOK, Bool.and_eq_true] at hok
 refine wpIn_seq (wpIn_mono (h hok.1 hmix W0 g a w hS) fun e a' w' hq => ?_)
 obtain ⟨c', g', hle, hS', hM, hq⟩ := hq
 cases e with
 | normal => exact wpIn_mono (hq hok.2 hmix W0 g' a' w' hS') fun e a w hq => hq.mono hle hM
 | exit id => exact ⟨c', g', hle, hS', hM, hq⟩
 | ret => exact ⟨c', g', hle, hS', hM, hq⟩
 | panic => exact ⟨c', g', hle, hS', hM, hq⟩
 | goto => exact hq.elim
 | outgrown => exact hq.elim
theorem goP_condT {x : Operand} {y z : Code} (hv : aeval c.s x = .lit (.bool true)) (h : awP P N y Q QP c) : awP P N (.cond x y z) Q QP c := fun hok hmix W0 g a w hS => by
 simp only [codeOK, Bool.and_eq_true] at hok
 have hr := hS.eval hok.1.1
 rw [hv] at hr
 exact wpIn_cond_split (rep_lit_inv hr) (fun _ => h hok.1.2 hmix W0 g a w hS) (fun hb' => by cases hb')
theorem goP_condF {x : Operand} {y z : Code} (hv : aeval c.s x = .lit (.bool false)) (h : awP P N z Q QP c) : awP P N (.cond x y z) Q QP c := fun hok hmix W0 g a w hS => by
 simp only [codeOK, Bool.and_eq_true] at hok
 have hr := hS.eval hok.1.1
 rw [hv] at hr
 exact wpIn_cond_split (rep_lit_inv hr) (fun hb' => by cases hb') (fun _ => h hok.2 hmix W0 g a w hS)
theorem goP_block {id : Nat} {b : Code} (h : awP P N b (aBlk id Q) QP c) : awP P N (.block id b) Q QP c := fun hok hmix W0 g a w hS => by
 refine wpIn_block (wpIn_mono (h hok hmix W0 g a w hS) fun e a' w' hq => ?_)
 obtain ⟨c', g', hle, hS', hM, hq⟩ := hq
 cases e with
 | normal => exact ⟨c', g', hle, hS', hM, hq⟩
 | exit id' =>
  simp only [aBlk] at hq
  simp only [Exit.inBlock]
  split at hq
  ·rename_i he; rw [if_pos he]; exact ⟨c', g', hle, hS', hM, hq⟩
  ·rename_i he; rw [if_neg he]; exact ⟨c', g', hle, hS', hM, hq⟩
 | ret => exact ⟨c', g', hle, hS', hM, hq⟩
 | panic => exact ⟨c', g', hle, hS', hM, hq⟩
 | goto => exact hq.elim
 | outgrown => exact hq.elim
theorem goP_scope {b : Code} (h : awP P N b Q QP c) : awP P N (.scope b) Q QP c := fun hok hmix W0 g a w hS => by
 refine wpIn_scope_straight (wpIn_mono (h hok hmix W0 g a w hS) fun e a' w' hq => ?_)
 obtain ⟨c', g', hle, hS', hM, hq⟩ := hq
 cases e with
 | normal => exact ⟨c', g', hle, hS', hM, hq⟩
 | exit id => exact ⟨c', g', hle, hS', hM, hq⟩
 | ret => exact ⟨c', g', hle, hS', hM, hq⟩
 | panic => exact ⟨c', g', hle, hS', hM, hq⟩
 | goto => exact hq.elim
 | outgrown => exact hq.elim
theorem goP_region {id : Nat} {l : List Oper} {draw : Bool} {s : Slots} {σ : Nat → Ent} {n n' : Nat} (hn : n + l.length = n') (h : aops P l.toArray n l 0 [] (kReg l.toArray draw Q) ⟨s, σ, n'⟩) : awP P N (.region id l.toArray draw) Q QP ⟨s, σ, n⟩ := fun hok hmix W0 g a w hS => by
 subst hn
 simp only [codeOK, Bool.and_eq_true, Bool.or_eq_true, Bool.not_eq_true'] at hok
 exact wp_region_ab hmix hok.1 (fun hd => hok.2.resolve_left (by simp [hd])) hS h fun c g' a w hg hs hd hq => ⟨c, g', hg, hs, hd, hq⟩
theorem region_rest {l1 l2 : List Oper} {s : Slots} {σ : Nat → Ent} {n n' : Nat} {K : Cfg → Prop} (hn : n + (l1 ++ l2).length = n') (h : aops P (l1 ++ l2).toArray n l1 0 [] (fun c' _ => K c') ⟨s, σ, n'⟩)
  {W0 : World} {g : Ghost} {a : Act} {w : World} {Q' : Exit → Act → World → Prop} (hN : shapeOK N (l1 ++ l2).toArray = true) (hS : SimA W0 g N ⟨s, σ, n⟩ a w) {id : Nat}
  (hK : ∀ c' g' a' w', g.le g' → SimA W0 g' N c' a' w' → a'.defers = a.defers → n + (l1 ++ l2).length ≤ c'.n → (∀ j, l1.length ≤ j → j < (l1 ++ l2).length → c'.σ (n + j) = .none) → K c' → wpOpsIn (wideAt none) 0 P (l1 ++ l2).toArray Q' (List.range' l1.length l2.length) a' w') :
  (Code.region id (l1 ++ l2).toArray false).wpIn (wideAt none) 0 P Q' a w := by
 subst hn
 obtain ⟨outs, hl, hr⟩ := aops_lex _ _ _ _ h
 have hlex := hr (fun j => outs.getD j default) fun j _ => by simp
 have hS' : SimA W0 g N ⟨s, σ, n + (l1 ++ l2).length⟩ a w := ⟨hS.sim.more (Nat.le_add_right _ _), hS.size, hS.slots⟩
 have hfree : ∀ j, σ (n + j) = .none := fun j => hS.sim.bound _ (Nat.le_add_right _ _)
 refine wpIn_region ?_
 have key := lexA_prefix (ro := none) (m := n) (P := P) (ops := (l1 ++ l2).toArray) (out := fun j => outs.getD j default) (Q := K) (Q' := Q') (W0 := W0) (tl := List.range' l1.length l2.length) g hN l1.length
  (fun c g' a w hg hs hd hn hf hq => hK c g' a w hg hs hd (by simpa using hn) (fun j h1 h2 => hf j h1 (by simpa using h2)) hq) l1 0 ⟨s, σ, n + (l1 ++ l2).length⟩ g a w
  (fun j hj => by simp [List.getElem?_append_left hj]) (Nat.zero_add _) (by simp) g.le_refl hS' rfl (by simp) (fun j _ _ => hfree j) hlex
 have hrg : List.range (l1 ++ l2).toArray.size = List.range' 0 l1.length ++ List.range' l1.length l2.length := by
  have h1 := List.range'_append_1 (s := 0) (m := l1.length) (n := l2.length)
  rw [Nat.zero_add] at h1
  rw [List.range_eq_range', show (l1 ++ l2).toArray.size = l1.length + l2.length by simp, h1]
 rw [hrg]
 exact key
theorem goP_panic {id : Nat} {l1 l2 : List Oper} {s : Slots} {σ : Nat → Ent} {n n' : Nat} {x : Operand} {ty : TypeId} {pos : String} {after : Array Edge} {d : Option Tmp} {T : TypeId}
  (hn : n + (l1 ++ (⟨d, .panic x, ty, pos, after, none⟩ : Oper) :: l2).length = n')
  (h : aops P (l1 ++ (⟨d, .panic x, ty, pos, after, none⟩ : Oper) :: l2).toArray n l1 0 [] (fun c' _ => aeval c'.s x = .iface T (.agg []) ∧ QP [{ v := .iface T (.agg #[]), recovered := false }] c') ⟨s, σ, n'⟩) :
  awP P N (.region id (l1 ++ (⟨d, .panic x, ty, pos, after, none⟩ : Oper) :: l2).toArray false) Q QP ⟨s, σ, n⟩ := fun hok hmix W0 g a w hS => by
 simp only [codeOK, Bool.and_eq_true, Bool.or_eq_true, Bool.not_eq_true'] at hok
 refine region_rest hn h hok.1 hS fun c' g' a' w' hle hS' hd hn' hf hK => ?_
 simp only [List.length_cons]
 rw [List.range'_succ, wpOpsIn_cons]
 have h0 : (l1 ++ (⟨d, .panic x, ty, pos, after, none⟩ : Oper) :: l2).toArray[l1.length]? = some ⟨d, .panic x, ty, pos, after, none⟩ := by simp
 obtain ⟨hop, hdst⟩ := shapeOK_at hok.1 h0
 have hr := hS'.eval (hop x (by simp [Op.operands]))
 rw [hK.1] at hr
 generalize hv : a'.eval x = v at hr
 cases hr with
 | iface _ _ v0 hv0 =>
  cases hv0 with
  | agg _ vs hl _ =>
   have hvs : vs = [] := by simpa using hl
   subst hvs
   unfold wpOpIn
   simp only [h0]
   rw [if_pos (by simp [Region.wanted])]
   refine ⟨fun _ _ => trivial, ?_⟩
   rw [Oper.semAt_none]
   have hrun : (execOp a'.eval (⟨d, .panic x, ty, pos, after, none⟩ : Oper)).run P w' = .halt (.panic (.iface T (.agg (flat []).toArray))) w' := by
    simp only [execOp, hv, Sem.run_bind]
    rfl
   rw [hrun]
   exact ⟨c', g', hle, hS', hd, hK.2⟩
def APanic (P : Program) (f : FuncId) (args : List AV) (k : Nat) (ch : List PanicEntry) : Prop :=
 callable P f = true ∧ ∀ (W0 : World) (g : Ghost) (σ : Nat → Ent) (n : Nat) (w : World) (vals : List Value), Sim W0 g σ n w → vals.length = args.length → (∀ (i : Nat) (x : AV) (v : Value), args[i]? = some x → vals[i]? = some v → Rep g x v) →
  σ k = .none → k < n → Calls P f vals.toArray w fun e w' => e = .panicked ch ∧ ∃ g', g.le g' ∧ Sim W0 g' σ n w'
theorem goP_callPanic {id : Nat} {l1 l2 : List Oper} {s : Slots} {σ : Nat → Ent} {n n' : Nat} {x : Operand} {ty : TypeId} {pos : String} {after : Array Edge} {d : Option Tmp} {args : Array Operand} {ts : Array TypeId} {ch : List PanicEntry}
  (hn : n + (l1 ++ (⟨d, .call { callee := .value x, args := args, argTypes := ts }, ty, pos, after, none⟩ : Oper) :: l2).length = n')
  (h : aops P (l1 ++ (⟨d, .call { callee := .value x, args := args, argTypes := ts }, ty, pos, after, none⟩ : Oper) :: l2).toArray n l1 0 [] (fun c' _ => (∃ f caps, aeval c'.s x = .fn f caps ∧ APanic P f (args.toList.map (aeval c'.s) ++ caps) (n + l1.length) ch) ∧ QP ch c') ⟨s, σ, n'⟩) :
  awP P N (.region id (l1 ++ (⟨d, .call { callee := .value x, args := args, argTypes := ts }, ty, pos, after, none⟩ : Oper) :: l2).toArray false) Q QP ⟨s, σ, n⟩ := fun hok hmix W0 g a w hS => by
 simp only [codeOK, Bool.and_eq_true, Bool.or_eq_true, Bool.not_eq_true'] at hok
 refine region_rest hn h hok.1 hS fun c' g' a' w' hle hS' hd hn' hf hK => ?_
 simp only [List.length_cons]
 rw [List.range'_succ, wpOpsIn_cons]
 have h0 : (l1 ++ (⟨d, .call { callee := .value x, args := args, argTypes := ts }, ty, pos, after, none⟩ : Oper) :: l2).toArray[l1.length]? = some ⟨d, .call { callee := .value x, args := args, argTypes := ts }, ty, pos, after, none⟩ := by simp
 obtain ⟨hop, hdst⟩ := shapeOK_at hok.1 h0
 obtain ⟨⟨f, caps, hx, hc, hrun⟩, hQ⟩ := hK
 have hr := hS'.eval (hop x (by simp [Op.operands, Call.operands]))
 have h2 : ∀ y ∈ args, Rep g' (aeval c'.s y) (a'.eval y) := fun y hy => hS'.eval (hop y (by simp [Op.operands, Call.operands, hy]))
 rw [hx] at hr
 generalize hv : a'.eval x = v at hr
 cases hr with
 | fn _ _ vs hvl hvr =>
  have hexec : (execOp a'.eval (⟨d, .call { callee := .value x, args := args, argTypes := ts }, ty, pos, after, none⟩ : Oper)).run P w' = .ok (.enter f ((args.toList.map a'.eval ++ vs).toArray)) w' := by
   simp only [execOp, resolve, hv, Deferred.ofValue, Sem.run_bind, Sem.run_pure, Result.andThen_ok, invoke]
   rw [run_callFunc hc]
   congr 2
   simp [← Array.toList_map]
  unfold wpOpIn
  simp only [h0]
  rw [if_pos (by simp [Region.wanted])]
  refine ⟨fun _ _ => trivial, ?_⟩
  rw [Oper.semAt_none, hexec]
  have hfr := hf l1.length (Nat.le_refl _) (by simp)
  have hcalls := hrun W0 g' c'.σ c'.n w' (args.toList.map a'.eval ++ vs) hS'.sim (by simp [hvl]) (fun i y u hy hu => by
   by_cases hi : i < args.toList.length
   ·rw [List.getElem?_append_left (by simpa using hi), List.getElem?_map] at hy hu
    cases hz : args.toList[i]? with
    | none => rw [hz] at hy; cases hy
    | some z =>
     rw [hz] at hy hu
     cases hy; cases hu
     exact h2 z (by have := List.mem_of_getElem? hz; simpa using this)
   ·rw [List.getElem?_append_right (by simpa using hi)] at hy hu
    simp only [List.length_map] at hy hu
    exact hvr _ y u hy hu) hfr (by simp at hn'; omega)
  have h' : CallsIn (wideAt none) (0 - 1) P _ _ w' _ := callsIn_wide.2 hcalls
  refine ⟨fun hd => (by cases hd), h'.mono fun e w'' ⟨he, g'', hle', hS''⟩ => ?_⟩
  subst he
  exact ⟨c', g'', hle.trans hle', ⟨hS'', hS'.size, fun t => (hS'.slots t).mono hle'⟩, hd, hQ⟩
end
theorem SimA.init {W0 : World} {g : Ghost} {σ : Nat → Ent} {n : Nat} {w : World} {args : List AV} {vals : List Value} {N : Nat} (hS : Sim W0 g σ n w) (hl : vals.length = args.length) (hv : ∀ (i : Nat) (x : AV) (v : Value), args[i]? = some x → vals[i]? = some v → Rep g x v) (hargs : args.length ≤ N) :
  SimA W0 g N ⟨initS args, σ, n⟩ { tmps := vals.toArray ++ Array.replicate (N - vals.toArray.size) undef, defers := [] } w := by
 refine ⟨hS, by simp; omega, fun t => ?_⟩
 show Rep g (args.getD t (.tup [])) ((vals.toArray ++ Array.replicate (N - vals.toArray.size) undef).getD t undef)
 by_cases ht : t < args.length
 ·have ht' : t < vals.length := by omega
  have := hv t args[t] vals[t] (List.getElem?_eq_getElem ht) (List.getElem?_eq_getElem ht')
  have e1 : args.getD t (.tup []) = args[t] := by simp [List.getD, List.getElem?_eq_getElem ht]
  have e2 : (vals.toArray ++ Array.replicate (N - vals.toArray.size) undef).getD t undef = vals[t] := by simp [Array.getElem?_append, ht']
  rw [e1, e2]; exact this
 ·have e1 : args.getD t (.tup []) = .tup [] := by simp [List.getD, List.getElem?_eq_none (Nat.not_lt.1 ht)]
  have e2 : (vals.toArray ++ Array.replicate (N - vals.toArray.size) undef).getD t undef = undef := by
   rw [Array.getD_eq_getD_getElem?, Array.getElem?_append]
   rw [if_neg (by simp; omega), Array.getElem?_replicate]
   split <;> rfl
  rw [e1, e2]
  exact .tup [] [] rfl fun i x v h _ => by simp at h
theorem APanic.of_body {P : Program} {f : FuncId} {fn : Func} {body : Code} {args : List AV} {k : Nat} {ch : List PanicEntry} (hmix : P.follows .mixedOrders = true) (hf : P.funcs[f]? = some fn) (hb : fn.body = some body)
  (hname : (fn.name == "runtime.NumGoroutine") = false) {N : Nat} (hN : fn.ntmps = N) (hok : codeOK N body = true) (hargs : args.length ≤ N)
  (h : ∀ (σ : Nat → Ent) (n : Nat), σ k = .none → k < n → (∀ id, n ≤ id → σ id = .none) → awP P N body (fun _ _ => False) (fun ch' c' => ch' = ch ∧ ∀ id, id < n → c'.σ id = σ id) ⟨initS args, σ, n⟩) : APanic P f args k ch := by
 refine ⟨by simp [callable, hf, hb, hname], fun W0 g σ n w vals hS hl hv hk hkn => ?_⟩
 subst hN
 refine callsIn_wide.1 (callsIn_of_wp_marks (n := 0) hf hb trivial (wpIn_mono (h σ n hk hkn hS.bound hok hmix W0 g _ w (SimA.init hS hl hv hargs)) fun e a' w' hq => ?_))
 obtain ⟨c', g', hle, hS', hD, hq⟩ := hq
 cases e with
 | panic ch' =>
  obtain ⟨rfl, h3⟩ := hq
  obtain ⟨g2, hle2, hS2, _⟩ := hS.leave hS'.sim hle hk hkn (ws := []) (post := []) (fresh := none) h3 (fun q hq => by cases hq) rfl
  show LeavesInM Fence.wide 0 P fn a'.tmps _ a'.defers (.panicking ch') w'
  rw [hD]
  exact ⟨rfl, g2, hle2, hS2⟩
 | normal => exact hq.elim
 | ret => exact hq.elim
 | exit id => exact hq.elim
 | goto => exact hq.elim
 | outgrown => exact hq.elim
theorem ARet.of {P : Program} {rs : List ResultVar} {k : Nat} {σ0 : Nat → Ent} {n0 : Nat} {pre : Foot} {r : AV} {post : Foot} {c : Cfg} (h : aRet P rs k σ0 n0 pre r post .ret c) : ARet P rs k σ0 n0 pre r post c := h
def ADef (P : Program) (f : FuncId) (caps : List AV) (u u2 : FrameMode) (pre post : Foot) : Prop :=
 callable P f = true ∧ ∀ (W0 : World) (g : Ghost) (σ : Nat → Ent) (n : Nat) (w : World) (vals : List Value), Sim W0 g σ n w → vals.length = caps.length → (∀ (i : Nat) (x : AV) (v : Value), caps[i]? = some x → vals[i]? = some v → Rep g x v) → (∀ p ∈ pre, σ p.1 = p.2) →
  CallsDIn Fence.wide 0 P f vals.toArray u w fun e u' w' => ∃ v, e = .returned v ∧ u' = u2 ∧ ∃ (g' : Ghost) (σ' : Nat → Ent) (n' : Nat), g.le g' ∧ Sim W0 g' σ' n' w' ∧ ∀ id, id < n → σ' id = wr σ post id
theorem ADef.of_recover {P : Program} {f : FuncId} {fn : Func} {idr : Nat} {t : Tmp} {rest : Code} {caps : List AV} {u u2 : FrameMode} {pre post : Foot} {ty : TypeId} {pos : String} {after : Array Edge} {ts : Array TypeId} (rv : AV)
  (hmix : P.follows .mixedOrders = true) (hf : P.funcs[f]? = some fn) (hb : fn.body = some (.seq (.region idr #[(⟨some t, .call { callee := .builtin .recover, args := #[], argTypes := ts }, ty, pos, after, none⟩ : Oper)] false) rest))
  (hname : (fn.name == "runtime.NumGoroutine") = false) {N : Nat} (hN : fn.ntmps = N) (hok1 : codeOK N rest = true) (ht : t < N) (hrs : fn.results = #[]) (hargs : caps.length ≤ N) (hpre : ∀ p ∈ pre, p.2 ≠ .none)
  (hrec : (u = .returning ∧ u2 = .returning ∧ rv = .lit .nilIface) ∨ ∃ T, u = .panicking [{ v := .iface T (.agg #[]), recovered := false }] ∧ u2 = .panicking [{ v := .iface T (.agg #[]), recovered := true }] ∧ rv = .iface T (.agg []))
  (h : ∀ (σ : Nat → Ent) (n : Nat), (∀ p ∈ pre, σ p.1 = p.2) → (∀ p ∈ pre, p.1 < n) → (∀ id, n ≤ id → σ id = .none) → awP P N rest (fun e c => (match e with | .exit _ => False | _ => True) ∧ ∀ id, id < n → c.σ id = wr σ post id) (fun _ _ => False) ⟨upd (initS caps) t rv, σ, n⟩) : ADef P f caps u u2 pre post := by
 refine ⟨by simp [callable, hf, hb, hname], fun W0 g σ n w vals hS hl hv hp => ?_⟩
 subst hN
 have hpn : ∀ p ∈ pre, p.1 < n := fun p hpm => by
  rcases Nat.lt_or_ge p.1 n with h' | h'
  ·exact h'
  ·exact absurd ((hp p hpm).symm.trans (hS.bound p.1 h')) (hpre p hpm)
 have h := h σ n hp hpn hS.bound
 have hSA := SimA.init hS hl hv hargs
 refine callsDIn_of_wpSIn hf hb trivial fun c₀ cs hu => ?_
 generalize ha0 : ({ tmps := vals.toArray ++ Array.replicate (fn.ntmps - vals.toArray.size) undef, defers := [] } : Act) = a0 at *
 have hd0 : a0.defers = [] := by rw [← ha0]
 have go : ∀ (v : Value) (u' : FrameMode), Rep g rv v → rest.wpSIn Fence.wide 0 P (bodyPostS P fn c₀ cs fun e u' w' => ∃ v, e = .returned v ∧ u' = u2 ∧ ∃ (g' : Ghost) (σ' : Nat → Ent) (n' : Nat), g.le g' ∧ Sim W0 g' σ' n' w' ∧ ∀ id, id < n → σ' id = wr σ post id) (a0.put (some t) v) ({ c₀ with mode := u2 } :: cs) w := by
  intro v u' hrv
  refine wpSIn_of_wpIn rfl ?_
  have hSA1 : SimA W0 g fn.ntmps ⟨upd (initS caps) t rv, σ, n⟩ (a0.put (some t) v) w := ⟨hS, by rw [put_size]; exact hSA.size, putA_rep (s := initS caps) (d := some t) hSA.slots hSA.size (fun _ h => by cases h; exact ht) hrv⟩
  refine wpIn_mono (h hok1 hmix W0 g _ w hSA1) fun e a' w' hq => ?_
  obtain ⟨c', g', hle, hS', hD, hq⟩ := hq
  have hfin : (∀ id, id < n → c'.σ id = wr σ post id) → a'.defers = [] ∧ ∃ u', ({ c₀ with mode := u2 } :: cs : List Frame) = { c₀ with mode := u' } :: cs ∧ ∃ v, (results fn a'.tmps).run P w' = .ok v w' ∧ (∃ v', Ending.returned v = .returned v' ∧ u' = u2 ∧ ∃ (g' : Ghost) (σ' : Nat → Ent) (n' : Nat), g.le g' ∧ Sim W0 g' σ' n' w' ∧ ∀ id, id < n → σ' id = wr σ post id) := fun hag =>
   ⟨by rw [hD, put_defers, hd0], u2, rfl, .tuple #[], by rw [results_eq, hrs]; simp [Sem.run_pure], _, rfl, rfl, g', c'.σ, c'.n, hle, hS'.sim, hag⟩
  cases e with
  | normal => exact hfin hq.2
  | ret => exact hfin hq.2
  | exit id => exact hq.1.elim
  | goto => exact hq.elim
  | panic => exact hq.elim
  | outgrown => exact hq.elim
 refine wpSIn_seq (wpSIn_region ?_)
 have hrun : (execOp a0.eval (⟨some t, .call { callee := .builtin .recover, args := #[], argTypes := ts }, ty, pos, after, none⟩ : Oper)).run P w = .ok .recover w := by
  first | rfl | simp [execOp, resolve, Sem.run_bind, Sem.run_pure, Result.andThen] | simp [execOp, go_sem]
 show wpOpsSIn Fence.wide 0 P _ _ [0] a0 (c₀ :: cs) w
 simp only [wpOpsSIn]
 refine ⟨fun _ _ => trivial, ?_⟩
 rw [if_pos (by simp [Region.wanted])]
 have hrun' : (execOp a0.eval #[(⟨some t, .call { callee := .builtin .recover, args := #[], argTypes := ts }, ty, pos, after, none⟩ : Oper)][0]).run P w = .ok .recover w := hrun
 rw [hrun']
 rcases hrec with ⟨rfl, rfl, rfl⟩ | ⟨T, rfl, rfl, rfl⟩
 ·have hc : ({ c₀ with mode := FrameMode.returning } : Frame) = c₀ := by cases c₀; simp only at hu; subst hu; rfl
  have hrc : recoverD (c₀ :: cs) = none := by simp only [recoverD, hu]
  simp only [hrc]
  have key := go .nilIface .returning (.lit _ rfl)
  rw [hc] at key
  exact key
 ·have hrc : recoverD (c₀ :: cs) = some (.iface T (.agg #[]), { c₀ with mode := .panicking [{ v := .iface T (.agg #[]), recovered := true }] } :: cs) := by simp only [recoverD, hu]
  simp only [hrc]
  exact go (.iface T (.agg #[])) .returning (.iface T _ _ (.agg [] [] rfl fun i x v h _ => by simp at h))
theorem ACall.of_bodyD {P : Program} {f : FuncId} {fn : Func} {r0 rest : Code} {idr : Nat} {l : List Oper} {args : List AV} {k : Nat} {pre post : Foot} {r : AV} {x : Operand} {ty : TypeId} {pos : String} {after : Array Edge}
  (hmix : P.follows .mixedOrders = true) (hf : P.funcs[f]? = some fn) (hb : fn.body = some (.seq r0 (.seq (.region idr (l ++ [(⟨none, .defer { callee := .value x, args := #[], argTypes := #[] }, ty, pos, after, none⟩ : Oper)]).toArray false) rest)))
  (hname : (fn.name == "runtime.NumGoroutine") = false) {N : Nat} (hN : fn.ntmps = N) (hok0 : codeOK N r0 = true) (hsh : shapeOK N (l ++ [(⟨none, .defer { callee := .value x, args := #[], argTypes := #[] }, ty, pos, after, none⟩ : Oper)]).toArray = true) (hx0 : opndOK x = true) (hok1 : codeOK N rest = true) {rs : List ResultVar} (hrs : fn.results.toList = rs) (hargs : args.length ≤ N) (hpre : ∀ p ∈ pre, p.2 ≠ .none) (hpost : ∀ q ∈ post, q.1 = k ∨ ∃ p ∈ pre, p.1 = q.1)
  (h : ∀ (σ : Nat → Ent) (n : Nat), (∀ p ∈ pre, σ p.1 = p.2) → (∀ p ∈ pre, p.1 < n) → σ k = .none → k < n → (∀ id, n ≤ id → σ id = .none) →
   awP P N r0 (fun e c => e = .normal ∧ aops P (l ++ [(⟨none, .defer { callee := .value x, args := #[], argTypes := #[] }, ty, pos, after, none⟩ : Oper)]).toArray c.n l 0 [] (fun c1 _ => ∃ fd caps, aeval c1.s x = .fn fd caps ∧
    awP P N rest (fun e c2 => e = .ret ∧ (∃ pr, (∀ p ∈ pr, c2.σ p.1 = p.2) ∧ ADef P fd caps .returning .returning pr []) ∧ ∀ σ' n', (∀ id, id < c2.n → σ' id = c2.σ id) → ARet P rs k σ n pre r post ⟨c2.s, σ', n'⟩)
     (fun ch c2 => ∃ ch2 pr po, (∀ p ∈ pr, c2.σ p.1 = p.2) ∧ settle (.panicking ch2) = .returning ∧ ADef P fd caps (.panicking ch) (.panicking ch2) pr po ∧ ∀ σ' n', (∀ id, id < c2.n → σ' id = wr c2.σ po id) → ARet P rs k σ n pre r post ⟨c2.s, σ', n'⟩) c1) ⟨c.s, c.σ, c.n + (l.length + 1)⟩) (fun _ _ => False) ⟨initS args, σ, n⟩) :
  ACall P f args k pre r post := by
 refine ⟨by simp [callable, hf, hb, hname], hpre, hpost, fun W0 g σ n w vals hS hl hv hk hkn hp => ?_⟩
 have hpn : ∀ p ∈ pre, p.1 < n := fun p hpm => by
  rcases Nat.lt_or_ge p.1 n with h' | h'
  ·exact h'
  ·exact absurd ((hp p hpm).symm.trans (hS.bound p.1 h')) (hpre p hpm)
 have h := h σ n hp hpn hk hkn hS.bound
 subst hN
 have fin : ∀ (c2 : Cfg) (g2 : Ghost) (a2 : Act) (w2 : World), g.le g2 → SimA W0 g2 fn.ntmps c2 a2 w2 → ARet P rs k σ n pre r post c2 →
   ∃ v, (results fn a2.tmps).run P w2 = .ok v w2 ∧ ∃ u, Ending.returned v = .returned u ∧ ∃ g', g.le g' ∧ Sim W0 g' (wr σ post) n w2 ∧ Rep g' r u := by
  intro c2 g2 a2 w2 hle hS2 hA
  obtain ⟨r0', r', ws, fresh, h1, hrle, h2, h3, h4, h5⟩ := hA
  have hws : ∀ q ∈ ws, σ q.1 ≠ .none := fun q hq => by obtain ⟨p, hp1, hp2⟩ := h4 q hq; rw [← hp2, hp p hp1]; exact hpre p hp1
  obtain ⟨g3, hle3, hS3, hrep, _⟩ := hS.leave hS2.sim hle hk hkn h3 hws (post := post) (fresh := fresh) (by
   cases fresh with
   | none => exact h5
   | some r0 => exact ⟨h5.1, h5.2.1⟩)
  obtain ⟨u, hu, hrun⟩ := aresults_sound (fn := fn) hS2 (w2 := w2) (fun _ _ _ _ => rfl) (by rw [hrs]; exact h1)
  exact ⟨u, hrun, u, rfl, g3, hle3, hS3, by rw [h2]; exact hrep _ _ (hrle _ _ hu)⟩
 refine callsIn_wide.1 (callsIn_of_wp_marks (n := 0) hf hb trivial ?_)
 refine wpIn_seq (wpIn_mono (h hok0 hmix W0 g _ w (SimA.init hS hl hv hargs)) fun e a1 w1 hq => ?_)
 obtain ⟨c, g1, hle1, hS1, hD1, hq⟩ := hq
 have hnorm : ∀ {e' : AExit}, (e' = AExit.normal ∧ aops P (l ++ [(⟨none, .defer { callee := .value x, args := #[], argTypes := #[] }, ty, pos, after, none⟩ : Oper)]).toArray c.n l 0 [] (fun c1 _ => ∃ fd caps, aeval c1.s x = .fn fd caps ∧
       awP P fn.ntmps rest (fun e c2 => e = .ret ∧ (∃ pr, (∀ p ∈ pr, c2.σ p.1 = p.2) ∧ ADef P fd caps .returning .returning pr []) ∧ ∀ σ' n', (∀ id, id < c2.n → σ' id = c2.σ id) → ARet P rs k σ n pre r post ⟨c2.s, σ', n'⟩)
         (fun ch c2 => ∃ ch2 pr po, (∀ p ∈ pr, c2.σ p.1 = p.2) ∧ settle (.panicking ch2) = .returning ∧ ADef P fd caps (.panicking ch) (.panicking ch2) pr po ∧ ∀ σ' n', (∀ id, id < c2.n → σ' id = wr c2.σ po id) → ARet P rs k σ n pre r post ⟨c2.s, σ', n'⟩) c1) ⟨c.s, c.σ, c.n + (l.length + 1)⟩) → e' ≠ .normal → False := fun h he => he h.1
 cases e with
 | normal =>
  obtain ⟨_, hops⟩ := hq
  show (Code.seq _ _).wpIn _ _ _ _ _ _
  refine wpIn_seq ?_
  obtain ⟨cs, cσ, cn⟩ := c
  refine region_rest (n := cn) (K := fun c1 => ∃ fd caps, aeval c1.s x = .fn fd caps ∧ _) (by simp) hops hsh hS1 fun c1 g2 a2 w2 hle2 hS2 hD2 hn2 hf2 hK => ?_
  obtain ⟨fd, caps, hx, hrest⟩ := hK
  rw [List.length_singleton, List.range'_one, wpOpsIn_cons]
  have h0 : (l ++ [(⟨none, .defer { callee := .value x, args := #[], argTypes := #[] }, ty, pos, after, none⟩ : Oper)]).toArray[l.length]? = some ⟨none, .defer { callee := .value x, args := #[], argTypes := #[] }, ty, pos, after, none⟩ := by simp
  have hr := hS2.eval hx0
  rw [hx] at hr
  generalize hvx : a2.eval x = vx at hr
  cases hr with
  | fn _ _ vs hvl hvr =>
   unfold wpOpIn
   simp only [h0]
   rw [if_pos (by simp [Region.wanted])]
   refine ⟨fun _ _ => trivial, ?_⟩
   rw [Oper.semAt_none]
   have hexec : (execOp a2.eval (⟨none, .defer { callee := .value x, args := #[], argTypes := #[] }, ty, pos, after, none⟩ : Oper)).run P w2 = .ok (.defer { target := .fn (.func fd) vs.toArray, args := #[] }) w2 := by
    simp [execOp, resolve, hvx, Deferred.ofValue, Sem.run_pure]
   rw [hexec, Oper.uponIn_defer]
   show Exit.then _ _ .normal _ _
   have hput : (({ a2 with defers := { target := .fn (.func fd) vs.toArray, args := #[] } :: a2.defers } : Act).put none undef) = { a2 with defers := { target := .fn (.func fd) vs.toArray, args := #[] } :: a2.defers } := rfl
   rw [hput]
   have hdef : a2.defers = [] := hD2.trans hD1
   have hS2' : SimA W0 g2 fn.ntmps c1 { a2 with defers := { target := .fn (.func fd) vs.toArray, args := #[] } :: a2.defers } w2 := ⟨hS2.sim, hS2.size, hS2.slots⟩
   refine wpIn_mono (hrest hok1 hmix W0 g2 _ w2 hS2') fun e a3 w3 hq3 => ?_
   obtain ⟨c2, g3, hle3, hS3, hD3, hq3⟩ := hq3
   have hD4 : a3.defers = [{ target := .fn (.func fd) vs.toArray, args := #[] }] := by rw [hD3, hdef]
   have hle : g.le g3 := (hle1.trans hle2).trans hle3
   have hcaps : ∀ (i : Nat) (y : AV) (u : Value), caps[i]? = some y → vs[i]? = some u → Rep g3 y u := fun i y u hy hu => (hvr i y u hy hu).mono hle3
   have hinv : callable P fd = true → (invoke (.fn (.func fd) vs.toArray) #[]).run P w3 = .ok (.enter fd vs.toArray) w3 := fun hc => by
    simp only [invoke]
    rw [run_callFunc hc]
    simp
   cases e with
   | ret =>
    obtain ⟨_, ⟨pr, hpr, hc, hdf⟩, hA⟩ := hq3
    show LeavesInM Fence.wide 0 P fn a3.tmps _ a3.defers .returning w3
    rw [hD4]
    refine ⟨by simp, .inr ⟨fun hd => (by cases hd), _, _, fd, vs.toArray, rfl, hinv hc, fun _ _ => trivial, ?_⟩⟩
    refine CallsDIn.mono (hdf W0 g3 c2.σ c2.n w3 vs hS3.sim hvl hcaps hpr) fun e u' w4 hh => ?_
    obtain ⟨v, rfl, rfl, g4, σ4, n4, hle4, hS4, hag⟩ := hh
    exact fin ⟨c2.s, σ4, n4⟩ g4 a3 w4 (hle.trans hle4) ⟨hS4, hS3.size, fun t => (hS3.slots t).mono hle4⟩ (hA σ4 n4 hag)
   | panic ch =>
    obtain ⟨ch2, pr, po, hpr, hset, ⟨hc, hdf⟩, hA⟩ := hq3
    show LeavesInM Fence.wide 0 P fn a3.tmps _ a3.defers (.panicking ch) w3
    rw [hD4]
    refine ⟨by simp, .inr ⟨fun hd => (by cases hd), _, _, fd, vs.toArray, rfl, hinv hc, fun _ _ => trivial, ?_⟩⟩
    refine CallsDIn.mono (hdf W0 g3 c2.σ c2.n w3 vs hS3.sim hvl hcaps hpr) fun e u' w4 hh => ?_
    obtain ⟨v, rfl, rfl, g4, σ4, n4, hle4, hS4, hag⟩ := hh
    show LeavesInM Fence.wide 0 P fn a3.tmps _ [] (settle (.panicking ch2)) w4
    rw [hset]
    exact fin ⟨c2.s, σ4, n4⟩ g4 a3 w4 (hle.trans hle4) ⟨hS4, hS3.size, fun t => (hS3.slots t).mono hle4⟩ (hA σ4 n4 hag)
   | normal => exact absurd hq3.1 (by simp)
   | exit id => exact absurd hq3.1 (by simp)
   | goto => exact hq3.elim
   | outgrown => exact hq3.elim
 | exit id => exact (hnorm hq (by simp)).elim
 | ret => exact (hnorm hq (by simp)).elim
 | panic => exact hq.elim
 | goto => exact hq.elim
 | outgrown => exact hq.elim
def ifTy (P : Program) (t : TypeId) : Bool :=
 match P.underlying t with
 | some (.interface _) => true
 | _ => false
theorem run_equalIn_inil {P : Program} {t : TypeId} {ms : Array (String × TypeId)} (hu : P.underlying t = some (.interface ms)) {a : Value} {r : Bool} (ha : (a = .nilIface ∧ r = true) ∨ ∃ T v, a = .iface T v ∧ r = false) (d : Nat) (w : World) : (Op.equalIn (d + 1) t a .nilIface).run P w = .ok r w := by
 rcases ha with ⟨rfl, rfl⟩ | ⟨T, v, rfl, rfl⟩
 ·simp [Op.equalIn, run_underlying hu]
 ·simp [Op.equalIn, run_underlying hu]
theorem holds_ifaceNil {P : Program} {o : Oper} {s : Slots} {id : Nat} {t yt : TypeId} {x : Operand} {r : Bool} (ho : o.op = .binOp .eql t x (.const .nilIface) yt) (ht : ifTy P t = true)
  (hx : (aeval s x = .lit .nilIface ∧ r = true) ∨ ∃ T z, aeval s x = .iface T z ∧ r = false) : OpHolds P o s id [] (.lit (.bool r)) [] :=
 holds_pure fun g w a hr => by
  have h1 := hr x (by simp [ho, Op.operands])
  have hu : ∃ ms, P.underlying t = some (.interface ms) := by
   unfold ifTy at ht
   split at ht
   ·exact ⟨_, by assumption⟩
   ·cases ht
  obtain ⟨ms, hu⟩ := hu
  refine ⟨.bool r, ?_, .lit _ rfl⟩
  have hc : a.eval (.const .nilIface) = .nilIface := rfl
  simp only [execOp, ho, hc]
  rcases hx with ⟨hx, rfl⟩ | ⟨T, z, hx, rfl⟩
  ·rw [hx] at h1
   have hv := rep_lit_inv h1
   rw [hv]
   have hg : eqGuard .eql t x (.const .nilIface) .nilIface .nilIface = pure () := by simp [eqGuard]
   have hb : binOp .eql t .nilIface .nilIface = (do pure (.bool (← Op.equal t .nilIface .nilIface))) := rfl
   rw [hg, hb]
   have he : (Op.equal t .nilIface .nilIface).run P w = .ok true w := run_equalIn_inil hu (.inl ⟨rfl, rfl⟩) 9999 w
   simp only [Sem.run_bind, Sem.run_pure, Result.andThen_ok, he]
  ·rw [hx] at h1
   generalize hv : a.eval x = v at h1
   cases h1 with
   | iface _ _ v0 h0 =>
    have hg : eqGuard .eql t x (.const .nilIface) (.iface T v0) .nilIface = pure () := by simp [eqGuard]
    have hb : binOp .eql t (.iface T v0) .nilIface = (do pure (.bool (← Op.equal t (.iface T v0) .nilIface))) := rfl
    rw [hg, hb]
    have he : (Op.equal t (.iface T v0) .nilIface).run P w = .ok false w := run_equalIn_inil hu (.inr ⟨T, v0, rfl, rfl⟩) 9999 w
    simp only [Sem.run_bind, Sem.run_pure, Result.andThen_ok, he]
theorem go_ifNilT {P : Program} {ops : Array Oper} {m i : Nat} {r : List Oper} {T : Trace} {k : Cfg → Trace → Prop} {s : Slots} {σ : Nat → Ent} {n : Nat} {ty : TypeId} {pos : String} {after : Array Edge} {t : Tmp} {x : Operand} {tx ty2 : TypeId} (ht : ifTy P tx = true) (hx : aeval s x = .lit .nilIface)
  (h : aops P ops m r (i + 1) T k ⟨upd s t (.lit (.bool true)), σ, n⟩) : aops P ops m (⟨some t, .binOp .eql tx x (.const .nilIface) ty2, ty, pos, after, none⟩ :: r) i T k ⟨s, σ, n⟩ :=
 go_own (st := ⟨[], .lit (.bool true), []⟩) (fun o ho => ⟨holds_ifaceNil ho ht (.inl ⟨hx, rfl⟩), fun p hp => by cases hp⟩) h
theorem go_ifNilF {P : Program} {ops : Array Oper} {m i : Nat} {r : List Oper} {T : Trace} {k : Cfg → Trace → Prop} {s : Slots} {σ : Nat → Ent} {n : Nat} {ty : TypeId} {pos : String} {after : Array Edge} {t : Tmp} {x : Operand} {tx ty2 T2 : TypeId} {z : AV} (ht : ifTy P tx = true) (hx : aeval s x = .iface T2 z)
  (h : aops P ops m r (i + 1) T k ⟨upd s t (.lit (.bool false)), σ, n⟩) : aops P ops m (⟨some t, .binOp .eql tx x (.const .nilIface) ty2, ty, pos, after, none⟩ :: r) i T k ⟨s, σ, n⟩ :=
 go_own (st := ⟨[], .lit (.bool false), []⟩) (fun o ho => ⟨holds_ifaceNil ho ht (.inr ⟨T2, z, hx, rfl⟩), fun p hp => by cases hp⟩) h
end Go.Ab

namespace Go.Proofs.YtdmjpolnbmoehaaGreatDoor
open Go.Ab
attribute [local irreducible] Go.Ab.tyAV Go.Ab.aw Go.Ab.aops Go.Ab.kReg Go.Ab.aThen Go.Ab.aBlk Go.Ab.acond Go.Ab.aguard Go.Ab.astep Go.Ab.AStepX Go.Ab.aRet
attribute [local irreducible] shaG
theorem Wst {p q : Prop} (h : q) (h2 : Later q → p := by intro hq; (repeat (first | (apply go_mut; (· assumption); · (simp (disch := omega) [go_sem, *, -List.reduceReplicate]; first | exact ⟨rfl, rfl⟩ | (simp [go_sem, *]; exact ⟨rfl, rfl⟩))) | (apply go_mutP; (· assumption); · (simp (disch := omega) [go_sem, *, -List.reduceReplicate]; try first | rfl | exact ⟨rfl, rfl⟩ | exact ⟨rfl, rfl, rfl⟩)) | (apply go_guard_in; (· rfl); · (simp (disch := omega) [go_sem, *, -List.reduceReplicate]; try first | rfl | omega)) | (apply go_guard_off; (· rfl); · (simp (disch := omega) [go_sem, *, -List.reduceReplicate]; try first | rfl | omega)) | (apply go_guard_no; (· rfl); · (simp (disch := omega) [go_sem, *, -List.reduceReplicate]; try rfl)) | ((first | apply go_move | apply go_assign | apply go_load | apply go_store | apply go_append | apply go_copy | apply go_copy0 | apply go_clear0 | apply go_slice3 | apply go_indexA); · (simp (disch := omega) [go_sem, *, -List.reduceReplicate]; try first | rfl | exact ⟨rfl, rfl⟩ | exact ⟨rfl, rfl, rfl⟩)) | ((first | apply go_loadv | apply go_append0 | apply go_beyond); · (simp (disch := omega) [go_sem, *, -List.reduceReplicate]; try first | rfl | exact ⟨rfl, rfl⟩ | exact ⟨rfl, rfl, rfl⟩)) | (apply go_appself; · (simp (disch := omega) [go_sem, *, -List.reduceReplicate]; try first | rfl | exact ⟨rfl, rfl⟩ | exact ⟨rfl, rfl, rfl⟩)) | ((first | (apply go_appendz; · rfl) | (apply go_new; · rfl) | (apply go_pure; · rfl)); · (simp (disch := omega) [go_sem, *, -List.reduceReplicate]; try first | rfl | exact ⟨rfl, rfl⟩ | exact ⟨rfl, rfl, rfl⟩)) | ((apply go_glob; · assumption); · (simp (disch := omega) [go_sem, *, -List.reduceReplicate]; try first | rfl | exact ⟨rfl, rfl⟩ | exact ⟨rfl, rfl, rfl⟩)) | (apply go_read1; (· rfl); · (simp (disch := omega) [go_sem, *, -List.reduceReplicate]; try first | rfl | exact ⟨rfl, rfl⟩ | exact ⟨rfl, rfl, rfl⟩)) | (apply go_rw1; (· rfl); · (simp (disch := omega) [go_sem, *, -List.reduceReplicate]; try first | rfl | exact ⟨rfl, rfl⟩ | exact ⟨rfl, rfl, rfl⟩)) | (apply go_new1; (· rfl); · (simp (disch := omega) [go_sem, *, -List.reduceReplicate]; try first | rfl | exact ⟨rfl, rfl⟩ | exact ⟨rfl, rfl, rfl⟩)) | (apply go_conv; · (simp (disch := omega) [go_sem, *, -List.reduceReplicate]; try first | rfl | exact ⟨rfl, rfl⟩ | exact ⟨rfl, rfl, rfl⟩)) | ((first | (apply go_new; · rfl) | (apply go_pure; · rfl)); · (simp (disch := omega) [go_sem, *, -List.reduceReplicate]; simp [go_sem, *]; try first | rfl | exact ⟨rfl, rfl⟩)))); exact hq.out) : p := h2 ⟨h⟩
theorem Wgs {p q : Prop} (h : q) (h2 : Later q → p := by intro hq; (repeat (first | apply go_nil | apply go_kreg | (apply go_mut; (· assumption); · (simp (disch := omega) [go_sem, *, -List.reduceReplicate]; first | exact ⟨rfl, rfl⟩ | (simp [go_sem, *]; exact ⟨rfl, rfl⟩))) | (apply go_mutP; (· assumption); · (simp (disch := omega) [go_sem, *, -List.reduceReplicate]; try first | rfl | exact ⟨rfl, rfl⟩ | exact ⟨rfl, rfl, rfl⟩)) | (apply go_guard_in; (· rfl); · (simp (disch := omega) [go_sem, *, -List.reduceReplicate]; try first | rfl | omega)) | (apply go_guard_off; (· rfl); · (simp (disch := omega) [go_sem, *, -List.reduceReplicate]; try first | rfl | omega)) | (apply go_guard_no; (· rfl); · (simp (disch := omega) [go_sem, *, -List.reduceReplicate]; try rfl)) | ((first | apply go_move | apply go_assign | apply go_load | apply go_store | apply go_append | apply go_copy | apply go_copy0 | apply go_clear0 | apply go_slice3 | apply go_indexA); · (simp (disch := omega) [go_sem, *, -List.reduceReplicate]; try first | rfl | exact ⟨rfl, rfl⟩ | exact ⟨rfl, rfl, rfl⟩)) | ((first | apply go_loadv | apply go_append0 | apply go_beyond); · (simp (disch := omega) [go_sem, *, -List.reduceReplicate]; try first | rfl | exact ⟨rfl, rfl⟩ | exact ⟨rfl, rfl, rfl⟩)) | (apply go_appself; · (simp (disch := omega) [go_sem, *, -List.reduceReplicate]; try first | rfl | exact ⟨rfl, rfl⟩ | exact ⟨rfl, rfl, rfl⟩)) | ((first | (apply go_appendz; · rfl) | (apply go_new; · rfl) | (apply go_pure; · rfl)); · (simp (disch := omega) [go_sem, *, -List.reduceReplicate]; try first | rfl | exact ⟨rfl, rfl⟩ | exact ⟨rfl, rfl, rfl⟩)) | ((apply go_glob; · assumption); · (simp (disch := omega) [go_sem, *, -List.reduceReplicate]; try first | rfl | exact ⟨rfl, rfl⟩ | exact ⟨rfl, rfl, rfl⟩)) | (apply go_read1; (· rfl); · (simp (disch := omega) [go_sem, *, -List.reduceReplicate]; try first | rfl | exact ⟨rfl, rfl⟩ | exact ⟨rfl, rfl, rfl⟩)) | (apply go_rw1; (· rfl); · (simp (disch := omega) [go_sem, *, -List.reduceReplicate]; try first | rfl | exact ⟨rfl, rfl⟩ | exact ⟨rfl, rfl, rfl⟩)) | (apply go_new1; (· rfl); · (simp (disch := omega) [go_sem, *, -List.reduceReplicate]; try first | rfl | exact ⟨rfl, rfl⟩ | exact ⟨rfl, rfl, rfl⟩)) | (apply go_conv; · (simp (disch := omega) [go_sem, *, -List.reduceReplicate]; try first | rfl | exact ⟨rfl, rfl⟩ | exact ⟨rfl, rfl, rfl⟩)) | ((first | (apply go_new; · rfl) | (apply go_pure; · rfl)); · (simp (disch := omega) [go_sem, *, -List.reduceReplicate]; simp [go_sem, *]; try first | rfl | exact ⟨rfl, rfl⟩)))); exact hq.out) : p := h2 ⟨h⟩
theorem Wpp {p q : Prop} (h : q) (h2 : Later q → p := by intro hq; (repeat (first | apply goP_seq | apply goP_block | apply goP_scope | apply goP_skip | apply goP_ret | (apply goP_region; · (simp only [List.length_cons, List.length_nil, Nat.reduceAdd, Nat.add_assoc]; rfl)) | apply go_nil | apply go_kreg | apply go_kreg0 | apply go_kreg1 | (apply go_kregT; · (first | (simp [addT, CF, CFy, Ind, DisjF]; done) | (simp only [addT, CF, CFy, Ind]; repeat' (first | exact trivial | apply And.intro | exact Or.inl (by decide +kernel) | (refine Or.inr ⟨?_, ?_⟩ <;> (simp; try omega)))))) | apply go_then | apply go_then_exit | apply go_then_ret | apply go_blk | apply go_blk_ret | apply go_blk_here | (apply go_blk_there; · rfl) | (apply go_ifNilT; (· (kernel_rfl)); (· (simp (disch := omega) [go_sem, *, -List.reduceReplicate]; first | done | rfl))) | (apply go_ifNilF; (· (kernel_rfl)); (· (first | rfl | (simp (disch := omega) [go_sem, *, -List.reduceReplicate]; first | done | rfl | exact ⟨rfl, rfl⟩)))) | (apply go_mut; (· assumption); · (simp (disch := omega) [go_sem, *, -List.reduceReplicate]; first | exact ⟨rfl, rfl⟩ | (simp [go_sem, *]; exact ⟨rfl, rfl⟩))) | (apply go_mutP; (· assumption); · (simp (disch := omega) [go_sem, *, -List.reduceReplicate]; try first | rfl | exact ⟨rfl, rfl⟩ | exact ⟨rfl, rfl, rfl⟩)) | (apply go_guard_in; (· rfl); · (simp (disch := omega) [go_sem, *, -List.reduceReplicate]; try first | rfl | omega)) | (apply go_guard_off; (· rfl); · (simp (disch := omega) [go_sem, *, -List.reduceReplicate]; try first | rfl | omega)) | (apply go_guard_no; (· rfl); · (simp (disch := omega) [go_sem, *, -List.reduceReplicate]; try rfl)) | ((first | apply go_move | apply go_assign | apply go_load | apply go_store | apply go_append | apply go_copy | apply go_copy0 | apply go_clear0 | apply go_slice3 | apply go_indexA); · (simp (disch := omega) [go_sem, *, -List.reduceReplicate]; try first | rfl | exact ⟨rfl, rfl⟩ | exact ⟨rfl, rfl, rfl⟩)) | ((first | apply go_loadv | apply go_append0 | apply go_beyond); · (simp (disch := omega) [go_sem, *, -List.reduceReplicate]; try first | rfl | exact ⟨rfl, rfl⟩ | exact ⟨rfl, rfl, rfl⟩)) | (apply go_appself; · (simp (disch := omega) [go_sem, *, -List.reduceReplicate]; try first | rfl | exact ⟨rfl, rfl⟩ | exact ⟨rfl, rfl, rfl⟩)) | ((first | (apply go_appendz; · rfl) | (apply go_new; · rfl) | (apply go_pure; · rfl)); · (simp (disch := omega) [go_sem, *, -List.reduceReplicate]; try first | rfl | exact ⟨rfl, rfl⟩ | exact ⟨rfl, rfl, rfl⟩)) | ((apply go_glob; · assumption); · (simp (disch := omega) [go_sem, *, -List.reduceReplicate]; try first | rfl | exact ⟨rfl, rfl⟩ | exact ⟨rfl, rfl, rfl⟩)) | (apply go_read1; (· rfl); · (simp (disch := omega) [go_sem, *, -List.reduceReplicate]; try first | rfl | exact ⟨rfl, rfl⟩ | exact ⟨rfl, rfl, rfl⟩)) | (apply go_rw1; (· rfl); · (simp (disch := omega) [go_sem, *, -List.reduceReplicate]; try first | rfl | exact ⟨rfl, rfl⟩ | exact ⟨rfl, rfl, rfl⟩)) | (apply go_new1; (· rfl); · (simp (disch := omega) [go_sem, *, -List.reduceReplicate]; try first | rfl | exact ⟨rfl, rfl⟩ | exact ⟨rfl, rfl, rfl⟩)) | (apply go_conv; · (simp (disch := omega) [go_sem, *, -List.reduceReplicate]; try first | rfl | exact ⟨rfl, rfl⟩ | exact ⟨rfl, rfl, rfl⟩)) | ((first | (apply go_new; · rfl) | (apply go_pure; · rfl)); · (simp (disch := omega) [go_sem, *, -List.reduceReplicate]; simp [go_sem, *]; try first | rfl | exact ⟨rfl, rfl⟩)) | (apply goP_condT; · (simp (disch := omega) [go_sem, *, -List.reduceReplicate]; try first | rfl | omega; done)) | (apply goP_condF; · (simp (disch := omega) [go_sem, *, -List.reduceReplicate]; try first | rfl | omega; done)) | (obtain ⟨hcall, hcs⟩ := hcs; (first | refine go_callw (hcall _) (by simp (disch := omega) [go_sem, *, -List.reduceReplicate]; try rfl) (by simp (disch := omega) [go_sem, *, -List.reduceReplicate]; repeat' first | exact ALe.nil | exact AV.le_refl _ | exact AV.le_nils | exact AV.le_own _ _ | apply ALe.cons | apply AV.sub_agg) (by simp (disch := omega) [go_sem, *, -List.reduceReplicate]) ?_ | refine go_yieldw (hcall _) (by simp (disch := omega) [go_sem, *, -List.reduceReplicate]; try rfl) (by simp (disch := omega) [go_sem, *, -List.reduceReplicate]; repeat' first | exact ALe.nil | exact AV.le_refl _ | exact AV.le_nils | exact AV.le_own _ _ | apply ALe.cons | apply AV.sub_agg) (by simp (disch := omega) [go_sem, *, -List.reduceReplicate]) ?_); clear hcall))); exact hq.out) : p := h2 ⟨h⟩
theorem Wpm {p q : Prop} (h : q) (h2 : Later q → p := by intro hq; (repeat (first | apply goP_seq | apply goP_block | apply goP_scope | apply goP_skip | apply goP_ret | apply go_nil | apply go_kreg | apply go_kreg0 | apply go_kreg1 | (apply go_kregT; · (first | (simp [addT, CF, CFy, Ind, DisjF]; done) | (simp only [addT, CF, CFy, Ind]; repeat' (first | exact trivial | apply And.intro | exact Or.inl (by decide +kernel) | (refine Or.inr ⟨?_, ?_⟩ <;> (simp; try omega)))))) | apply go_then | apply go_then_exit | apply go_then_ret | apply go_blk | apply go_blk_ret | apply go_blk_here | (apply go_blk_there; · rfl) | (apply go_mut; (· assumption); · (simp (disch := omega) [go_sem, *, -List.reduceReplicate]; first | exact ⟨rfl, rfl⟩ | (simp [go_sem, *]; exact ⟨rfl, rfl⟩))) | (apply go_mutP; (· assumption); · (simp (disch := omega) [go_sem, *, -List.reduceReplicate]; try first | rfl | exact ⟨rfl, rfl⟩ | exact ⟨rfl, rfl, rfl⟩)) | (apply go_guard_in; (· rfl); · (simp (disch := omega) [go_sem, *, -List.reduceReplicate]; try first | rfl | omega)) | (apply go_guard_off; (· rfl); · (simp (disch := omega) [go_sem, *, -List.reduceReplicate]; try first | rfl | omega)) | (apply go_guard_no; (· rfl); · (simp (disch := omega) [go_sem, *, -List.reduceReplicate]; try rfl)) | ((first | apply go_move | apply go_assign | apply go_load | apply go_store | apply go_append | apply go_copy | apply go_copy0 | apply go_clear0 | apply go_slice3 | apply go_indexA); · (simp (disch := omega) [go_sem, *, -List.reduceReplicate]; try first | rfl | exact ⟨rfl, rfl⟩ | exact ⟨rfl, rfl, rfl⟩)) | ((first | apply go_loadv | apply go_append0 | apply go_beyond); · (simp (disch := omega) [go_sem, *, -List.reduceReplicate]; try first | rfl | exact ⟨rfl, rfl⟩ | exact ⟨rfl, rfl, rfl⟩)) | (apply go_appself; · (simp (disch := omega) [go_sem, *, -List.reduceReplicate]; try first | rfl | exact ⟨rfl, rfl⟩ | exact ⟨rfl, rfl, rfl⟩)) | ((first | (apply go_appendz; · rfl) | (apply go_new; · rfl) | (apply go_pure; · rfl)); · (simp (disch := omega) [go_sem, *, -List.reduceReplicate]; try first | rfl | exact ⟨rfl, rfl⟩ | exact ⟨rfl, rfl, rfl⟩)) | ((apply go_glob; · assumption); · (simp (disch := omega) [go_sem, *, -List.reduceReplicate]; try first | rfl | exact ⟨rfl, rfl⟩ | exact ⟨rfl, rfl, rfl⟩)) | (apply go_read1; (· rfl); · (simp (disch := omega) [go_sem, *, -List.reduceReplicate]; try first | rfl | exact ⟨rfl, rfl⟩ | exact ⟨rfl, rfl, rfl⟩)) | (apply go_rw1; (· rfl); · (simp (disch := omega) [go_sem, *, -List.reduceReplicate]; try first | rfl | exact ⟨rfl, rfl⟩ | exact ⟨rfl, rfl, rfl⟩)) | (apply go_new1; (· rfl); · (simp (disch := omega) [go_sem, *, -List.reduceReplicate]; try first | rfl | exact ⟨rfl, rfl⟩ | exact ⟨rfl, rfl, rfl⟩)) | (apply go_conv; · (simp (disch := omega) [go_sem, *, -List.reduceReplicate]; try first | rfl | exact ⟨rfl, rfl⟩ | exact ⟨rfl, rfl, rfl⟩)) | ((first | (apply go_new; · rfl) | (apply go_pure; · rfl)); · (simp (disch := omega) [go_sem, *, -List.reduceReplicate]; simp [go_sem, *]; try first | rfl | exact ⟨rfl, rfl⟩)) | (apply goP_condT; · (simp (disch := omega) [go_sem, *, -List.reduceReplicate]; try first | rfl | omega; done)) | (apply goP_condF; · (simp (disch := omega) [go_sem, *, -List.reduceReplicate]; try first | rfl | omega; done)) | (first | (apply go_yieldw (hcs.1 _); (focus (simp (disch := omega) [go_sem, *, -List.reduceReplicate]; (try rfl); done)); (focus (simp (disch := omega) [go_sem, *, -List.reduceReplicate]; (repeat' first | exact ALe.nil | exact AV.le_refl _ | exact AV.le_nils | exact AV.le_own _ _ | apply ALe.cons | apply AV.sub_agg); done)); (focus (simp (disch := omega) [go_sem, *, -List.reduceReplicate]; done)); have hcs := hcs.2) | (first | (apply go_callw (hcs.1 _); (focus (simp (disch := omega) [go_sem, *, -List.reduceReplicate]; (try rfl); done)); (focus (simp (disch := omega) [go_sem, *, -List.reduceReplicate]; (repeat' first | exact ALe.nil | exact AV.le_refl _ | exact AV.le_nils | exact AV.le_own _ _ | apply ALe.cons | apply AV.sub_agg); done)); (focus (simp (disch := omega) [go_sem, *, -List.reduceReplicate]; done)); have hcs := hcs.2) | (have hcs := hcs.2; (first | (apply go_callw (hcs.1 _); (focus (simp (disch := omega) [go_sem, *, -List.reduceReplicate]; (try rfl); done)); (focus (simp (disch := omega) [go_sem, *, -List.reduceReplicate]; (repeat' first | exact ALe.nil | exact AV.le_refl _ | exact AV.le_nils | exact AV.le_own _ _ | apply ALe.cons | apply AV.sub_agg); done)); (focus (simp (disch := omega) [go_sem, *, -List.reduceReplicate]; done)); have hcs := hcs.2) | (have hcs := hcs.2; (first | (apply go_callw (hcs.1 _); (focus (simp (disch := omega) [go_sem, *, -List.reduceReplicate]; (try rfl); done)); (focus (simp (disch := omega) [go_sem, *, -List.reduceReplicate]; (repeat' first | exact ALe.nil | exact AV.le_refl _ | exact AV.le_nils | exact AV.le_own _ _ | apply ALe.cons | apply AV.sub_agg); done)); (focus (simp (disch := omega) [go_sem, *, -List.reduceReplicate]; done)); have hcs := hcs.2) | (have hcs := hcs.2; (first | (apply go_callw (hcs.1 _); (focus (simp (disch := omega) [go_sem, *, -List.reduceReplicate]; (try rfl); done)); (focus (simp (disch := omega) [go_sem, *, -List.reduceReplicate]; (repeat' first | exact ALe.nil | exact AV.le_refl _ | exact AV.le_nils | exact AV.le_own _ _ | apply ALe.cons | apply AV.sub_agg); done)); (focus (simp (disch := omega) [go_sem, *, -List.reduceReplicate]; done)); have hcs := hcs.2) | (have hcs := hcs.2; (first | (apply go_callw (hcs.1 _); (focus (simp (disch := omega) [go_sem, *, -List.reduceReplicate]; (try rfl); done)); (focus (simp (disch := omega) [go_sem, *, -List.reduceReplicate]; (repeat' first | exact ALe.nil | exact AV.le_refl _ | exact AV.le_nils | exact AV.le_own _ _ | apply ALe.cons | apply AV.sub_agg); done)); (focus (simp (disch := omega) [go_sem, *, -List.reduceReplicate]; done)); have hcs := hcs.2) | (have hcs := hcs.2; (first | (apply go_callw (hcs.1 _); (focus (simp (disch := omega) [go_sem, *, -List.reduceReplicate]; (try rfl); done)); (focus (simp (disch := omega) [go_sem, *, -List.reduceReplicate]; (repeat' first | exact ALe.nil | exact AV.le_refl _ | exact AV.le_nils | exact AV.le_own _ _ | apply ALe.cons | apply AV.sub_agg); done)); (focus (simp (disch := omega) [go_sem, *, -List.reduceReplicate]; done)); have hcs := hcs.2) | (have hcs := hcs.2; (first | (apply go_callw (hcs.1 _); (focus (simp (disch := omega) [go_sem, *, -List.reduceReplicate]; (try rfl); done)); (focus (simp (disch := omega) [go_sem, *, -List.reduceReplicate]; (repeat' first | exact ALe.nil | exact AV.le_refl _ | exact AV.le_nils | exact AV.le_own _ _ | apply ALe.cons | apply AV.sub_agg); done)); (focus (simp (disch := omega) [go_sem, *, -List.reduceReplicate]; done)); have hcs := hcs.2) | (have hcs := hcs.2; (apply go_callw (hcs.1 _); (focus (simp (disch := omega) [go_sem, *, -List.reduceReplicate]; (try rfl); done)); (focus (simp (disch := omega) [go_sem, *, -List.reduceReplicate]; (repeat' first | exact ALe.nil | exact AV.le_refl _ | exact AV.le_nils | exact AV.le_own _ _ | apply ALe.cons | apply AV.sub_agg); done)); (focus (simp (disch := omega) [go_sem, *, -List.reduceReplicate]; done)); have hcs := hcs.2)))))))))))))))))); exact hq.out) : p := h2 ⟨h⟩
theorem Wpo {p q : Prop} (h : q) (h2 : Later q → p := by intro hq; (apply goP_region; · (simp only [List.length_cons, List.length_nil, Nat.reduceAdd, Nat.add_assoc]; rfl)); refine Wpm ?_; exact hq.out) : p := h2 ⟨h⟩
theorem pTerms_spec (t : Te) (k : Nat) : ACall Tryz.prog 135 [teAV t] k [] (.lit (.bool (teB t))) [] := by
 obtain ⟨x, y⟩ := t
 unfold teAV
 by_cases h1 : 0 ≤ x
 ·by_cases h2 : x ≤ y
  ·by_cases h3 : y ≤ 150
   ·have hr : teB ⟨x, y⟩ = true := by simp [teB, *]
    rw [hr]
    refine Bd Tryz.func135 Tryz.ntmps135 fun σ N hp hpn hk hkn hfree => ?_
    exact W0
   ·have hr : teB ⟨x, y⟩ = false := by simp [teB, *]
    rw [hr]
    refine Bd Tryz.func135 Tryz.ntmps135 fun σ N hp hpn hk hkn hfree => ?_
    exact W0
  ·have hr : teB ⟨x, y⟩ = false := by simp [teB, *]
   rw [hr]
   refine Bd Tryz.func135 Tryz.ntmps135 fun σ N hp hpn hk hkn hfree => ?_
   exact W0
 ·have hr : teB ⟨x, y⟩ = false := by simp [teB, *]
  rw [hr]
  refine Bd Tryz.func135 Tryz.ntmps135 fun σ N hp hpn hk hkn hfree => ?_
  exact W0
theorem number_ok (b : List UInt8) (hb : b.length ≤ 100000) (n u : Nat) (h : rdS b = (n, u, 0)) (k : Nat) :
  ACall Tryz.prog 210 [.slice none (b.map byteAV)] k [] (.tup [.lit (.int .i64 n), .slice none ((b.drop u).map byteAV)]) [] := by
 have c1 := Read_spec b (by omega)
 have hu := rdS_le b
 rw [h] at c1 hu
 unfold rdAV at c1
 simp only at c1 hu
 have hD : (b.map byteAV).drop u = (b.drop u).map byteAV := by rw [List.map_drop]
 obtain ⟨y, hy⟩ : ∃ y, b.drop u = y := ⟨_, rfl⟩
 rw [hy] at hD ⊢
 clear h hy
 refine Bd Tryz.func210 Tryz.ntmps210 fun σ N hp hpn hk hkn hfree => ?_
 have hcs := And.intro c1 True.intro
 clear c1
 exact W0
def malE (r : Bool) : List PanicEntry := [{ v := .iface 248 (.agg #[]), recovered := r }]
theorem number_bad (b : List UInt8) (hb : b.length ≤ 100000) (h : (rdS b).2.2 ≠ 0) (k : Nat) :
  APanic Tryz.prog 210 [.slice none (b.map byteAV)] k (malE false) := by
 have c1 := Read_spec b (by omega)
 unfold rdAV at c1
 generalize rdS b = X at *
 obtain ⟨n, u, e⟩ := X
 simp only at c1 h
 have hei : ((e : Int) != 0) = true := by simp; omega
 refine APanic.of_body mixed Tryz.func210 rfl (by kernel_rfl) Tryz.ntmps210 (by kernel_rfl) (by simp) fun σ N hk hkn hfree => ?_
 have hcs := And.intro c1 True.intro
 clear c1
 refine Wpm ?_
 iterate 3 (refine Wpo ?_)
 refine goP_panic (T := 248) (l1 := [_, _]) (l2 := []) rfl ?_
 refine Wst ?_
 apply go_nil
 refine ⟨by simp (disch := omega) [go_sem, *, -List.reduceReplicate], rfl, fun id hid => ?_⟩
 simp (disch := omega) only [wr_nil]
theorem read1_ret (i j q : Nat) : ADef Tryz.prog 209 [.ptr i [] 0, .ptr j [] 0, .ptr q [] 0] .returning .returning [] [] := by
 refine ADef.of_recover (.lit .nilIface) mixed Tryz.func209 rfl (by kernel_rfl) Tryz.ntmps209 (by kernel_rfl) (by decide) rfl (by simp) (by simp) (.inl ⟨rfl, rfl, rfl⟩) fun σ N hp hpn hfree => ?_
 refine Wpp ?_
 refine ⟨trivial, fun id hid => ?_⟩
 simp (disch := omega) only [wr_nil]
theorem read1_mal (T1 : Tg) (t1 : Te) (z1 : Int) (i j q : Nat) (hij : i ≠ j) (hiq : i ≠ q) (hjq : j ≠ q) : ADef Tryz.prog 209 [.ptr i [] 0, .ptr j [] 0, .ptr q [] 0] (.panicking (malE false)) (.panicking (malE true))
  [(i, .box 29 (tagAV T1)), (j, .box 104 (teAV t1)), (q, .box 57 (.lit (.int .i64 z1)))] [(i, .box 29 (tagAV zeroTag)), (j, .box 104 (teAV te0)), (q, .box 57 (.lit (.int .i64 5)))] := by
 obtain ⟨ta, tb⟩ := t1
 unfold teAV
 simp only [te0]
 refine ADef.of_recover (.iface 248 (.agg [])) mixed Tryz.func209 rfl (by kernel_rfl) Tryz.ntmps209 (by kernel_rfl) (by decide) rfl (by simp) (by simp) (.inr ⟨_, rfl, rfl, rfl⟩) fun σ N hp hpn hfree => ?_
 simp only [List.mem_cons, List.not_mem_nil, or_false, forall_eq_or_imp, forall_eq] at hp hpn; obtain ⟨hd1, hd2, hd3⟩ := hp; obtain ⟨hdn1, hdn2, hdn3⟩ := hpn
 refine Wpp ?_
 refine ⟨trivial, fun id hid => ?_⟩
 simp only [wr_cons, wr_nil]
 by_cases h1 : id = q
 ·subst h1; simp (disch := omega) only [upd_same]
 by_cases h2 : id = j
 ·subst h2; simp (disch := omega) only [upd_same, upd_ne]
 by_cases h3 : id = i
 ·subst h3; simp (disch := omega) only [upd_same, upd_ne]
 simp (disch := omega) only [upd_ne]
theorem read_short (b : List UInt8) (hb : b.length ≤ 100000) (h : ¬ 32 ≤ b.length) (k : Nat) :
  ACall Tryz.prog 180 [.slice none (b.map byteAV)] k [] (.tup [tagAV zeroTag, teAV te0, .lit (.int .i64 5)]) [] := by
 have hi : (b.length : Int) < 32 := by omega
 refine ACall.of_bodyD (l := [_]) mixed Tryz.func180 rfl (by kernel_rfl) Tryz.ntmps180 (by kernel_rfl) (by kernel_rfl) rfl (by kernel_rfl) rfl (by simp) (by simp) (by simp) fun σ N hp hpn hk hkn hfree => ?_
 (apply goP_region; (· (simp only [List.length_cons, List.length_nil, Nat.reduceAdd]; rfl)))
 refine Wgs ?_
 refine ⟨rfl, ?_⟩
 refine Wst ?_
 apply go_nil
 refine ⟨_, _, rfl, ?_⟩
 refine Wpm ?_
 refine Wpo ?_
 refine goP_panic (T := 248) (l1 := [_, _]) (l2 := []) rfl ?_
 refine Wst ?_
 apply go_nil
 refine ⟨by simp (disch := omega) [go_sem, *, -List.reduceReplicate], ?_⟩
 refine ⟨malE true, _, _, ?_, rfl, read1_mal zeroTag ⟨0, 0⟩ 0 N (N + 1) (N + 2) (by omega) (by omega) (by omega), fun σ' n' hag => ?_⟩
 ·intro p hp
  simp only [List.mem_cons, List.not_mem_nil, or_false] at hp
  rcases hp with rfl | rfl | rfl <;> (simp only [teAV]; simp (disch := omega) [go_sem, *, -List.reduceReplicate])
 ·have q1 : σ' N = .box 29 (tagAV zeroTag) := (hag N (by simp only; omega)).trans (by simp (disch := omega) only [wr_cons, wr_nil, upd_same, upd_ne])
  have q2 : σ' (N + 1) = .box 104 (teAV te0) := (hag (N + 1) (by simp only; omega)).trans (by simp (disch := omega) only [wr_cons, wr_nil, upd_same, upd_ne])
  have q3 : σ' (N + 2) = .box 57 (.lit (.int .i64 5)) := (hag (N + 2) (by simp only; omega)).trans (by simp (disch := omega) only [wr_cons, wr_nil, upd_same])
  have hlow : ∀ id, id < N → σ' id = σ id := fun id hid => (hag id (by simp only; omega)).trans (by simp (disch := omega) only [wr_cons, wr_nil, upd_ne])
  simp only [teAV, te0] at q2 ⊢
  refine ARet.of ?_
  exact go_result (by simp (disch := omega) [go_sem, *, -List.reduceReplicate]; rfl) (by simp (disch := omega) [go_sem]; try rfl) hlow
theorem read_bad1 (b : List UInt8) (hb : b.length ≤ 100000) (h : 32 ≤ b.length) (h1 : (rdS (b.drop 32)).2.2 ≠ 0) (k : Nat) :
  ACall Tryz.prog 180 [.slice none (b.map byteAV)] k [] (.tup [tagAV zeroTag, teAV te0, .lit (.int .i64 5)]) [] := by
 have hi : ¬ (b.length : Int) < 32 := by omega
 have hmin : Nat.min b.length 32 = 32 := Nat.min_eq_right h
 obtain ⟨T, hT⟩ : ∃ T : Tg, T = ⟨b.take 32, by rw [List.length_take]; omega⟩ := ⟨⟨b.take 32, by rw [List.length_take]; omega⟩, rfl⟩
 have hT1 : (b.map byteAV).take 32 = T.1.map byteAV := by rw [hT, List.map_take]
 have hD1 : (b.map byteAV).drop 32 = (b.drop 32).map byteAV := by rw [List.map_drop]
 have hDl : (b.drop 32).length = b.length - 32 := List.length_drop ..
 have c1 := number_bad (b.drop 32) (by omega) h1
 obtain ⟨y, hy⟩ : ∃ y, b.drop 32 = y := ⟨_, rfl⟩
 rw [hy] at hD1 hDl
 rw [hy] at c1
 clear h1 hy hT
 obtain ⟨T, hTl⟩ := T
 have hTA : tagAV ⟨T, hTl⟩ = .agg (T.map byteAV) := rfl
 have hs1 : (AV.agg (T.map byteAV)).sz = 32 := by simp only [AV.sz, szl_bytes]; exact hTl
 have hs2 : (AV.agg (T.map byteAV)).cell = true := celll_bytes T
 have hz32 : (zeroTag.val.map byteAV).drop 32 = [] := rfl
 simp only at hT1
 refine ACall.of_bodyD (l := [_]) mixed Tryz.func180 rfl (by kernel_rfl) Tryz.ntmps180 (by kernel_rfl) (by kernel_rfl) rfl (by kernel_rfl) rfl (by simp) (by simp) (by simp) fun σ N hp hpn hk hkn hfree => ?_
 (apply goP_region; (· (simp only [List.length_cons, List.length_nil, Nat.reduceAdd]; rfl)))
 refine Wgs ?_
 refine ⟨rfl, ?_⟩
 refine Wst ?_
 apply go_nil
 refine ⟨_, _, rfl, ?_⟩
 have M : Mut (N + 8) := ⟨⟩
 refine Wpm ?_
 iterate 3 (refine Wpo ?_)
 refine goP_callPanic (ch := malE false) (l1 := [_]) (l2 := [_, _, _, _, _, _]) rfl ?_
 refine Wst ?_
 apply go_nil
 refine ⟨⟨_, _, rfl, ?_⟩, ?_⟩
 ·refine Eq.mpr (congrArg (fun l => APanic Tryz.prog _ l _ _) ?_) (c1 _)
  simp (disch := omega) [go_sem, *, -List.reduceReplicate]
 ·refine ⟨malE true, _, _, ?_, rfl, read1_mal ⟨T, hTl⟩ ⟨0, 0⟩ 0 N (N + 1) (N + 2) (by omega) (by omega) (by omega), fun σ' n' hag => ?_⟩
  ·intro p hp
   simp only [List.mem_cons, List.not_mem_nil, or_false] at hp
   rcases hp with rfl | rfl | rfl <;> (simp only [teAV]; simp (disch := omega) [go_sem, *, -List.reduceReplicate])
  ·have q1 : σ' N = .box 29 (tagAV zeroTag) := (hag N (by simp only; omega)).trans (by simp (disch := omega) only [wr_cons, wr_nil, upd_same, upd_ne])
   have q2 : σ' (N + 1) = .box 104 (teAV te0) := (hag (N + 1) (by simp only; omega)).trans (by simp (disch := omega) only [wr_cons, wr_nil, upd_same, upd_ne])
   have q3 : σ' (N + 2) = .box 57 (.lit (.int .i64 5)) := (hag (N + 2) (by simp only; omega)).trans (by simp (disch := omega) only [wr_cons, wr_nil, upd_same])
   have hlow : ∀ id, id < N → σ' id = σ id := fun id hid => (hag id (by simp only; omega)).trans (by simp (disch := omega) only [wr_cons, wr_nil, upd_ne])
   simp only [teAV, te0] at q2 ⊢
   refine ARet.of ?_
   exact go_result (by simp (disch := omega) [go_sem, *, -List.reduceReplicate]; rfl) (by simp (disch := omega) [go_sem]; try rfl) hlow
theorem read_bad2 (b : List UInt8) (hb : b.length ≤ 100000) (h : 32 ≤ b.length) (n1 q1 : Nat) (h1 : rdS (b.drop 32) = (n1, q1, 0)) (h2 : (rdS ((b.drop 32).drop q1)).2.2 ≠ 0) (k : Nat) :
  ACall Tryz.prog 180 [.slice none (b.map byteAV)] k [] (.tup [tagAV zeroTag, teAV te0, .lit (.int .i64 5)]) [] := by
 have hi : ¬ (b.length : Int) < 32 := by omega
 have hmin : Nat.min b.length 32 = 32 := Nat.min_eq_right h
 obtain ⟨T, hT⟩ : ∃ T : Tg, T = ⟨b.take 32, by rw [List.length_take]; omega⟩ := ⟨⟨b.take 32, by rw [List.length_take]; omega⟩, rfl⟩
 have hT1 : (b.map byteAV).take 32 = T.1.map byteAV := by rw [hT, List.map_take]
 have hD1 : (b.map byteAV).drop 32 = (b.drop 32).map byteAV := by rw [List.map_drop]
 have hDl : (b.drop 32).length = b.length - 32 := List.length_drop ..
 have hle1 := rdS_le (b.drop 32)
 rw [h1] at hle1
 simp only at hle1
 have c1 := number_ok (b.drop 32) (by omega) n1 q1 h1
 obtain ⟨y2, hy2⟩ : ∃ z, (b.drop 32).drop q1 = z := ⟨_, rfl⟩
 have hy2l : y2.length ≤ b.length := by rw [← hy2, List.length_drop]; omega
 rw [hy2] at c1 h2
 have c2 := number_bad y2 (by omega) h2
 obtain ⟨y, hy⟩ : ∃ y, b.drop 32 = y := ⟨_, rfl⟩
 rw [hy] at hD1 hDl
 rw [hy] at c1
 clear h1 h2 hy hT hy2 hle1
 obtain ⟨T, hTl⟩ := T
 have hTA : tagAV ⟨T, hTl⟩ = .agg (T.map byteAV) := rfl
 have hs1 : (AV.agg (T.map byteAV)).sz = 32 := by simp only [AV.sz, szl_bytes]; exact hTl
 have hs2 : (AV.agg (T.map byteAV)).cell = true := celll_bytes T
 have hz32 : (zeroTag.val.map byteAV).drop 32 = [] := rfl
 simp only at hT1
 have hcs := And.intro c1 True.intro
 clear c1
 refine ACall.of_bodyD (l := [_]) mixed Tryz.func180 rfl (by kernel_rfl) Tryz.ntmps180 (by kernel_rfl) (by kernel_rfl) rfl (by kernel_rfl) rfl (by simp) (by simp) (by simp) fun σ N hp hpn hk hkn hfree => ?_
 (apply goP_region; (· (simp only [List.length_cons, List.length_nil, Nat.reduceAdd]; rfl)))
 refine Wgs ?_
 refine ⟨rfl, ?_⟩
 refine Wst ?_
 apply go_nil
 refine ⟨_, _, rfl, ?_⟩
 have M : Mut (N + 8) := ⟨⟩
 refine Wpm ?_
 iterate 4 (refine Wpo ?_)
 refine goP_callPanic (ch := malE false) (l1 := [_]) (l2 := [_, _, _, _, _, _]) rfl ?_
 refine Wst ?_
 apply go_nil
 refine ⟨⟨_, _, rfl, ?_⟩, ?_⟩
 ·refine Eq.mpr (congrArg (fun l => APanic Tryz.prog _ l _ _) ?_) (c2 _)
  simp (disch := omega) [go_sem, *, -List.reduceReplicate]
 ·refine ⟨malE true, _, _, ?_, rfl, read1_mal ⟨T, hTl⟩ ⟨(n1 : Nat), 0⟩ 0 N (N + 1) (N + 2) (by omega) (by omega) (by omega), fun σ' n' hag => ?_⟩
  ·intro p hp
   simp only [List.mem_cons, List.not_mem_nil, or_false] at hp
   rcases hp with rfl | rfl | rfl <;> (simp only [teAV]; simp (disch := omega) [go_sem, *, -List.reduceReplicate])
  ·have q1 : σ' N = .box 29 (tagAV zeroTag) := (hag N (by simp only; omega)).trans (by simp (disch := omega) only [wr_cons, wr_nil, upd_same, upd_ne])
   have q2 : σ' (N + 1) = .box 104 (teAV te0) := (hag (N + 1) (by simp only; omega)).trans (by simp (disch := omega) only [wr_cons, wr_nil, upd_same, upd_ne])
   have q3 : σ' (N + 2) = .box 57 (.lit (.int .i64 5)) := (hag (N + 2) (by simp only; omega)).trans (by simp (disch := omega) only [wr_cons, wr_nil, upd_same])
   have hlow : ∀ id, id < N → σ' id = σ id := fun id hid => (hag id (by simp only; omega)).trans (by simp (disch := omega) only [wr_cons, wr_nil, upd_ne])
   simp only [teAV, te0] at q2 ⊢
   refine ARet.of ?_
   exact go_result (by simp (disch := omega) [go_sem, *, -List.reduceReplicate]; rfl) (by simp (disch := omega) [go_sem]; try rfl) hlow
theorem read_long (b : List UInt8) (hb : b.length ≤ 100000) (h : 32 ≤ b.length) (n1 q1 : Nat) (h1 : rdS (b.drop 32) = (n1, q1, 0)) (n2 q2 : Nat) (h2 : rdS ((b.drop 32).drop q1) = (n2, q2, 0)) (h3 : 0 < (((b.drop 32).drop q1).drop q2).length) (k : Nat) :
  ACall Tryz.prog 180 [.slice none (b.map byteAV)] k [] (.tup [tagAV zeroTag, teAV te0, .lit (.int .i64 5)]) [] := by
 have hi : ¬ (b.length : Int) < 32 := by omega
 have hmin : Nat.min b.length 32 = 32 := Nat.min_eq_right h
 obtain ⟨T, hT⟩ : ∃ T : Tg, T = ⟨b.take 32, by rw [List.length_take]; omega⟩ := ⟨⟨b.take 32, by rw [List.length_take]; omega⟩, rfl⟩
 have hT1 : (b.map byteAV).take 32 = T.1.map byteAV := by rw [hT, List.map_take]
 have hD1 : (b.map byteAV).drop 32 = (b.drop 32).map byteAV := by rw [List.map_drop]
 have hDl : (b.drop 32).length = b.length - 32 := List.length_drop ..
 have hle1 := rdS_le (b.drop 32)
 rw [h1] at hle1
 simp only at hle1
 have c1 := number_ok (b.drop 32) (by omega) n1 q1 h1
 obtain ⟨y2, hy2⟩ : ∃ z, (b.drop 32).drop q1 = z := ⟨_, rfl⟩
 have hy2l : y2.length ≤ b.length := by rw [← hy2, List.length_drop]; omega
 rw [hy2] at c1 h2
 have hle2 := rdS_le y2
 rw [h2] at hle2
 simp only at hle2
 have c2 := number_ok y2 (by omega) n2 q2 h2
 obtain ⟨z, hzz⟩ : ∃ z, y2.drop q2 = z := ⟨_, rfl⟩
 rw [hy2] at h3
 rw [hzz] at c2 h3
 obtain ⟨y, hy⟩ : ∃ y, b.drop 32 = y := ⟨_, rfl⟩
 rw [hy] at hD1 hDl
 rw [hy] at c1
 clear h1 h2 hy hT hy2 hle1 hzz hle2
 obtain ⟨T, hTl⟩ := T
 have hTA : tagAV ⟨T, hTl⟩ = .agg (T.map byteAV) := rfl
 have hs1 : (AV.agg (T.map byteAV)).sz = 32 := by simp only [AV.sz, szl_bytes]; exact hTl
 have hs2 : (AV.agg (T.map byteAV)).cell = true := celll_bytes T
 have hz32 : (zeroTag.val.map byteAV).drop 32 = [] := rfl
 simp only at hT1
 have h3i : (0 : Int) < (z.length : Int) := by omega
 have hcs := And.intro c1 (And.intro c2 True.intro)
 clear c1 c2
 refine ACall.of_bodyD (l := [_]) mixed Tryz.func180 rfl (by kernel_rfl) Tryz.ntmps180 (by kernel_rfl) (by kernel_rfl) rfl (by kernel_rfl) rfl (by simp) (by simp) (by simp) fun σ N hp hpn hk hkn hfree => ?_
 (apply goP_region; (· (simp only [List.length_cons, List.length_nil, Nat.reduceAdd]; rfl)))
 refine Wgs ?_
 refine ⟨rfl, ?_⟩
 refine Wst ?_
 apply go_nil
 refine ⟨_, _, rfl, ?_⟩
 have M : Mut (N + 8) := ⟨⟩
 refine Wpm ?_
 iterate 6 (refine Wpo ?_)
 refine goP_panic (T := 248) (l1 := [_, _]) (l2 := []) rfl ?_
 refine Wst ?_
 apply go_nil
 refine ⟨by simp (disch := omega) [go_sem, *, -List.reduceReplicate], ?_⟩
 refine ⟨malE true, _, _, ?_, rfl, read1_mal ⟨T, hTl⟩ ⟨(n1 : Nat), (n2 : Nat)⟩ 0 N (N + 1) (N + 2) (by omega) (by omega) (by omega), fun σ' n' hag => ?_⟩
 ·intro p hp
  simp only [List.mem_cons, List.not_mem_nil, or_false] at hp
  rcases hp with rfl | rfl | rfl <;> (simp only [teAV]; simp (disch := omega) [go_sem, *, -List.reduceReplicate])
 ·have q1 : σ' N = .box 29 (tagAV zeroTag) := (hag N (by simp only; omega)).trans (by simp (disch := omega) only [wr_cons, wr_nil, upd_same, upd_ne])
  have q2 : σ' (N + 1) = .box 104 (teAV te0) := (hag (N + 1) (by simp only; omega)).trans (by simp (disch := omega) only [wr_cons, wr_nil, upd_same, upd_ne])
  have q3 : σ' (N + 2) = .box 57 (.lit (.int .i64 5)) := (hag (N + 2) (by simp only; omega)).trans (by simp (disch := omega) only [wr_cons, wr_nil, upd_same])
  have hlow : ∀ id, id < N → σ' id = σ id := fun id hid => (hag id (by simp only; omega)).trans (by simp (disch := omega) only [wr_cons, wr_nil, upd_ne])
  simp only [teAV, te0] at q2 ⊢
  refine ARet.of ?_
  exact go_result (by simp (disch := omega) [go_sem, *, -List.reduceReplicate]; rfl) (by simp (disch := omega) [go_sem]; try rfl) hlow
theorem read_inv (b : List UInt8) (hb : b.length ≤ 100000) (h : 32 ≤ b.length) (n1 q1 : Nat) (h1 : rdS (b.drop 32) = (n1, q1, 0)) (n2 q2 : Nat) (h2 : rdS ((b.drop 32).drop q1) = (n2, q2, 0)) (h3 : ((b.drop 32).drop q1).drop q2 = []) (h4 : teB ⟨(n1 : Nat), (n2 : Nat)⟩ = false) (k : Nat) :
  ACall Tryz.prog 180 [.slice none (b.map byteAV)] k [] (.tup [tagAV zeroTag, teAV te0, .lit (.int .i64 5)]) [] := by
 have c3 := pTerms_spec ⟨(n1 : Nat), (n2 : Nat)⟩
 rw [h4] at c3
 unfold teAV at c3
 simp only at c3
 have hi : ¬ (b.length : Int) < 32 := by omega
 have hmin : Nat.min b.length 32 = 32 := Nat.min_eq_right h
 obtain ⟨T, hT⟩ : ∃ T : Tg, T = ⟨b.take 32, by rw [List.length_take]; omega⟩ := ⟨⟨b.take 32, by rw [List.length_take]; omega⟩, rfl⟩
 have hT1 : (b.map byteAV).take 32 = T.1.map byteAV := by rw [hT, List.map_take]
 have hD1 : (b.map byteAV).drop 32 = (b.drop 32).map byteAV := by rw [List.map_drop]
 have hDl : (b.drop 32).length = b.length - 32 := List.length_drop ..
 have hle1 := rdS_le (b.drop 32)
 rw [h1] at hle1
 simp only at hle1
 have c1 := number_ok (b.drop 32) (by omega) n1 q1 h1
 obtain ⟨y2, hy2⟩ : ∃ z, (b.drop 32).drop q1 = z := ⟨_, rfl⟩
 have hy2l : y2.length ≤ b.length := by rw [← hy2, List.length_drop]; omega
 rw [hy2] at c1 h2
 have hle2 := rdS_le y2
 rw [h2] at hle2
 simp only at hle2
 have c2 := number_ok y2 (by omega) n2 q2 h2
 obtain ⟨z, hzz⟩ : ∃ z, y2.drop q2 = z := ⟨_, rfl⟩
 rw [hy2] at h3
 rw [hzz] at c2 h3
 obtain ⟨y, hy⟩ : ∃ y, b.drop 32 = y := ⟨_, rfl⟩
 rw [hy] at hD1 hDl
 rw [hy] at c1
 clear h1 h2 hy hT hy2 hle1 hzz hle2
 obtain ⟨T, hTl⟩ := T
 have hTA : tagAV ⟨T, hTl⟩ = .agg (T.map byteAV) := rfl
 have hs1 : (AV.agg (T.map byteAV)).sz = 32 := by simp only [AV.sz, szl_bytes]; exact hTl
 have hs2 : (AV.agg (T.map byteAV)).cell = true := celll_bytes T
 have hz32 : (zeroTag.val.map byteAV).drop 32 = [] := rfl
 simp only at hT1
 subst h3
 have hcs := And.intro c1 (And.intro c2 (And.intro c3 True.intro))
 clear c1 c2 c3 h4
 refine ACall.of_bodyD (l := [_]) mixed Tryz.func180 rfl (by kernel_rfl) Tryz.ntmps180 (by kernel_rfl) (by kernel_rfl) rfl (by kernel_rfl) rfl (by simp) (by simp) (by simp) fun σ N hp hpn hk hkn hfree => ?_
 (apply goP_region; (· (simp only [List.length_cons, List.length_nil, Nat.reduceAdd]; rfl)))
 refine Wgs ?_
 refine ⟨rfl, ?_⟩
 refine Wst ?_
 apply go_nil
 refine ⟨_, _, rfl, ?_⟩
 have M : Mut (N + 8) := ⟨⟩
 refine Wpm ?_
 iterate 6 (refine Wpo ?_)
 refine goP_panic (T := 248) (l1 := [_, _]) (l2 := []) rfl ?_
 refine Wst ?_
 apply go_nil
 refine ⟨by simp (disch := omega) [go_sem, *, -List.reduceReplicate], ?_⟩
 refine ⟨malE true, _, _, ?_, rfl, read1_mal ⟨T, hTl⟩ ⟨(n1 : Nat), (n2 : Nat)⟩ 0 N (N + 1) (N + 2) (by omega) (by omega) (by omega), fun σ' n' hag => ?_⟩
 ·intro p hp
  simp only [List.mem_cons, List.not_mem_nil, or_false] at hp
  rcases hp with rfl | rfl | rfl <;> (simp only [teAV]; simp (disch := omega) [go_sem, *, -List.reduceReplicate])
 ·have q1 : σ' N = .box 29 (tagAV zeroTag) := (hag N (by simp only; omega)).trans (by simp (disch := omega) only [wr_cons, wr_nil, upd_same, upd_ne])
  have q2 : σ' (N + 1) = .box 104 (teAV te0) := (hag (N + 1) (by simp only; omega)).trans (by simp (disch := omega) only [wr_cons, wr_nil, upd_same, upd_ne])
  have q3 : σ' (N + 2) = .box 57 (.lit (.int .i64 5)) := (hag (N + 2) (by simp only; omega)).trans (by simp (disch := omega) only [wr_cons, wr_nil, upd_same])
  have hlow : ∀ id, id < N → σ' id = σ id := fun id hid => (hag id (by simp only; omega)).trans (by simp (disch := omega) only [wr_cons, wr_nil, upd_ne])
  simp only [teAV, te0] at q2 ⊢
  refine ARet.of ?_
  exact go_result (by simp (disch := omega) [go_sem, *, -List.reduceReplicate]; rfl) (by simp (disch := omega) [go_sem]; try rfl) hlow
theorem read_ok (b : List UInt8) (hb : b.length ≤ 100000) (h : 32 ≤ b.length) (n1 q1 : Nat) (h1 : rdS (b.drop 32) = (n1, q1, 0)) (n2 q2 : Nat) (h2 : rdS ((b.drop 32).drop q1) = (n2, q2, 0)) (h3 : ((b.drop 32).drop q1).drop q2 = []) (h4 : teB ⟨(n1 : Nat), (n2 : Nat)⟩ = true) (T : Tg) (hT0 : T.1 = b.take 32) (k : Nat) :
  ACall Tryz.prog 180 [.slice none (b.map byteAV)] k [] (.tup [tagAV T, teAV ⟨(n1 : Nat), (n2 : Nat)⟩, .lit (.int .i64 0)]) [] := by
 have c3 := pTerms_spec ⟨(n1 : Nat), (n2 : Nat)⟩
 rw [h4] at c3
 unfold teAV at *
 simp only at c3 ⊢
 have hi : ¬ (b.length : Int) < 32 := by omega
 have hmin : Nat.min b.length 32 = 32 := Nat.min_eq_right h
 have hT1 : (b.map byteAV).take 32 = T.1.map byteAV := by rw [hT0, List.map_take]
 have hD1 : (b.map byteAV).drop 32 = (b.drop 32).map byteAV := by rw [List.map_drop]
 have hDl : (b.drop 32).length = b.length - 32 := List.length_drop ..
 have hle1 := rdS_le (b.drop 32)
 rw [h1] at hle1
 simp only at hle1
 have c1 := number_ok (b.drop 32) (by omega) n1 q1 h1
 obtain ⟨y2, hy2⟩ : ∃ z, (b.drop 32).drop q1 = z := ⟨_, rfl⟩
 have hy2l : y2.length ≤ b.length := by rw [← hy2, List.length_drop]; omega
 rw [hy2] at c1 h2
 have hle2 := rdS_le y2
 rw [h2] at hle2
 simp only at hle2
 have c2 := number_ok y2 (by omega) n2 q2 h2
 obtain ⟨z, hzz⟩ : ∃ z, y2.drop q2 = z := ⟨_, rfl⟩
 rw [hy2] at h3
 rw [hzz] at c2 h3
 obtain ⟨y, hy⟩ : ∃ y, b.drop 32 = y := ⟨_, rfl⟩
 rw [hy] at hD1 hDl
 rw [hy] at c1
 clear h1 h2 hy hT0 hy2 hle1 hzz hle2
 obtain ⟨T, hTl⟩ := T
 have hTA : tagAV ⟨T, hTl⟩ = .agg (T.map byteAV) := rfl
 have hs1 : (AV.agg (T.map byteAV)).sz = 32 := by simp only [AV.sz, szl_bytes]; exact hTl
 have hs2 : (AV.agg (T.map byteAV)).cell = true := celll_bytes T
 have hz32 : (zeroTag.val.map byteAV).drop 32 = [] := rfl
 simp only at hT1
 rw [hTA]
 subst h3
 have hcs := And.intro c1 (And.intro c2 (And.intro c3 True.intro))
 clear c1 c2 c3 h4
 refine ACall.of_bodyD (l := [_]) mixed Tryz.func180 rfl (by kernel_rfl) Tryz.ntmps180 (by kernel_rfl) (by kernel_rfl) rfl (by kernel_rfl) rfl (by simp) (by simp) (by simp) fun σ N hp hpn hk hkn hfree => ?_
 (apply goP_region; (· (simp only [List.length_cons, List.length_nil, Nat.reduceAdd]; rfl)))
 refine Wgs ?_
 refine ⟨rfl, ?_⟩
 refine Wst ?_
 apply go_nil
 refine ⟨_, _, rfl, ?_⟩
 have M : Mut (N + 8) := ⟨⟩
 refine Wpm ?_
 iterate 7 (refine Wpo ?_)
 refine ⟨rfl, ⟨[], (fun p hp => by cases hp), read1_ret N (N + 1) (N + 2)⟩, fun σ' n' hag => ?_⟩
 have q1 : σ' N = .box 29 (.agg (T.map byteAV)) := (hag N (by simp only; omega)).trans (by simp (disch := omega) [go_sem, *, -List.reduceReplicate])
 have q2 : σ' (N + 1) = .box 104 (.agg [.lit (.int .i64 n1), .lit (.int .i64 n2)]) := (hag (N + 1) (by simp only; omega)).trans (by simp (disch := omega) [go_sem, *, -List.reduceReplicate])
 have q3 : σ' (N + 2) = .box 57 (.lit (.int .i64 0)) := (hag (N + 2) (by simp only; omega)).trans (by simp (disch := omega) [go_sem, *, -List.reduceReplicate])
 have hlow : ∀ id, id < N → σ' id = σ id := fun id hid => (hag id (by simp only; omega)).trans (by simp (disch := omega) only [wr_nil, upd_ne])
 refine ARet.of ?_
 exact go_result (by simp (disch := omega) [go_sem, *, -List.reduceReplicate]; rfl) (by simp (disch := omega) [go_sem]; try rfl) hlow
theorem read_spec (b : List UInt8) (hb : b.length ≤ 100000) (k : Nat) : ACall Tryz.prog 180 [.slice none (b.map byteAV)] k [] (moAV (readT b)) [] := by
 unfold readT moAV
 by_cases h : 32 ≤ b.length
 ·have ht := tagR_ok (b := b) (u := 0) (by omega)
  rw [ht]
  rw [if_neg (by simp)]
  have hn : ∀ u, numR b u = ((rdS (b.drop u)).1, u + (rdS (b.drop u)).2.1, (rdS (b.drop u)).2.2) := fun _ => rfl
  by_cases h1 : (rdS (b.drop 32)).2.2 ≠ 0
  ·rw [if_pos (by rw [hn]; exact h1)]
   exact read_bad1 b hb h h1 k
  ·rw [if_neg (by rw [hn]; exact h1)]
   have h1e : rdS (b.drop 32) = ((rdS (b.drop 32)).1, (rdS (b.drop 32)).2.1, 0) := by
    have : (rdS (b.drop 32)).2.2 = 0 := by omega
    rw [← this]
   have hle1 := rdS_le (b.drop 32)
   generalize (rdS (b.drop 32)).1 = n1 at *
   generalize (rdS (b.drop 32)).2.1 = q1 at *
   have hu1 : numR b 32 = (n1, 32 + q1, 0) := by rw [hn, h1e]
   rw [hu1]
   simp only
   have hdd : b.drop (32 + q1) = (b.drop 32).drop q1 := by rw [List.drop_drop]
   by_cases h2 : (rdS ((b.drop 32).drop q1)).2.2 ≠ 0
   ·rw [if_pos (by rw [hn, hdd]; exact h2)]
    exact read_bad2 b hb h n1 q1 h1e h2 k
   ·rw [if_neg (by rw [hn, hdd]; exact h2)]
    have h2e : rdS ((b.drop 32).drop q1) = ((rdS ((b.drop 32).drop q1)).1, (rdS ((b.drop 32).drop q1)).2.1, 0) := by
     have : (rdS ((b.drop 32).drop q1)).2.2 = 0 := by omega
     rw [← this]
    have hle2 := rdS_le ((b.drop 32).drop q1)
    generalize (rdS ((b.drop 32).drop q1)).1 = n2 at *
    generalize (rdS ((b.drop 32).drop q1)).2.1 = q2 at *
    have hu2 : numR b (32 + q1) = (n2, 32 + q1 + q2, 0) := by rw [hn, hdd, h2e]
    rw [hu2]
    simp only
    rw [List.length_drop, List.length_drop] at hle2
    rw [List.length_drop] at hle1
    have hl3 : (((b.drop 32).drop q1).drop q2).length = b.length - (32 + q1 + q2) := by simp only [List.length_drop]; omega
    by_cases h3 : 32 + q1 + q2 = b.length
    ·have h3e : ((b.drop 32).drop q1).drop q2 = [] := List.length_eq_zero_iff.1 (by omega)
     cases h4 : teB ⟨(n1 : Nat), (n2 : Nat)⟩ with
     | false =>
      rw [if_pos (.inr rfl)]
      exact read_inv b hb h n1 q1 h1e n2 q2 h2e h3e h4 k
     | true =>
      rw [if_neg (by rintro (h5 | h5); · exact h5 h3
                     ·cases h5)]
      exact read_ok b hb h n1 q1 h1e n2 q2 h2e h3e h4 _ (by simp) k
    ·rw [if_pos (.inl h3)]
     exact read_long b hb h n1 q1 h1e n2 q2 h2e (by omega) k
 ·have ht := tagR_bad (b := b) (u := 0) (by omega)
  rw [ht, if_pos (by simp)]
  exact read_short b hb h k

theorem Fresh_spec (a : Alg) (e d r1 r2 k : Nat) :
  ACall Tryz.prog 137 [.ptr d [] 0] k (makE a e d r1 r2) (.lit (.int .i64 a.fresh)) [] := by
 obtain ⟨fr, sd, fs, L, B⟩ := a
 unfold makE makB makAV
 simp only
 refine Bd (hpre := by simp [rowM_eq, rowB_eq]) Tryz.func137 Tryz.ntmps137 fun σ N hp hpn hk hkn hfree => ?_
 simp only [List.mem_cons, List.not_mem_nil, or_false, forall_eq_or_imp, forall_eq] at hp hpn; obtain ⟨hd1, hd2, hd3⟩ := hp; obtain ⟨hdn1, hdn2, hdn3⟩ := hpn
 exact W0
theorem pPlain_spec (key : Tg) (t : Te) (h : teB t = true) (k : Nat) :
  ACall Tryz.prog 138 [tagAV key, teAV t] k [] (.slice none ((plainT key t).map byteAV)) [] := by
 have ht0 := teB_iff.1 h
 obtain ⟨x, y⟩ := t
 simp only at ht0
 obtain ⟨q1, q2, q3⟩ := ht0
 obtain ⟨x, rfl⟩ := Int.eq_ofNat_of_zero_le q1
 obtain ⟨y, rfl⟩ := Int.eq_ofNat_of_zero_le (show 0 ≤ y by omega)
 have c1 := Append_ok_f key.1 (by rw [key.2]; decide) x (by omega)
 have hl1 := leb_len x 7 (by omega)
 have c2 := Append_ok_f (key.1 ++ leb x) (by rw [List.length_append, key.2]; omega) y (by omega)
 have hpl : plainT key ⟨(x : Nat), (y : Nat)⟩ = (key.1 ++ leb x) ++ leb y := by unfold plainT; simp
 rw [hpl]
 generalize (key.1 ++ leb x) ++ leb y = P2 at *
 generalize key.1 ++ leb x = P1 at *
 clear hpl h
 unfold teAV
 simp only
 have hs1 := tagAV_sz key
 have hs2 := tagAV_cell key
 obtain ⟨K, hK⟩ := key
 have hkA : tagAV ⟨K, hK⟩ = .agg (K.map byteAV) := rfl
 simp only [hkA] at hs1 hs2 c1 ⊢
 clear hkA
 have htk : (K.map byteAV).take 32 = K.map byteAV := List.take_of_length_le (by rw [List.length_map]; omega)
 refine Bd Tryz.func138 Tryz.ntmps138 fun σ N hp hpn hk hkn hfree => ?_
 have hcs := And.intro c1 (And.intro c2 True.intro)
 clear c1 c2
 exact W0
section
variable [W : W32]
theorem mKey_in {a : Alg} {m : Nat} (h : AlgIn a m) (e : Nat) : AlgIn (mKey a e).1 (m + 1) := by
 unfold mKey
 split
 ·exact h.more (Nat.le_succ _)
 ·split
  ·exact keyS_in h
  ·exact h.more (Nat.le_succ _)
theorem mKey_boxes (a : Alg) (e : Nat) : (mKey a e).1.boxes = a.boxes ∧ (mKey a e).1.macs = a.macs := by
 unfold mKey
 split
 ·exact ⟨rfl, rfl⟩
 ·split
  ·rename_i h
   unfold keyS at h ⊢
   split at h
   ·cases h
   ·rename_i h2; rw [if_neg h2]; exact ⟨rfl, rfl⟩
  ·exact ⟨rfl, rfl⟩
def blP (a : Alg) (c : Co) (t : Te) : Alg × Nat × List UInt8 := bxInto (mKey a 0).1 (mKey a 0).2.1 c.key (mKey a 0).1.fresh (plainT (mKey a 0).2.2 t)
theorem blP_blank (a : Alg) (c : Co) (t : Te) (h1 : teB t = true) (h2 : ¬ c.party < 0) (h3 : ¬ 7 < c.party) :
  blankS a c t = if (blP a c t).2.1 = 0 then ((blP a c t).1, ⟨c.party, (mKey a 0).2.2, (blP a c t).2.2⟩, 0) else (alg0, bl0, (blP a c t).2.1) := by
 unfold blankS
 rw [if_neg (show ¬ (teB t = false ∨ c.party < 0 ∨ 7 < c.party) from fun h => by rcases h with h | h | h <;> simp_all)]
 unfold blP
 by_cases hk : (keyS a).2.2 = 0
 ·have hm : mKey a 0 = ((keyS a).1, 0, (keyS a).2.1) := by unfold mKey; rw [if_neg (by simp), if_pos hk]
  rw [if_pos hk, hm]
  simp only
  have hs := bxInto_seal (keyS a).1 c.key (keyS a).1.fresh (plainT (keyS a).2.1 t)
  rw [hs]
  by_cases hb : (bxInto (keyS a).1 0 c.key (keyS a).1.fresh (plainT (keyS a).2.1 t)).2.1 = 0
  ·simp only [if_pos hb, if_true]
  ·simp only [if_neg hb]
 ·have hm : mKey a 0 = (a, (keyS a).2.2, zeroTag) := by unfold mKey; rw [if_neg (by simp), if_neg hk]
  rw [if_neg hk, hm]
  simp only
  have hb : bxInto a (keyS a).2.2 c.key a.fresh (plainT zeroTag t) = (a, (keyS a).2.2, []) := by
   unfold bxInto bxE mBox
   rw [if_neg hk, if_pos hk]
  rw [hb, if_neg hk]
set_option maxHeartbeats 4000000 in
theorem Blank_spec (a : Alg) (m : Nat) (ha : AlgIn a m) (hm : m ≤ 900000) (c : Co) (t : Te) (g k : Nat) :
  ACall Tryz.prog 65 [algAV a, concAV c, teAV t] k [(g, shaG)] (mlAV (blankS a c t)) [] := by
 have c0 := pTerms_spec t
 have haA : algAV a = .agg [.lit (.bool a.free), tagAV a.seed, .lit (.int .i64 a.fresh), .slice none (a.macs.map macAV), .slice none (a.boxes.map sealAV)] := rfl
 obtain ⟨pa, ck, ps⟩ := c
 by_cases hbad : teB t = false ∨ pa < 0 ∨ 7 < pa
 ·have hB : blankS a ⟨pa, ck, ps⟩ t = (alg0, bl0, 1) := by unfold blankS; rw [if_pos hbad]
  rw [hB]
  unfold mlAV
  simp only [alg0_eq, bl0_eq]
  clear hB ha
  have e01 : ((1 : Nat) : Int) = 1 := rfl
  cases ht : teB t with
  | false =>
   rw [ht] at c0
   clear ht hbad
   refine Bd Tryz.func65 Tryz.ntmps65 fun σ N hp hpn hk hkn hfree => ?_
   obtain ⟨hd, hdn⟩ := HD0 hp hpn; clear hp hpn
   have hcs := And.intro c0 True.intro
   clear c0
   refine Wk ?_
   exact WD
  | true =>
   rw [ht] at c0 hbad
   by_cases h2 : pa < 0
   ·clear ht hbad
    refine Bd Tryz.func65 Tryz.ntmps65 fun σ N hp hpn hk hkn hfree => ?_
    obtain ⟨hd, hdn⟩ := HD0 hp hpn; clear hp hpn
    have hcs := And.intro c0 True.intro
    clear c0
    refine Wk ?_
    exact WD
   ·have h3 : 7 < pa := by rcases hbad with h | h | h
                           ·cases h
                           ·exact absurd h h2
                           ·exact h
    clear ht hbad
    refine Bd Tryz.func65 Tryz.ntmps65 fun σ N hp hpn hk hkn hfree => ?_
    obtain ⟨hd, hdn⟩ := HD0 hp hpn; clear hp hpn
    have hcs := And.intro c0 True.intro
    clear c0
    refine Wk ?_
    exact WD
 ·have ht : teB t = true := by cases h : teB t with
   | true => rfl
   | false => exact absurd (.inl h) hbad
  have h2 : ¬ pa < 0 := fun h => hbad (.inr (.inl h))
  have h3 : ¬ 7 < pa := fun h => hbad (.inr (.inr h))
  rw [ht] at c0
  have hBl := blP_blank a ⟨pa, ck, ps⟩ t ht h2 h3
  have cb := Begin_spec a (by have := ha.ml; omega) (by have := ha.bl; omega)
  have hin := mKey_in ha 0
  have hmb := mKey_boxes a 0
  have cK := fun q r1 r2 => mKey_spec a 0 ha.f0 (by have := ha.f1; omega) q r1 r2 g
  have cP := pPlain_spec (mKey a 0).2.2 t ht
  have hpl := plainT_len (mKey a 0).2.2 t ht
  have cI := fun q r1 r2 => bxInto_spec (mKey a 0).1 (mKey a 0).2.1 ck (mKey a 0).1.fresh (plainT (mKey a 0).2.2 t) (by have := hin.bl; omega) hin.bm (by omega) q r1 r2 g
  have hmx := mBox_macs (mKey a 0).1 (bxE (mKey a 0).2.1 (mKey a 0).1.fresh (plainT (mKey a 0).2.2 t)) ck (mKey a 0).1.fresh (plainT (mKey a 0).2.2 t)
  have cF := fun q r1 r2 => Fresh_spec (mKey a 0).1 (mKey a 0).2.1 q r1 r2
  rw [hBl]
  unfold blP at *
  have hmx : (bxInto (mKey a 0).1 (mKey a 0).2.1 ck (mKey a 0).1.fresh (plainT (mKey a 0).2.2 t)).1.macs = a.macs := hmx.trans hmb.2
  simp only at hmb ⊢
  generalize bxInto (mKey a 0).1 (mKey a 0).2.1 ck (mKey a 0).1.fresh (plainT (mKey a 0).2.2 t) = X at *
  generalize plainT (mKey a 0).2.2 t = PL at *
  generalize mKey a 0 = Y at *
  obtain ⟨a2, e2, b2⟩ := X
  obtain ⟨a1, e1, kt⟩ := Y
  simp only at *
  obtain ⟨hmb1, hmb2⟩ := hmb
  clear hBl ha hin hpl ht hbad
  by_cases he : e2 = 0
  ·subst he
   rw [if_pos rfl]
   unfold mlAV
   simp only
   have cd := Done_ok a2
   unfold makAV at cb
   unfold makE at *
   simp only [List.cons_append, List.nil_append] at *
   simp only [makB_def, rowM_eq, rowB_eq, hmb1, hmb2, hmx] at *
   refine Bd Tryz.func65 Tryz.ntmps65 fun σ N hp hpn hk hkn hfree => ?_
   obtain ⟨hd, hdn⟩ := HD0 hp hpn; clear hp hpn
   have hcs := And.intro c0 (And.intro cb True.intro)
   refine Wm ?_
   iterate 3 refine Wz ?_
   clear hcs
   refine go_cliprowIn (N + 19 + 1) [0, 3] 149 65 (bt := 203) (c := .agg [.agg [.lit (.bool a.free), tagAV a.seed, .lit (.int .i64 a.fresh), .clip (a.macs.map macAV), .clip (a.boxes.map sealAV)], .lit (.int .i64 ((0 : Nat) : Int))]) (xs := a.macs.map macAV) (by simp (disch := omega) [go_sem, *, -List.reduceReplicate]) rfl (all_macs1 _) ?_; refine go_cliprowIn (N + 19 + 1) [0, 4] 151 35 (bt := 203) (c := .agg [.agg [.lit (.bool a.free), tagAV a.seed, .lit (.int .i64 a.fresh), .slice (some (N + 19 + 3)) (a.macs.map macAV), .clip (a.boxes.map sealAV)], .lit (.int .i64 ((0 : Nat) : Int))]) (xs := a.boxes.map sealAV) (by simp (disch := omega) [go_sem, *, -List.reduceReplicate]) rfl (all_boxes1 _) ?_
   have hcs := And.intro (cK (N + 19 + 1) (N + 19 + 3) (N + 19 + 3 + 1)) (And.intro (cF (N + 19 + 1) (N + 19 + 3) (N + 19 + 3 + 1)) (And.intro cP (And.intro (cI (N + 19 + 1) (N + 19 + 3) (N + 19 + 3 + 1)) (And.intro (cd (N + 19 + 1) (N + 19 + 3) (N + 19 + 3 + 1)) True.intro))))
   clear c0 cb cK cF cP cI cd
   refine Wk ?_
   unfold blAV algAV
   exact WD
  ·rw [if_neg he]
   have h1i : ((e2 : Int) != 0) = true := by rw [bne_iff_ne]; omega
   unfold mlAV
   simp only [alg0_eq, bl0_eq]
   have cd := Done_bad a2 e2 he
   unfold makAV at cb
   unfold makE at *
   simp only [List.cons_append, List.nil_append] at *
   simp only [makB_def, rowM_eq, rowB_eq, hmb1, hmb2, hmx] at *
   refine Bd Tryz.func65 Tryz.ntmps65 fun σ N hp hpn hk hkn hfree => ?_
   obtain ⟨hd, hdn⟩ := HD0 hp hpn; clear hp hpn
   have hcs := And.intro c0 (And.intro cb True.intro)
   refine Wm ?_
   iterate 3 refine Wz ?_
   clear hcs
   refine go_cliprowIn (N + 19 + 1) [0, 3] 149 65 (bt := 203) (c := .agg [.agg [.lit (.bool a.free), tagAV a.seed, .lit (.int .i64 a.fresh), .clip (a.macs.map macAV), .clip (a.boxes.map sealAV)], .lit (.int .i64 ((0 : Nat) : Int))]) (xs := a.macs.map macAV) (by simp (disch := omega) [go_sem, *, -List.reduceReplicate]) rfl (all_macs1 _) ?_; refine go_cliprowIn (N + 19 + 1) [0, 4] 151 35 (bt := 203) (c := .agg [.agg [.lit (.bool a.free), tagAV a.seed, .lit (.int .i64 a.fresh), .slice (some (N + 19 + 3)) (a.macs.map macAV), .clip (a.boxes.map sealAV)], .lit (.int .i64 ((0 : Nat) : Int))]) (xs := a.boxes.map sealAV) (by simp (disch := omega) [go_sem, *, -List.reduceReplicate]) rfl (all_boxes1 _) ?_
   have hcs := And.intro (cK (N + 19 + 1) (N + 19 + 3) (N + 19 + 3 + 1)) (And.intro (cF (N + 19 + 1) (N + 19 + 3) (N + 19 + 3 + 1)) (And.intro cP (And.intro (cI (N + 19 + 1) (N + 19 + 3) (N + 19 + 3 + 1)) (And.intro (cd (N + 19 + 1) (N + 19 + 3) (N + 19 + 3 + 1)) True.intro))))
   clear c0 cb cK cF cP cI cd
   refine Wk ?_
   exact WD
end

theorem pThirds_spec (l : List Ca) (hl : l.length ≤ 10000) (k : Nat) :
  ACall Tryz.prog 162 [.slice none (l.map caAV)] k [] (.lit (.int .i64 (thirdsS l : Nat))) [] := by
 have c1 := firsts_gen l _ rfl hl
 have h1 := firsts_len l
 have h2 : ((thirdsS l : Nat) : Int) = (l.length : Int) - ((firstsS l).length : Int) := by unfold thirdsS; omega
 rw [h2]
 generalize firstsS l = R at *
 clear h2
 refine Bd Tryz.func162 Tryz.ntmps162 fun σ N hp hpn hk hkn hfree => ?_
 have hcs := And.intro c1 True.intro
 clear c1
 exact W0
theorem ClipC_spec (l : List Ca) (_hl : l.length ≤ 1000000) (k : Nat) :
  ACall Tryz.prog 164 [.slice none (l.map caAV)] k [] (.clip (l.map caAV)) [] := by
 refine Bd Tryz.func164 Tryz.ntmps164 fun σ N hp hpn hk hkn hfree => ?_
 exact W0
theorem bitsG_nbx {t : TypeId} {x : AV} (h : bitsG = .box t x) : False := by unfold bitsG at h; cases h
theorem bitsG_nrw {t : TypeId} {n m : Nat} (h : bitsG = .row t n m) : False := by unfold bitsG at h; cases h
section
variable [W : W32]
def limB (p : Pa) (c : Ca) : Bool := decide (64 ≤ p.cavs.length) || (c.third && decide (8 ≤ thirdsS p.cavs))
def inE (e : Nat) (p : Pa) (c : Ca) : Nat :=
 if (if e = 0 then (encS c).2 else e) = 0 then (if limB p c = true then 2 else 0) else (if e = 0 then (encS c).2 else e)
def intoP (a : Alg) (e : Nat) (p : Pa) (c : Ca) : Alg × Nat × Pa :=
 ((mNode a (inE e p c) p.tag (cavM c)).1, (mNode a (inE e p c) p.tag (cavM c)).2.1, ⟨p.epoch, p.serial, p.cavs ++ [c], (mNode a (inE e p c) p.tag (cavM c)).2.2⟩)
set_option maxHeartbeats 8000000 in
theorem cInto_spec (a : Alg) (m : Nat) (ha : AlgIn a m) (hm : m ≤ 900000) (e : Nat) (p : Pa) (hpl : p.cavs.length ≤ 10000) (hpc : ∀ x ∈ p.cavs, CaSm x) (c : Ca) (hc : CaSm c) (hp0 : PrOk c.first) (q r1 r2 g h k : Nat) :
  ACall Tryz.prog 100 [.ptr q [] 0, paAV p, caAV c] k (makE a e q r1 r2 ++ [(g, shaG), (h, bitsG)]) (paAV (intoP a e p c).2.2) [(q, makB (intoP a e p c).1 (intoP a e p c).2.1 r1 r2), (r1, rowM (intoP a e p c).1.macs.length)] := by
 have c1 := cEnc_spec c hp0 h
 have hM : [99, 97, 118, 101, 97, 116] ++ (encS c).1 = cavM c := rfl
 have hMl := cavM_len c
 have c2 := Message_spec [99, 97, 118, 101, 97, 116] (encS c).1 (by decide) (by unfold cavM at hMl; rw [List.length_append] at hMl; omega)
 rw [hM] at c2
 have hM0 : 0 < (cavM c).length := by simp [cavM]
 have f1 := Fail_spec a e (encS c).2 q r1 r2
 have f2 := Fail_spec a (if e = 0 then (encS c).2 else e) 2 q r1 r2
 have c3 := mNode_spec a m ha hm (inE e p c) p.tag (cavM c) (fun _ => hM0) (by omega) q r1 r2 g
 have hbx := mNode_boxes a (inE e p c) p.tag (cavM c)
 have c4 := pThirds_spec p.cavs hpl
 have c5 := ClipC_spec p.cavs (by omega)
 have c6 := CopiedC_spec (p.cavs ++ [c]) (by rw [List.length_append, List.length_singleton]; omega) (fun x hx => by
  rcases List.mem_append.1 hx with hx | hx
  ·exact hpc x hx
  ·rw [List.mem_singleton.1 hx]; exact hc)
 have hT2 : thirdsS p.cavs ≤ 10000 := by unfold thirdsS; omega
 unfold intoP
 unfold limB at *
 unfold inE limB at *
 generalize (encS c) = X at *
 obtain ⟨B, E⟩ := X
 simp only at *
 generalize cavM c = M at *
 generalize thirdsS p.cavs = T at *
 obtain ⟨ep, se, L, tg⟩ := p
 simp only at *
 have hcc : caAV c = .agg [.lit (.bool c.third), prAV c.first, .lit (.int .i64 c.party), .slice none (c.ticket.map byteAV), .slice none (c.box.map byteAV)] := rfl
 have hpA : paAV ⟨ep, se, L, tg⟩ = .agg [.lit (.int .i64 ep), .lit (.int .i64 se), .slice none (L.map caAV), tagAV tg] := rfl
 rw [hpA]
 unfold encAV at c1
 simp only at c1
 generalize (if e = 0 then E else e) = e1 at *
 have hb : (L.length + 1) * 120 ≤ 140737488355328 := by omega
 have hb0 : L.length * 120 ≤ 140737488355328 := by omega
 have hb1 : L.length ≤ 140737488355327 := by omega
 have e02 : ((2 : Nat) : Int) = 2 := rfl
 clear ha hc hp0 hpc hM hMl hM0 hpA
 by_cases h64 : 64 ≤ L.length
 ·have h64i : (64 : Int) ≤ (L.length : Int) := by omega
  have hlim : (decide (64 ≤ L.length) || (c.third && decide (8 ≤ T))) = true := by rw [decide_eq_true h64]; rfl
  rw [hlim, if_pos rfl] at c3 hbx ⊢
  clear hlim
  generalize (if e1 = 0 then 2 else e1) = e2 at *
  generalize mNode a e2 tg M = Y at *
  obtain ⟨a2, e3, t2⟩ := Y
  simp only at c3 hbx ⊢
  have hpB : paAV ⟨ep, se, L ++ [c], t2⟩ = .agg [.lit (.int .i64 ep), .lit (.int .i64 se), .slice none (L.map caAV ++ [caAV c]), tagAV t2] := by simp [paAV]
  rw [hpB]
  rw [List.map_append, List.map_cons, List.map_nil] at c6
  unfold makE at *
  simp only [List.cons_append, List.nil_append] at *
  simp only [makB_def, rowM_eq, rowB_eq, hbx, e02] at *
  clear hpB hbx hT2
  refine Bd Tryz.func100 Tryz.ntmps100 fun σ N hp hpn hk hkn hfree => ?_
  simp only [List.mem_cons, List.not_mem_nil, or_false, forall_eq_or_imp, forall_eq] at hp hpn
  obtain ⟨hd1, hd2, hd3, hd4, hd5⟩ := hp
  obtain ⟨hdn1, hdn2, hdn3, hdn4, hdn5⟩ := hpn
  have hne : q ≠ r1 := by rintro rfl; rw [hd1] at hd2; cases hd2
  have hne3 : q ≠ r2 := by rintro rfl; rw [hd1] at hd3; cases hd3
  have hneg : g ≠ q := by rintro rfl; rw [hd4] at hd1; exact shaG_nbox hd1
  have hneg1 : g ≠ r1 := by rintro rfl; rw [hd4] at hd2; exact shaG_nrow hd2
  have hneh : h ≠ q := by rintro rfl; rw [hd5] at hd1; exact bitsG_nbx hd1
  have hneh1 : h ≠ r1 := by rintro rfl; rw [hd5] at hd2; exact bitsG_nrw hd2
  have hne23 : r1 ≠ r2 := by rintro rfl; rw [hd2] at hd3; simp at hd3
  have hcs := And.intro c1 (And.intro f1 (And.intro f2 (And.intro c5 (And.intro c6 (And.intro c2 (And.intro c3 (True.intro)))))))
  clear c1 f1 f2 c2 c3 c4 c5 c6
  refine Wk ?_
  refine go_resultW [(q, (.box 203 (.agg [.agg [.lit (.bool a2.free), tagAV a2.seed, .lit (.int .i64 a2.fresh), .slice (some r1) (a2.macs.map macAV), .slice (some r2) (a.boxes.map sealAV)], .lit (.int .i64 (e3 : Int))]))), (r1, (.row 149 65 a2.macs.length))] (by simp (disch := omega) [go_sem, *, -List.reduceReplicate]; rfl) (by first | rfl | (simp (disch := omega) [go_sem]; done) | (simp (disch := omega) [go_sem, *]; done) | simp (disch := omega) [go_sem]) (fun id hid => by simp only [wr_cons, wr_nil]; (by_cases hdd : id = q; (· (subst hdd; simp (disch := omega) [go_sem, *])); (· (by_cases hdd2 : id = r1; (· (subst hdd2; simp (disch := omega) [go_sem, *])); (· (simp (disch := omega) only [upd_ne]; try (first | exact hlow id hid hdd hdd2 | exact hlow id hid))))))) (by simp) (by simp (disch := omega) [go_sem, *])
 ·have h64i : ¬ (64 : Int) ≤ (L.length : Int) := by omega
  by_cases hth : c.third = true
  ·rw [hth] at hcc
   by_cases h8 : 8 ≤ T
   ·have h8i : (8 : Int) ≤ (T : Int) := by omega
    have hlim : (decide (64 ≤ L.length) || (c.third && decide (8 ≤ T))) = true := by rw [hth, decide_eq_true h8]; simp
    rw [hlim, if_pos rfl] at c3 hbx ⊢
    clear hlim hth
    generalize (if e1 = 0 then 2 else e1) = e2 at *
    generalize mNode a e2 tg M = Y at *
    obtain ⟨a2, e3, t2⟩ := Y
    simp only at c3 hbx ⊢
    have hpB : paAV ⟨ep, se, L ++ [c], t2⟩ = .agg [.lit (.int .i64 ep), .lit (.int .i64 se), .slice none (L.map caAV ++ [caAV c]), tagAV t2] := by simp [paAV]
    rw [hpB]
    rw [List.map_append, List.map_cons, List.map_nil] at c6
    unfold makE at *
    simp only [List.cons_append, List.nil_append] at *
    simp only [makB_def, rowM_eq, rowB_eq, hbx, e02] at *
    clear hpB hbx hT2
    refine Bd Tryz.func100 Tryz.ntmps100 fun σ N hp hpn hk hkn hfree => ?_
    simp only [List.mem_cons, List.not_mem_nil, or_false, forall_eq_or_imp, forall_eq] at hp hpn
    obtain ⟨hd1, hd2, hd3, hd4, hd5⟩ := hp
    obtain ⟨hdn1, hdn2, hdn3, hdn4, hdn5⟩ := hpn
    have hne : q ≠ r1 := by rintro rfl; rw [hd1] at hd2; cases hd2
    have hne3 : q ≠ r2 := by rintro rfl; rw [hd1] at hd3; cases hd3
    have hneg : g ≠ q := by rintro rfl; rw [hd4] at hd1; exact shaG_nbox hd1
    have hneg1 : g ≠ r1 := by rintro rfl; rw [hd4] at hd2; exact shaG_nrow hd2
    have hneh : h ≠ q := by rintro rfl; rw [hd5] at hd1; exact bitsG_nbx hd1
    have hneh1 : h ≠ r1 := by rintro rfl; rw [hd5] at hd2; exact bitsG_nrw hd2
    have hne23 : r1 ≠ r2 := by rintro rfl; rw [hd2] at hd3; simp at hd3
    have hcs := And.intro c1 (And.intro f1 (And.intro c4 (And.intro f2 (And.intro c5 (And.intro c6 (And.intro c2 (And.intro c3 (True.intro))))))))
    clear c1 f1 f2 c2 c3 c4 c5 c6
    refine Wk ?_
    refine go_resultW [(q, (.box 203 (.agg [.agg [.lit (.bool a2.free), tagAV a2.seed, .lit (.int .i64 a2.fresh), .slice (some r1) (a2.macs.map macAV), .slice (some r2) (a.boxes.map sealAV)], .lit (.int .i64 (e3 : Int))]))), (r1, (.row 149 65 a2.macs.length))] (by simp (disch := omega) [go_sem, *, -List.reduceReplicate]; rfl) (by first | rfl | (simp (disch := omega) [go_sem]; done) | (simp (disch := omega) [go_sem, *]; done) | simp (disch := omega) [go_sem]) (fun id hid => by simp only [wr_cons, wr_nil]; (by_cases hdd : id = q; (· (subst hdd; simp (disch := omega) [go_sem, *])); (· (by_cases hdd2 : id = r1; (· (subst hdd2; simp (disch := omega) [go_sem, *])); (· (simp (disch := omega) only [upd_ne]; try (first | exact hlow id hid hdd hdd2 | exact hlow id hid))))))) (by simp) (by simp (disch := omega) [go_sem, *])
   ·have h8i : ¬ (8 : Int) ≤ (T : Int) := by omega
    have hlim : (decide (64 ≤ L.length) || (c.third && decide (8 ≤ T))) = false := by rw [decide_eq_false h64, decide_eq_false h8]; simp
    rw [hlim, if_neg (show ¬ (false = true) by simp)] at c3 hbx ⊢
    clear hlim hth
    rw [show (if e1 = 0 then 0 else e1) = e1 by split <;> omega] at c3 hbx ⊢
    generalize mNode a e1 tg M = Y at *
    obtain ⟨a2, e3, t2⟩ := Y
    simp only at c3 hbx ⊢
    have hpB : paAV ⟨ep, se, L ++ [c], t2⟩ = .agg [.lit (.int .i64 ep), .lit (.int .i64 se), .slice none (L.map caAV ++ [caAV c]), tagAV t2] := by simp [paAV]
    rw [hpB]
    rw [List.map_append, List.map_cons, List.map_nil] at c6
    unfold makE at *
    simp only [List.cons_append, List.nil_append] at *
    simp only [makB_def, rowM_eq, rowB_eq, hbx, e02] at *
    clear hpB hbx hT2
    refine Bd Tryz.func100 Tryz.ntmps100 fun σ N hp hpn hk hkn hfree => ?_
    simp only [List.mem_cons, List.not_mem_nil, or_false, forall_eq_or_imp, forall_eq] at hp hpn
    obtain ⟨hd1, hd2, hd3, hd4, hd5⟩ := hp
    obtain ⟨hdn1, hdn2, hdn3, hdn4, hdn5⟩ := hpn
    have hne : q ≠ r1 := by rintro rfl; rw [hd1] at hd2; cases hd2
    have hne3 : q ≠ r2 := by rintro rfl; rw [hd1] at hd3; cases hd3
    have hneg : g ≠ q := by rintro rfl; rw [hd4] at hd1; exact shaG_nbox hd1
    have hneg1 : g ≠ r1 := by rintro rfl; rw [hd4] at hd2; exact shaG_nrow hd2
    have hneh : h ≠ q := by rintro rfl; rw [hd5] at hd1; exact bitsG_nbx hd1
    have hneh1 : h ≠ r1 := by rintro rfl; rw [hd5] at hd2; exact bitsG_nrw hd2
    have hne23 : r1 ≠ r2 := by rintro rfl; rw [hd2] at hd3; simp at hd3
    have hcs := And.intro c1 (And.intro f1 (And.intro c4 (And.intro c5 (And.intro c6 (And.intro c2 (And.intro c3 (True.intro)))))))
    clear c1 f1 f2 c2 c3 c4 c5 c6
    refine Wk ?_
    refine go_resultW [(q, (.box 203 (.agg [.agg [.lit (.bool a2.free), tagAV a2.seed, .lit (.int .i64 a2.fresh), .slice (some r1) (a2.macs.map macAV), .slice (some r2) (a.boxes.map sealAV)], .lit (.int .i64 (e3 : Int))]))), (r1, (.row 149 65 a2.macs.length))] (by simp (disch := omega) [go_sem, *, -List.reduceReplicate]; rfl) (by first | rfl | (simp (disch := omega) [go_sem]; done) | (simp (disch := omega) [go_sem, *]; done) | simp (disch := omega) [go_sem]) (fun id hid => by simp only [wr_cons, wr_nil]; (by_cases hdd : id = q; (· (subst hdd; simp (disch := omega) [go_sem, *])); (· (by_cases hdd2 : id = r1; (· (subst hdd2; simp (disch := omega) [go_sem, *])); (· (simp (disch := omega) only [upd_ne]; try (first | exact hlow id hid hdd hdd2 | exact hlow id hid))))))) (by simp) (by simp (disch := omega) [go_sem, *])
  ·have hth : c.third = false := by simpa using hth
   rw [hth] at hcc
   have hlim : (decide (64 ≤ L.length) || (c.third && decide (8 ≤ T))) = false := by rw [decide_eq_false h64, hth]; simp
   rw [hlim, if_neg (show ¬ (false = true) by simp)] at c3 hbx ⊢
   clear hlim hth
   rw [show (if e1 = 0 then 0 else e1) = e1 by split <;> omega] at c3 hbx ⊢
   generalize mNode a e1 tg M = Y at *
   obtain ⟨a2, e3, t2⟩ := Y
   simp only at c3 hbx ⊢
   have hpB : paAV ⟨ep, se, L ++ [c], t2⟩ = .agg [.lit (.int .i64 ep), .lit (.int .i64 se), .slice none (L.map caAV ++ [caAV c]), tagAV t2] := by simp [paAV]
   rw [hpB]
   rw [List.map_append, List.map_cons, List.map_nil] at c6
   unfold makE at *
   simp only [List.cons_append, List.nil_append] at *
   simp only [makB_def, rowM_eq, rowB_eq, hbx, e02] at *
   clear hpB hbx hT2
   refine Bd Tryz.func100 Tryz.ntmps100 fun σ N hp hpn hk hkn hfree => ?_
   simp only [List.mem_cons, List.not_mem_nil, or_false, forall_eq_or_imp, forall_eq] at hp hpn
   obtain ⟨hd1, hd2, hd3, hd4, hd5⟩ := hp
   obtain ⟨hdn1, hdn2, hdn3, hdn4, hdn5⟩ := hpn
   have hne : q ≠ r1 := by rintro rfl; rw [hd1] at hd2; cases hd2
   have hne3 : q ≠ r2 := by rintro rfl; rw [hd1] at hd3; cases hd3
   have hneg : g ≠ q := by rintro rfl; rw [hd4] at hd1; exact shaG_nbox hd1
   have hneg1 : g ≠ r1 := by rintro rfl; rw [hd4] at hd2; exact shaG_nrow hd2
   have hneh : h ≠ q := by rintro rfl; rw [hd5] at hd1; exact bitsG_nbx hd1
   have hneh1 : h ≠ r1 := by rintro rfl; rw [hd5] at hd2; exact bitsG_nrw hd2
   have hne23 : r1 ≠ r2 := by rintro rfl; rw [hd2] at hd3; simp at hd3
   have hcs := And.intro c1 (And.intro f1 (And.intro c5 (And.intro c6 (And.intro c2 (And.intro c3 (True.intro))))))
   clear c1 f1 f2 c2 c3 c4 c5 c6
   refine Wk ?_
   refine go_resultW [(q, (.box 203 (.agg [.agg [.lit (.bool a2.free), tagAV a2.seed, .lit (.int .i64 a2.fresh), .slice (some r1) (a2.macs.map macAV), .slice (some r2) (a.boxes.map sealAV)], .lit (.int .i64 (e3 : Int))]))), (r1, (.row 149 65 a2.macs.length))] (by simp (disch := omega) [go_sem, *, -List.reduceReplicate]; rfl) (by first | rfl | (simp (disch := omega) [go_sem]; done) | (simp (disch := omega) [go_sem, *]; done) | simp (disch := omega) [go_sem]) (fun id hid => by simp only [wr_cons, wr_nil]; (by_cases hdd : id = q; (· (subst hdd; simp (disch := omega) [go_sem, *])); (· (by_cases hdd2 : id = r1; (· (subst hdd2; simp (disch := omega) [go_sem, *])); (· (simp (disch := omega) only [upd_ne]; try (first | exact hlow id hid hdd hdd2 | exact hlow id hid))))))) (by simp) (by simp (disch := omega) [go_sem, *])
theorem attS_into (a : Alg) (p : Pa) (c : Ca) : attS a p c = if (intoP a 0 p c).2.1 = 0 then ((intoP a 0 p c).1, (intoP a 0 p c).2.2, 0) else (alg0, pa0, (intoP a 0 p c).2.1) := by
 unfold attS intoP inE
 simp only [if_true]
 cases hc : cavB c with
 | false =>
  have he : (encS c).2 = 5 := by unfold encS; rw [hc]; rfl
  have hm : ∀ t msg, mNode a 5 t msg = (a, 5, zeroTag) := fun t msg => by
   have h5 : (5 : Nat) ≠ 0 := by omega
   unfold mNode; simp only [mMac_err h5]
  rw [if_pos rfl, he, if_neg (show ¬ (5 : Nat) = 0 by omega), hm, if_neg (show ¬ (5 : Nat) = 0 by omega)]
 | true =>
  have he : (encS c).2 = 0 := by unfold encS; rw [hc]; rfl
  rw [if_neg (by simp), he, if_pos rfl]
  by_cases hl : 64 ≤ p.cavs.length ∨ (c.third = true ∧ 8 ≤ thirdsS p.cavs)
  ·have hb : limB p c = true := by
    unfold limB
    rcases hl with h | ⟨h, h'⟩
    ·rw [decide_eq_true h]; rfl
    ·rw [h, decide_eq_true h']; simp
   have hm : ∀ t msg, mNode a 2 t msg = (a, 2, zeroTag) := fun t msg => by
    have h5 : (2 : Nat) ≠ 0 := by omega
    unfold mNode; simp only [mMac_err h5]
   rw [if_pos hl, if_pos hb, hm, if_neg (show ¬ (2 : Nat) = 0 by omega)]
  ·have hb : limB p c = false := by
    unfold limB
    cases hh : (decide (64 ≤ p.cavs.length) || (c.third && decide (8 ≤ thirdsS p.cavs))) with
    | false => rfl
    | true =>
     refine absurd ?_ hl
     simpa using hh
   rw [if_neg hl, hb, if_neg (show ¬ (false = true) by simp), mNode_node]
   by_cases h : (mNode a 0 p.tag (cavM c)).2.1 = 0
   ·simp only [if_pos h, if_true]
   ·simp only [if_neg h]
end

section
variable [W : W32]
set_option maxHeartbeats 4000000 in
theorem tOpen_spec (a : Alg) (m : Nat) (ha : AlgIn a m) (hm : m ≤ 900000) (c : Co) (t : List UInt8) (ht : t.length ≤ 100000) (g k : Nat) :
  ACall Tryz.prog 124 [algAV a, concAV c, .slice none (t.map byteAV)] k [(g, shaG)] (moAV (openT a c t)) [] := by
 have c0 := pOpen_spec a m ha hm c.key t ht g
 have hol := openS_len a m ha c.key t ht
 have haA : algAV a = .agg [.lit (.bool a.free), tagAV a.seed, .lit (.int .i64 a.fresh), .slice none (a.macs.map macAV), .slice none (a.boxes.map sealAV)] := rfl
 unfold openT
 unfold soAV at c0
 generalize openS a c.key t = X at *
 obtain ⟨b, e⟩ := X
 simp only at c0 hol ⊢
 obtain ⟨cp, ck, cs⟩ := c
 simp only at c0
 clear ha
 by_cases he : e = 0
 ·subst he
  rw [if_neg (by simp)]
  have c1 := read_spec b (by omega)
  generalize readT b = Y at *
  obtain ⟨y1, y2, y3⟩ := Y
  unfold moAV at c1 ⊢
  simp only at c1 ⊢
  refine Bd Tryz.func124 Tryz.ntmps124 fun σ N hp hpn hk hkn hfree => ?_
  obtain ⟨hd, hdn⟩ := HD0 hp hpn; clear hp hpn
  have hcs := And.intro c0 (And.intro c1 True.intro)
  clear c0 c1
  refine Wk ?_
  exact WD
 ·rw [if_pos he]
  have h1i : ((e : Int) != 0) = true := by rw [bne_iff_ne]; omega
  unfold moAV
  simp only [te0_eq]
  refine Bd Tryz.func124 Tryz.ntmps124 fun σ N hp hpn hk hkn hfree => ?_
  obtain ⟨hd, hdn⟩ := HD0 hp hpn; clear hp hpn
  have hcs := And.intro c0 True.intro
  clear c0
  refine Wk ?_
  exact WD
theorem bxInto_err {a : Alg} {e : Nat} (key : Tg) (nn : Int) (plain : List UInt8) (h : e ≠ 0) : bxInto a e key nn plain = (a, e, []) := by
 unfold bxInto bxE mBox
 rw [if_neg h, if_pos h]
theorem bxInto_in {a : Alg} {m : Nat} (h : AlgIn a m) (e : Nat) (key : Tg) (nn : Int) (plain : List UInt8) : AlgIn (bxInto a e key nn plain).1 (m + 1) := by
 by_cases he : e = 0
 ·subst he
  by_cases h0 : (bxInto a 0 key nn plain).2.1 = 0
  ·have hs := sealS_in h key nn plain
   rw [bxInto_seal, if_pos h0] at hs
   exact hs
  ·have h1 : (bxInto a 0 key nn plain).1 = a := by
    revert h0
    unfold bxInto mBox
    by_cases hx : bxE 0 nn plain = 0
    ·rw [if_neg (by simpa using hx)]
     cases hb : boxL key nn plain a.boxes with
     | some b => intro _; rfl
     | none =>
      simp only
      by_cases hf : 65536 ≤ a.boxes.length
      ·rw [if_pos hf]; intro _; rfl
      ·rw [if_neg hf]; intro h2; exact absurd rfl h2
    ·rw [if_pos hx]; intro _; rfl
   rw [h1]
   exact h.more (Nat.le_succ _)
 ·rw [bxInto_err _ _ _ he]
  exact h.more (Nat.le_succ _)
theorem bxInto_len {a : Alg} {m : Nat} (h : AlgIn a m) (e : Nat) (key : Tg) (nn : Int) (plain : List UInt8) : (bxInto a e key nn plain).2.2.length ≤ 100000 := by
 unfold bxInto mBox
 by_cases hx : bxE e nn plain = 0
 ·rw [if_neg (by simpa using hx)]
  have hp : plain.length ≤ 256 := by
   unfold bxE at hx
   split at hx
   ·split at hx
    ·cases hx
    ·split at hx
     ·cases hx
     ·omega
   ·contradiction
  cases hb : boxL key nn plain a.boxes with
  | some b =>
   obtain ⟨x, hx1, _, _, _, rfl⟩ := boxL_mem hb
   exact (h.bm x hx1).2
  | none =>
   simp only
   split
   ·simp
   ·have := sealN_len a key nn plain
    simp only
    omega
 ·rw [if_pos hx]
  simp
theorem intoP_err {a : Alg} {e : Nat} (p : Pa) (c : Ca) (h : e ≠ 0) : (intoP a e p c).2.1 = e := by
 have hi : inE e p c = e := by unfold inE; rw [if_neg h, if_neg h]
 unfold intoP
 rw [hi]
 unfold mNode
 simp only [mMac_err h]
def adM (a : Alg) (p : Pa) (b : Bl) : Alg × Nat × Tg := mMac a 0 p.tag (sealM b.ticket)
def adX (a : Alg) (p : Pa) (b : Bl) : Alg × Nat × List UInt8 := bxInto (adM a p b).1 (adM a p b).2.1 (adM a p b).2.2 0 b.key.1
def addP (a : Alg) (p : Pa) (b : Bl) : Alg × Nat × Pa := intoP (adX a p b).1 (adX a p b).2.1 p ⟨true, zeroPr, b.party, b.ticket, (adX a p b).2.2⟩
theorem addS_P (a : Alg) (p : Pa) (b : Bl) : addS a p b = if (addP a p b).2.1 = 0 then ((addP a p b).1, (addP a p b).2.2, 0) else (alg0, pa0, (addP a p b).2.1) := by
 unfold addS
 by_cases hm : (macS a p.tag (sealM b.ticket)).2.2 = 0
 ·have hM : adM a p b = ((macS a p.tag (sealM b.ticket)).1, 0, (macS a p.tag (sealM b.ticket)).2.1) := by unfold adM mMac; rw [if_neg (by simp), if_pos hm]
  rw [if_pos hm]
  have hX : adX a p b = bxInto (macS a p.tag (sealM b.ticket)).1 0 (macS a p.tag (sealM b.ticket)).2.1 0 b.key.1 := by unfold adX; rw [hM]
  generalize macS a p.tag (sealM b.ticket) = Y at *
  have hs := bxInto_seal Y.1 Y.2.1 0 b.key.1
  rw [← hX] at hs
  by_cases hb : (adX a p b).2.1 = 0
  ·rw [if_pos hb] at hs
   rw [hs]
   simp only [if_true]
   rw [attS_into]
   unfold addP
   rw [hb]
  ·rw [if_neg hb] at hs
   rw [hs]
   simp only
   rw [if_neg hb]
   have h2 : (addP a p b).2.1 = (adX a p b).2.1 := by unfold addP; exact intoP_err _ _ hb
   rw [h2, if_neg hb]
 ·have hM : adM a p b = (a, (macS a p.tag (sealM b.ticket)).2.2, zeroTag) := by unfold adM mMac; rw [if_neg (by simp), if_neg hm]
  rw [if_neg hm]
  have hX : adX a p b = (a, (macS a p.tag (sealM b.ticket)).2.2, []) := by unfold adX; rw [hM]; exact bxInto_err _ _ _ hm
  have h2 : (addP a p b).2.1 = (macS a p.tag (sealM b.ticket)).2.2 := by unfold addP; rw [hX]; exact intoP_err _ _ hm
  rw [h2, if_neg hm]
end

section
variable [W : W32]
set_option maxHeartbeats 2000000 in
theorem Add_spec (a : Alg) (m : Nat) (ha : AlgIn a m) (hm : m ≤ 800000) (p : Pa) (hpl : p.cavs.length ≤ 10000) (hpc : ∀ x ∈ p.cavs, CaSm x) (b : Bl) (hb : b.ticket.length ≤ 90000) (g h k : Nat) :
  ACall Tryz.prog 61 [algAV a, paAV p, blAV b] k [(g, shaG), (h, bitsG)] (mpAV (addS a p b)) [] := by
 have cb := Begin_spec a (by have := ha.ml; omega) (by have := ha.bl; omega)
 have c1 := Message_spec [115, 101, 97, 108] b.ticket (by decide) (by omega)
 have hM : [115, 101, 97, 108] ++ b.ticket = sealM b.ticket := rfl
 rw [hM] at c1
 have c2 := fun q r1 r2 => mMac_spec a 0 p.tag (sealM b.ticket) (by have := ha.ml; omega) ha.mm (fun _ => by simp [sealM]) (by simp [sealM]; omega) q r1 r2 g
 have i1 := mMac_in ha 0 p.tag (sealM b.ticket)
 have x1 := mMac_boxes a 0 p.tag (sealM b.ticket)
 rw [show mMac a 0 p.tag (sealM b.ticket) = adM a p b from rfl] at c2 i1 x1
 have c3 := fun q r1 r2 => bxInto_spec (adM a p b).1 (adM a p b).2.1 (adM a p b).2.2 0 b.key.1 (by have := i1.bl; omega) i1.bm (by rw [b.key.2]; decide) q r1 r2 g
 have i2 := bxInto_in i1 (adM a p b).2.1 (adM a p b).2.2 0 b.key.1
 have l2 := bxInto_len i1 (adM a p b).2.1 (adM a p b).2.2 0 b.key.1
 have x2 : (bxInto (adM a p b).1 (adM a p b).2.1 (adM a p b).2.2 0 b.key.1).1.macs = (adM a p b).1.macs := by unfold bxInto; exact mBox_macs _ _ _ _ _
 rw [show bxInto (adM a p b).1 (adM a p b).2.1 (adM a p b).2.2 0 b.key.1 = adX a p b from rfl] at c3 i2 l2 x2
 have c4 := Clone_spec b.ticket (by omega)
 have c5 := fun q r1 r2 => cInto_spec (adX a p b).1 (m + 1 + 1) i2 (by omega) (adX a p b).2.1 p hpl hpc ⟨true, zeroPr, b.party, b.ticket, (adX a p b).2.2⟩ ⟨by simp only; omega, by simp only; omega⟩ zeroPr_ok q r1 r2 g h
 have x3 : (addP a p b).1.boxes = (adX a p b).1.boxes := by unfold addP intoP; simp only [mNode_boxes]
 rw [show intoP (adX a p b).1 (adX a p b).2.1 p ⟨true, zeroPr, b.party, b.ticket, (adX a p b).2.2⟩ = addP a p b from rfl] at c5
 rw [addS_P]
 generalize addP a p b = Z at *
 generalize adX a p b = X at *
 generalize adM a p b = M at *
 obtain ⟨a1, e1, t1⟩ := M
 obtain ⟨a2, e2, b2⟩ := X
 obtain ⟨a3, e3, p3⟩ := Z
 generalize sealM b.ticket = MS at *
 clear i1 i2 ha hpc hM
 have haA : algAV a = .agg [.lit (.bool a.free), tagAV a.seed, .lit (.int .i64 a.fresh), .slice none (a.macs.map macAV), .slice none (a.boxes.map sealAV)] := rfl
 obtain ⟨ep, se, L, tg⟩ := p
 obtain ⟨bp, bk, bt⟩ := b
 simp only at c1 c2 c3 c4 c5 hb x1 x2 x3 l2 ⊢
 have hs1 := tagAV_sz bk
 have hs2 := tagAV_cell bk
 obtain ⟨K, hK⟩ := bk
 have hkA : tagAV ⟨K, hK⟩ = .agg (K.map byteAV) := rfl
 have hs3 : AV.celll (K.map byteAV) = true := celll_bytes K
 have htk : (K.map byteAV).take 32 = K.map byteAV := List.take_of_length_le (by rw [List.length_map]; omega)
 have hzp : prAV zeroPr = .agg [.lit (.int .i64 0), .lit (.int .u64 0), .lit (.int .i64 0), .lit (.int .i64 0), .lit (.string ⟨#[]⟩), .lit (.int .i64 0)] := rfl
 have hpA : paAV ⟨ep, se, L, tg⟩ = .agg [.lit (.int .i64 ep), .lit (.int .i64 se), .slice none (L.map caAV), tagAV tg] := rfl
 unfold caAV blAV at *
 simp only [hkA, hzp] at *
 clear hkA hzp
 by_cases he : e3 = 0
 ·subst he
  rw [if_pos rfl]
  unfold mpAV
  simp only
  have cd := Done_ok a3
  unfold makAV at cb
  unfold makE at c2 c3 c5 cd
  simp only [List.cons_append, List.nil_append] at *
  simp only [makB_def, rowM_eq, rowB_eq, x1, x2, x3] at *
  refine Bd Tryz.func61 Tryz.ntmps61 fun σ N hp hpn hk hkn hfree => ?_
  simp only [List.mem_cons, List.not_mem_nil, or_false, forall_eq_or_imp, forall_eq] at hp hpn; obtain ⟨hd1, hd2⟩ := hp; obtain ⟨hdn1, hdn2⟩ := hpn
  have hcs := And.intro cb True.intro
  refine Wm ?_
  iterate 2 refine Wz ?_
  clear hcs
  refine go_cliprowIn (N + 6 + 1) [0, 3] 149 65 (bt := 203) (c := .agg [.agg [.lit (.bool a.free), tagAV a.seed, .lit (.int .i64 a.fresh), .clip (a.macs.map macAV), .clip (a.boxes.map sealAV)], .lit (.int .i64 ((0 : Nat) : Int))]) (xs := a.macs.map macAV) (by simp (disch := omega) [go_sem, *, -List.reduceReplicate]) rfl (all_macs1 _) ?_; refine go_cliprowIn (N + 6 + 1) [0, 4] 151 35 (bt := 203) (c := .agg [.agg [.lit (.bool a.free), tagAV a.seed, .lit (.int .i64 a.fresh), .slice (some (N + 6 + 3)) (a.macs.map macAV), .clip (a.boxes.map sealAV)], .lit (.int .i64 ((0 : Nat) : Int))]) (xs := a.boxes.map sealAV) (by simp (disch := omega) [go_sem, *, -List.reduceReplicate]) rfl (all_boxes1 _) ?_
  have hcs := And.intro c1 (And.intro (c2 (N + 6 + 1) (N + 6 + 3) (N + 6 + 3 + 1)) (And.intro (c3 (N + 6 + 1) (N + 6 + 3) (N + 6 + 3 + 1)) (And.intro c4 (And.intro (c5 (N + 6 + 1) (N + 6 + 3) (N + 6 + 3 + 1)) (And.intro (cd (N + 6 + 1) (N + 6 + 3) (N + 6 + 3 + 1)) True.intro)))))
  clear cb c1 c2 c3 c4 c5 cd
  refine Wk ?_
  exact WD
 ·rw [if_neg he]
  unfold mpAV
  simp only [alg0_eq, pa0_eq]
  have h1i : ((e3 : Int) != 0) = true := by rw [bne_iff_ne]; omega
  have cd := Done_bad a3 e3 he
  unfold makAV at cb
  unfold makE at c2 c3 c5 cd
  simp only [List.cons_append, List.nil_append] at *
  simp only [makB_def, rowM_eq, rowB_eq, x1, x2, x3, alg0_eq] at *
  refine Bd Tryz.func61 Tryz.ntmps61 fun σ N hp hpn hk hkn hfree => ?_
  simp only [List.mem_cons, List.not_mem_nil, or_false, forall_eq_or_imp, forall_eq] at hp hpn; obtain ⟨hd1, hd2⟩ := hp; obtain ⟨hdn1, hdn2⟩ := hpn
  have hcs := And.intro cb True.intro
  refine Wm ?_
  iterate 2 refine Wz ?_
  clear hcs
  refine go_cliprowIn (N + 6 + 1) [0, 3] 149 65 (bt := 203) (c := .agg [.agg [.lit (.bool a.free), tagAV a.seed, .lit (.int .i64 a.fresh), .clip (a.macs.map macAV), .clip (a.boxes.map sealAV)], .lit (.int .i64 ((0 : Nat) : Int))]) (xs := a.macs.map macAV) (by simp (disch := omega) [go_sem, *, -List.reduceReplicate]) rfl (all_macs1 _) ?_; refine go_cliprowIn (N + 6 + 1) [0, 4] 151 35 (bt := 203) (c := .agg [.agg [.lit (.bool a.free), tagAV a.seed, .lit (.int .i64 a.fresh), .slice (some (N + 6 + 3)) (a.macs.map macAV), .clip (a.boxes.map sealAV)], .lit (.int .i64 ((0 : Nat) : Int))]) (xs := a.boxes.map sealAV) (by simp (disch := omega) [go_sem, *, -List.reduceReplicate]) rfl (all_boxes1 _) ?_
  have hcs := And.intro c1 (And.intro (c2 (N + 6 + 1) (N + 6 + 3) (N + 6 + 3 + 1)) (And.intro (c3 (N + 6 + 1) (N + 6 + 3) (N + 6 + 3 + 1)) (And.intro c4 (And.intro (c5 (N + 6 + 1) (N + 6 + 3) (N + 6 + 3 + 1)) (And.intro (cd (N + 6 + 1) (N + 6 + 3) (N + 6 + 3 + 1)) True.intro)))))
  clear cb c1 c2 c3 c4 c5 cd
  refine Wk ?_
  exact WD
end
end Go.Proofs.YtdmjpolnbmoehaaGreatDoor
