/- Texts H7, H8, M1, M2, L1, M3, D1, R1, K1, M4, M5, N5, joined. -/
import Derived.Test.YtemmlldpmgfblaaGreatDoorM4

/- SHA-256: New and Sum. -/
namespace Go.Proofs.YtemmlldpmgfblaaGreatDoor
open Go.Ab
attribute [local irreducible] Go.Ab.tyAV Go.Ab.aw Go.Ab.aops Go.Ab.kReg Go.Ab.aThen Go.Ab.aBlk Go.Ab.acond Go.Ab.aguard Go.Ab.astep Go.Ab.AStepX Go.Ab.aRet
attribute [local irreducible] v8AV shaG

/-- The bytes of eight words. -/
def dig (v : V8) : List UInt8 := (List.range 32).map fun i => sh8 (v.l.getD (i / 4) 0) (24 - 8 * (i % 4))
theorem dig_len (v : V8) : (dig v).length = 32 := by simp [dig]
theorem dig_at (v : V8) (i c : Nat) (hi : i < 8) (hc : c < 4) (h : 4 * i + c < (dig v).length := by simp only [dig_len]; omega) : (dig v)[4 * i + c] = sh8 (v.l.getD i 0) (24 - 8 * c) := by
  simp only [dig, List.getElem_map, List.getElem_range]
  have h1 : (4 * i + c) / 4 = i := by omega
  have h2 : (4 * i + c) % 4 = c := by omega
  rw [h1, h2]
def digT (v : V8) : Tg := ⟨dig v, dig_len v⟩
/-- The first i bytes of a tag. -/
def pT (D : Tg) (i : Nat) : Tg := if h : i ≤ 32 then ⟨D.1.take i ++ List.replicate (32 - i) 0, by rw [List.length_append, List.length_take, List.length_replicate, D.2]; omega⟩ else D
theorem pT_0 (D : Tg) : pT D 0 = zeroTag := rfl
theorem pT_32 (D : Tg) : pT D 32 = D := by
  apply Subtype.ext
  simp only [pT, Nat.le_refl, dif_pos, Nat.sub_self, List.replicate_zero, List.append_nil]
  exact List.take_of_length_le (by rw [D.2]; omega)
theorem pT_step (D : Tg) (i : Nat) (h : i < 32) (b : UInt8) (hb : D.1[i]'(by rw [D.2]; exact h) = b) : setT (pT D i) i b = pT D (i + 1) := by
  apply Subtype.ext
  have hl : i < D.1.length := by rw [D.2]; exact h
  simp only [setT, pT, dif_pos (show i ≤ 32 by omega), dif_pos (show i + 1 ≤ 32 by omega)]
  rw [List.set_append_right _ _ (by rw [List.length_take]; omega), List.length_take, show i - min i D.1.length = 0 by omega, show 32 - i = (32 - (i + 1)) + 1 by omega, List.replicate_succ, List.set_cons_zero, List.take_add_one, List.getElem?_eq_getElem hl, hb]
  simp
def padB (rl n : Nat) : List UInt8 := 128 :: (List.replicate ((119 - rl % 64) % 64) 0 ++ eightB (8 * (n : Int)))
theorem padB_len (rl n : Nat) : (padB rl n).length = (119 - rl % 64) % 64 + 9 := by simp [padB, eightB]
section
variable [W : W32]
end
end Go.Proofs.YtemmlldpmgfblaaGreatDoor

/- SHA-256: Of, and the reference's Sha. -/
namespace Go.Proofs.YtemmlldpmgfblaaGreatDoor
open Go.Ab
attribute [local irreducible] Go.Ab.tyAV Go.Ab.aw Go.Ab.aops Go.Ab.kReg Go.Ab.aThen Go.Ab.aBlk Go.Ab.acond Go.Ab.aguard Go.Ab.astep Go.Ab.AStepX Go.Ab.aRet
attribute [local irreducible] v8AV shaG
theorem Initial_spec (k : Nat) : ACall Tryz.prog 213 [] k [] (v8AV iv8) [] := by
  rw [v8AV]
  unfold iv8
  simp only [V8.l]
  refine Bd Tryz.func213 Tryz.ntmps213 fun σ N hp hpn hk hkn hfree => ?_
  exact W0
section
variable [W : W32]
/-- The state after all bytes with their pad. -/
def shaV (b : List UInt8) : V8 := comp ((b ++ padB b.length b.length).length / 64) iv8 (b ++ padB b.length b.length)
def shaT (b : List UInt8) : Tg := digT (shaV b)
set_option maxHeartbeats 2000000 in
theorem Sha_spec (b : List UInt8) (hl : b.length ≤ 1000000) (k : Nat) :
    ACall Tryz.prog 190 [.slice none (b.map byteAV)] k [] (tagAV (shaT b)) [] := by
  have c1 := Eight_spec (8 * (b.length : Int)) (by omega) (by omega)
  have c2 := Initial_spec
  have hpl := padB_len b.length b.length
  have hM : b ++ padB b.length b.length = b ++ 128 :: (List.replicate ((119 - b.length % 64) % 64) 0 ++ eightB (8 * (b.length : Int))) := rfl
  have hT : shaT b = digT (comp ((b ++ padB b.length b.length).length / 64) iv8 (b ++ padB b.length b.length)) := rfl
  rw [hT]
  have hel := eightB_len (8 * (b.length : Int))
  generalize eightB (8 * (b.length : Int)) = E at *
  generalize b ++ padB b.length b.length = M at *
  obtain ⟨K, hK⟩ : ∃ K, (119 - b.length % 64) % 64 = K := ⟨_, rfl⟩
  rw [hK] at hM
  refine Bd Tryz.func190 Tryz.ntmps190 fun σ N hp hpn hk hkn hfree => ?_
  refine Wk ?_
  refine go_loopB (N+1) mixed (by kernel_rfl) [3, 13, 14, 15, 16, 17, 18, 19] [] (fun m_ s_ σ_ n_ => ∃ (z : Nat) (q : Nat) (p : List UInt8), m_ = K - z ∧ s_ 3 = .slice (some q) (p.map byteAV) ∧ σ_ (q) = .row 5 1 p.length ∧ (z ≤ K) ∧ (p = b ++ 128 :: List.replicate z 0) ∧ (p.length = b.length + (z + 1)) ∧ (N + 1 ≤ q) ∧ (q < n_)) ⟨_, 0, _, b ++ [128], rfl, WF, WF, WC, WC, WC, WC, WC⟩ ?_
  intro m_1 s_1 σ_1 n_1 hs_1 hf_1 hn_1 hI_1
  obtain ⟨z, q, p, hm_1, h1_3, e1_0, hz, hp, hpz, hq, hqn⟩ := hI_1
  have h1_0 := KS hs_1 0
  have h1_2 := KS hs_1 2
  have k1_0 := KE hf_1 (N)
  have hlow := KL (N := N) (σ := σ) hf_1
  have hKb : K < 64 := by omega
  by_cases hzK : z = K
  · subst hzK
    have htm : (p.length : Int).tmod 64 = 56 := by rw [Int.tmod_eq_emod_of_nonneg (by omega)]; omega
    have hPe : M = p ++ E := by rw [hM, hp]; simp
    have hpl2 : p.length ≤ 2000000 := by omega
    have hml : p.length + E.length = M.length := by rw [hPe, List.length_append]
    have hmm : p.map byteAV ++ E.map byteAV = M.map byteAV := by rw [hPe, List.map_append]
    have hM64 : M.length % 64 = 0 := by omega
    have hMl : M.length ≤ 3000000 := by omega
    have hw8 : IntKind.u64.wrap ((b.length : Int) * 8) = 8 * (b.length : Int) := by rw [wrap_u64r (by omega) (by omega)]; omega
    have hwn : IntKind.u64.wrap (b.length : Int) = (b.length : Int) := wrap_u64r (by omega) (by omega)
    have hcs := And.intro c1 (And.intro c2 True.intro)
    obtain ⟨H, hH⟩ : ∃ H, comp (M.length / 64) iv8 M = H := ⟨_, rfl⟩
    have hH0 : comp ((M.drop 0).length / 64) iv8 (M.drop 0) = H := hH
    rw [hH]
    clear hPe hp hpz c1 c2 hM hH
    refine Wk ?_
    refine go_loopF mixed (by kernel_rfl) [5, 28, 29, 30, 31, 32, 33, 34, 35, 36, 37, 38, 39, 40] [n_1+13] (fun m_ s_ σ_ n_ => ∃ (i : Nat) (v : V8), m_ = M.length - i ∧ s_ 5 = .lit (.int .i64 i) ∧ σ_ (n_1+13) = .box 251 (v8AV v) ∧ (i ≤ M.length) ∧ ((M.length - i) % 64 = 0) ∧ (comp ((M.drop i).length / 64) v (M.drop i) = H)) ⟨_, 0, iv8, rfl, WF, WF, WC, WC, WC⟩ ?_
    intro m_2 s_2 σ_2 n_2 hs_2 hf_2 hn_2 hI_2
    obtain ⟨i, v, hm_2, h2_5, e2_0, hi, hi64, hv⟩ := hI_2
    have h2_2 := KS hs_2 2
    have h2_3 := KS hs_2 3
    have h2_4 := KS hs_2 4
    have k2_0 := KE hf_2 (N)
    have hlow := KL (N := N) (σ := σ) hf_2
    by_cases hie : i = M.length
    · subst hie
      have hvH : v = H := by rw [← hv]; simp [comp]
      subst hvH
      clear hv
      have hD0 : pT (digT v) 0 = zeroTag := pT_0 _
      refine Wk ?_
      refine go_loopF mixed (by kernel_rfl) [7, 41, 42, 43, 44, 45, 46, 47, 48, 49, 50, 51, 52, 53, 54, 55, 56, 57] [n_2+4] (fun m_ s_ σ_ n_ => ∃ (i : Nat) (P : Tg), m_ = 32 - i ∧ s_ 7 = .lit (.int .i64 i) ∧ σ_ (n_2+4) = .box 26 (tagAV P) ∧ (i ≤ 32) ∧ (pT (digT v) i = P)) ⟨_, 0, zeroTag, rfl, WF, WF, WC, WC⟩ ?_
      intro m_3 s_3 σ_3 n_3 hs_3 hf_3 hn_3 hI_3
      obtain ⟨i, P, hm_3, h3_7, e3_0, hi, hP⟩ := hI_3
      have h3_2 := KS hs_3 2
      have h3_4 := KS hs_3 4
      have h3_6 := KS hs_3 6
      have k3_0 := KE hf_3 (N)
      have k3_1 := KE hf_3 (n_1+13)
      have hlow := KL (N := N) (σ := σ) hf_3
      by_cases hi32 : i = 32
      · subst hi32
        have : P = digT v := by rw [← hP]; exact pT_32 _
        subst this
        exact W0
      · have hil : (i : Int) < 32 := by omega
        have hil' : i < 32 := by omega
        obtain ⟨w, c, hic, hc, hw⟩ : ∃ w c, i = 4 * w + c ∧ c < 4 ∧ w < 8 := ⟨i / 4, i % 4, by omega, by omega, by omega⟩
        have hdv : (i : Int).tdiv 4 = w := by rw [Int.tdiv_eq_ediv_of_nonneg (by omega)]; omega
        have hdm : (i : Int).tmod 4 = c := by rw [Int.tmod_eq_emod_of_nonneg (by omega)]; omega
        obtain ⟨x, hx⟩ : ∃ x, v.l.getD w 0 = x := ⟨_, rfl⟩
        have d0 := dig_at v w c hw hc
        rw [hx] at d0
        have hg : (v8AV v).get [w] = some (.lit (.int .u32 x)) := by rw [v8AV, uu_getD v.l w (by rw [V8_len]; exact hw), hx]
        have ho : (v8AV v).offs [w] = w := by rw [v8AV, uu_offs v.l w (by rw [V8_len]; exact hw)]
        have s0 := pT_step (digT v) (4 * w + c) (by omega) _ d0
        have e0 := sh8_wrap x (24 - 8 * c)
        rw [← hic, hP] at s0
        generalize sh8 x (24 - 8 * c) = b0 at *
        obtain ⟨P1, hP1⟩ : ∃ z, pT (digT v) (i + 1) = z := ⟨_, rfl⟩
        rw [hP1] at s0
        have t0 : (tagAV P).put [i] (.lit (.int .u8 (b0.toNat : Int))) = tagAV P1 := by rw [← s0]; exact tag_put P i b0 hil'
        have hw8 : (w : Int) < 8 := by omega
        clear hx d0 s0 hP hic
        have hcc : c = 0 ∨ c = 1 ∨ c = 2 ∨ c = 3 := by omega
        rcases hcc with rfl | rfl | rfl | rfl
        all_goals (
          simp only [Nat.mul_zero, Nat.mul_one, Nat.reduceMul, Nat.sub_zero, Nat.reduceSub, Int.reducePow, Int.pow_zero, Int.fdiv_one] at e0
          refine Wk ?_
          exact ⟨WS, WG, WN, _, (show 32 - (i + 1) < m_3 by omega), i + 1, P1, rfl, WF, WF, WC, WC⟩)
    · have hi64' : i + 64 ≤ M.length := by omega
      have hil : (i : Int) < (M.length : Int) := by omega
      have hdl : (M.drop i).length = M.length - i := List.length_drop
      rw [comp_step v (M.drop i) (by omega), List.drop_drop] at hv
      have c4 := refblock_spec v ((M.drop i).take 64) (by rw [List.length_take]; omega)
      have hTm : ((M.map byteAV).take (i + 64)).drop i = ((M.drop i).take 64).map byteAV := by rw [← List.map_take, ← List.map_drop, List.drop_take, Nat.add_sub_cancel_left]
      have hTi : ((i : Int) + 64).toNat = i + 64 := by omega
      generalize chg v ((M.drop i).take 64) = v' at *
      generalize (M.drop i).take 64 = T at *
      have hcs := And.intro c4 True.intro
      clear c4 hdl
      refine Wk ?_
      exact ⟨WS, WG, WN, _, (show M.length - (i + 64) < m_2 by omega), i + 64, v', rfl, WF, WF, WC, WC, WC⟩
  · have htm : (p.length : Int).tmod 64 = ((p.length % 64 : Nat) : Int) := by rw [Int.tmod_eq_emod_of_nonneg (by omega)]; omega
    have hM' : p.length % 64 ≠ 56 := by omega
    have hpl2 : p.length ≤ 2000000 := by omega
    have hpl3 : p.length + 1 = b.length + (z + 1 + 1) := by omega
    generalize p.length % 64 = Q at *
    have hM1 : ((Q : Int) != 56) = true := by simp; omega
    obtain ⟨p', hp'⟩ : ∃ x, p ++ [0] = x := ⟨_, rfl⟩
    have hp2 : p' = b ++ 128 :: List.replicate (z + 1) 0 := by rw [← hp', hp, List.append_assoc, List.cons_append, ← List.replicate_succ']
    have hp4 : p.map byteAV ++ [.lit (.int .u8 0)] = p'.map byteAV := by rw [← hp', List.map_append]; rfl
    have hp5 : p'.length = p.length + 1 := by rw [← hp', List.length_append]; rfl
    clear hp hp' hpz hM c1 c2
    refine Wk ?_
    exact ⟨WS, WG, WN, _, (show K - (z + 1) < m_1 by omega), z + 1, _, p', rfl, WF, WF, WC, WC, WC, WC, WC⟩
end
end Go.Proofs.YtemmlldpmgfblaaGreatDoor

/- HMAC: the padded keys, Of, the specified one. -/
namespace Go.Proofs.YtemmlldpmgfblaaGreatDoor
open Go.Ab
attribute [local irreducible] Go.Ab.tyAV Go.Ab.aw Go.Ab.aops Go.Ab.kReg Go.Ab.aThen Go.Ab.aBlk Go.Ab.acond Go.Ab.aguard Go.Ab.astep Go.Ab.AStepX Go.Ab.aRet
attribute [local irreducible] shaG

def x8 (a b : UInt8) : UInt8 := UInt8.ofNat (bits .xor .u8 (a.toNat : Int) (b.toNat : Int)).toNat
theorem x8_eq (a b : UInt8) : bits .xor .u8 (a.toNat : Int) (b.toNat : Int) = ((x8 a b).toNat : Int) := by
  have h := IntKind.wrap_u8 (bits .xor .u8 (a.toNat : Int) (b.toNat : Int))
  have hw : IntKind.u8.wrap (bits .xor .u8 (a.toNat : Int) (b.toNat : Int)) = bits .xor .u8 (a.toNat : Int) (b.toNat : Int) := by
    simp only [bits, IntKind.wrap_u8]; omega
  rw [hw] at h
  unfold x8
  rw [UInt8.toNat_ofNat']
  omega
/-- A key of at most 64 bytes, extended by zeros, each byte combined with x. -/
def padK (key : List UInt8) (x : UInt8) : List UInt8 := (List.range 64).map fun i => if h : i < key.length then x8 key[i] x else x
theorem padK_len (key : List UInt8) (x : UInt8) : (padK key x).length = 64 := by simp [padK]
theorem padK_at (key : List UInt8) (x : UInt8) (i : Nat) (hi : i < 64) (h : i < (padK key x).length) : (padK key x)[i] = if h : i < key.length then x8 key[i] x else x := by
  simp [padK]
def padC (key : List UInt8) (x : UInt8) (i : Nat) : List UInt8 := (padK key x).take i ++ List.replicate (64 - i) 0
theorem padC_0 (key : List UInt8) (x : UInt8) : padC key x 0 = List.replicate 64 0 := by simp [padC]
theorem padC_64 (key : List UInt8) (x : UInt8) : padC key x 64 = padK key x := by
  unfold padC
  rw [List.take_of_length_le (by rw [padK_len]; exact Nat.le_refl _)]; simp
theorem padC_len (key : List UInt8) (x : UInt8) (i : Nat) (hi : i ≤ 64) : (padC key x i).length = 64 := by
  unfold padC
  rw [List.length_append, List.length_take, padK_len, List.length_replicate]; omega
theorem padC_set (key : List UInt8) (x : UInt8) (i : Nat) (hi : i < 64) (v : UInt8) (hv : (padK key x)[i]'(by rw [padK_len]; exact hi) = v) : (padC key x i).set i v = padC key x (i + 1) := by
  unfold padC
  have hl : ((padK key x).take i).length = i := by rw [List.length_take, padK_len]; omega
  rw [List.set_append_right _ _ (by omega), hl, Nat.sub_self]
  obtain ⟨m, hm⟩ : ∃ m, 64 - i = m + 1 := ⟨63 - i, by omega⟩
  have hm2 : 64 - (i + 1) = m := by omega
  rw [hm, hm2, List.replicate_succ, List.set_cons_zero, List.take_succ_eq_append_getElem (by rw [padK_len]; exact hi), hv]
  simp
set_option maxHeartbeats 1000000 in
theorem padded_spec (key : List UInt8) (x : UInt8) (k : Nat) :
    ACall Tryz.prog 191 [.slice none (key.map byteAV), .lit (.int .u8 x.toNat)] k [] (.slice (some k) ((padK key x).map byteAV)) [(k, .row 5 1 64)] := by
  have hxb : byteAV x = .lit (.int .u8 x.toNat) := rfl
  have h0 : List.replicate 64 (AV.lit (.int .u8 0)) = (padC key x 0).map byteAV := by rw [padC_0, List.map_replicate]; rfl
  obtain ⟨q0, hq0⟩ : ∃ q, padC key x 0 = q := ⟨_, rfl⟩
  rw [hq0] at h0
  refine Bd Tryz.func191 Tryz.ntmps191 fun σ N hp hpn hk hkn hfree => ?_
  have M : Mut (N + 1) := ⟨⟩
  refine Wk ?_
  refine go_loopF mixed (by kernel_rfl) [6, 8, 9, 10, 11, 12, 13, 14, 15, 16, 17, 18, 19, 20, 21, 22, 23, 24, 25, 26, 27, 28] [N+1] (fun m_ s_ σ_ n_ => ∃ (i : Nat) (cur : List UInt8), m_ = 64 - i ∧ s_ 6 = .lit (.int .i64 i) ∧ s_ 5 = .ms (N + 1) 0 1 0 64 ∧ σ_ (N+1) = .mrow 0 5 1 (cur.map byteAV) ∧ (i ≤ 64) ∧ (padC key x i = cur)) ⟨_, 0, q0, rfl, WF, WF, WF, WC, WC⟩ ?_
  intro m_1 s_1 σ_1 n_1 hs_1 hf_1 hn_1 hI_1
  obtain ⟨i, cur, hm_1, h1_6, h1_5, e1_0, hi, hc⟩ := hI_1
  have h1_0 := KS hs_1 0
  have h1_1 := KS hs_1 1
  have h1_4 := KS hs_1 4
  have h1_5 := KS hs_1 5
  have hlow := KL (N := N) (σ := σ) hf_1
  have hcl := padC_len key x i hi
  rw [hc] at hcl
  by_cases h64 : i = 64
  · subst h64
    rw [padC_64] at hc
    have hpl := padK_len key x
    rw [hc] at hpl ⊢
    clear hc h0 M hpl
    generalize hP : cur = P at *
    refine Wm ?_
    iterate 1 refine Wz ?_
    refine go_freeze 5 (id := N + 1) (ver := 0) (size := 1) (e := 5) (xs := P.map byteAV) (k := 64) (by simp (disch := omega) [go_sem, *, -List.reduceReplicate]) (by simp (disch := omega) [go_sem, *, -List.reduceReplicate]) (by simp (disch := omega) [go_sem, *, -List.reduceReplicate]) ?_
    refine Wk ?_
    refine go_result1 (r0 := N+1) (by simp (disch := omega) [go_sem, *, -List.reduceReplicate]; rfl) (by omega) (by simp (disch := omega) [go_sem]; try rfl) (fun id hid => by simp (disch := omega) only [upd_ne, wr_cons, wr_nil]; try exact hlow id hid) (by simp (disch := omega) [go_sem, *, -List.reduceReplicate]; rfl) (by simp (disch := omega) [go_sem])
  · have hi2 : i < 64 := by omega
    have hi2i : (i : Int) < 64 := by omega
    have hat := padK_at key x i hi2 (by rw [padK_len]; exact hi2)
    by_cases hk : i < key.length
    · rw [dif_pos hk] at hat
      have hki : (i : Int) < (key.length : Int) := by omega
      obtain ⟨z, hz⟩ : ∃ z, key[i] = z := ⟨_, rfl⟩
      rw [hz] at hat
      have hx := x8_eq z x
      have hs := padC_set key x i hi2 _ hat
      have hzb : byteAV z = .lit (.int .u8 z.toNat) := rfl
      rw [hc] at hs
      have hset1 := set_bytes cur i x
      obtain ⟨c1, hc1⟩ : ∃ c1, cur.set i x = c1 := ⟨_, rfl⟩
      have hset2 := set_bytes c1 i (x8 z x)
      rw [← hc1, List.set_set, hs, hc1] at hset2
      rw [hc1] at hset1
      have hl1 : c1.length = 64 := by rw [← hc1, List.length_set]; exact hcl
      generalize x8 z x = v at *
      have hvb : byteAV v = .lit (.int .u8 v.toNat) := rfl
      rw [hxb] at hset1
      rw [hvb] at hset2
      generalize hc' : padC key x (i + 1) = c2 at *
      clear hs hat hc hc1 h0 M hxb hzb hvb
      refine Wk ?_
      exact ⟨WS, WG, WN, _, (show 64 - (i + 1) < m_1 by omega), i + 1, c2, rfl, WF, WF, WF, WC, WC⟩
    · rw [dif_neg hk] at hat
      have hki : ¬ (i : Int) < (key.length : Int) := by omega
      have hs := padC_set key x i hi2 _ hat
      have hset := set_bytes cur i x
      rw [hc] at hs
      rw [hs] at hset
      rw [hxb] at hset
      generalize hc' : padC key x (i + 1) = c2 at *
      clear hs hat hc h0 M hxb
      refine Wk ?_
      exact ⟨WS, WG, WN, _, (show 64 - (i + 1) < m_1 by omega), i + 1, c2, rfl, WF, WF, WF, WC, WC⟩
end Go.Proofs.YtemmlldpmgfblaaGreatDoor

/- HMAC: Of, the specified one. -/
namespace Go.Proofs.YtemmlldpmgfblaaGreatDoor
open Go.Ab
attribute [local irreducible] Go.Ab.tyAV Go.Ab.aw Go.Ab.aops Go.Ab.kReg Go.Ab.aThen Go.Ab.aBlk Go.Ab.acond Go.Ab.aguard Go.Ab.astep Go.Ab.AStepX Go.Ab.aRet
attribute [local irreducible] shaG

section
variable [W : W32]
def hmacT (key msg : List UInt8) : Tg := shaT (padK key 92 ++ (shaT (padK key 54 ++ msg)).1)
theorem Hmac_spec (key msg : List UInt8) (hk : key.length ≤ 64) (hm : msg.length ≤ 100000) (k : Nat) :
    ACall Tryz.prog 143 [.slice none (key.map byteAV), .slice none (msg.map byteAV)] k [] (tagAV (hmacT key msg)) [] := by
  have c1 := padded_spec key 54
  have c2 := padded_spec key 92
  have l1 := padK_len key 54
  have l2 := padK_len key 92
  unfold hmacT
  generalize padK key 54 = P1 at *
  generalize padK key 92 = P2 at *
  have c3 := Sha_spec (P1 ++ msg) (by rw [List.length_append]; omega)
  obtain ⟨A, hA⟩ : ∃ A, P1 ++ msg = A := ⟨_, rfl⟩
  have hAm : P1.map byteAV ++ msg.map byteAV = A.map byteAV := by rw [← hA, List.map_append]
  rw [hA] at c3 ⊢
  generalize shaT A = T1 at *
  have hs1 := tagAV_sz T1
  have hs2 := tagAV_cell T1
  obtain ⟨T1, hT1⟩ := T1
  simp only [tagAV] at c3 hs1 hs2 ⊢
  have c4 := Sha_spec (P2 ++ T1) (by rw [List.length_append]; omega)
  obtain ⟨B, hB⟩ : ∃ B, P2 ++ T1 = B := ⟨_, rfl⟩
  have hBm : P2.map byteAV ++ T1.map byteAV = B.map byteAV := by rw [← hB, List.map_append]
  rw [hB] at c4 ⊢
  generalize shaT B = T2 at *
  have hs3 := tagAV_sz T2
  have hs4 := tagAV_cell T2
  obtain ⟨T2, hT2⟩ := T2
  simp only [tagAV] at c4 hs3 hs4 ⊢
  have e54 : ((54 : UInt8).toNat : Int) = 54 := rfl
  have e92 : ((92 : UInt8).toNat : Int) = 92 := rfl
  rw [e54] at c1
  rw [e92] at c2
  have hki : ¬ (64 : Int) < (key.length : Int) := by omega
  clear hA hB
  refine Bd Tryz.func143 Tryz.ntmps143 fun σ N hp hpn hk hkn hfree => ?_
  have htk : (T1.map byteAV).take 32 = T1.map byteAV := List.take_of_length_le (by rw [List.length_map]; omega)
  have hcs := And.intro c1 (And.intro c3 (And.intro c2 (And.intro c4 True.intro)))
  clear c1 c2 c3 c4
  exact W0
end
end Go.Proofs.YtemmlldpmgfblaaGreatDoor

/- Shared: lists of byte strings. -/
namespace Go.Proofs.YtemmlldpmgfblaaGreatDoor
open Go.Ab
attribute [local irreducible] Go.Ab.tyAV Go.Ab.aw Go.Ab.aops Go.Ab.kReg Go.Ab.aThen Go.Ab.aBlk Go.Ab.acond Go.Ab.aguard Go.Ab.astep Go.Ab.AStepX Go.Ab.aRet

def bAV (b : List UInt8) : AV := .slice none (b.map byteAV)
theorem bAV_def (b : List UInt8) : bAV b = .slice none (b.map byteAV) := rfl
@[go_sem] theorem bAV_sz (b : List UInt8) : (bAV b).sz = 1 := rfl
@[go_sem] theorem bAV_isAgg (b : List UInt8) : (bAV b).isAgg = false := rfl
@[go_sem] theorem all_bs1 (l : List (List UInt8)) : (l.map bAV).all (fun x => x.sz == 1) = true := by
  rw [List.all_eq_true]; intro x hx; obtain ⟨b, _, rfl⟩ := List.mem_map.1 hx; rfl
@[go_sem] theorem bAV_cell (b : List UInt8) : (bAV b).cell = true := rfl
@[go_sem] theorem bAV_ren (f : Nat → Option Nat) (b : List UInt8) : (bAV b).ren f = bAV b := by
  simp only [bAV, AV.ren, renl_bytes, Option.bind_none]
@[go_sem] theorem renl_bs (f : Nat → Option Nat) (l : List (List UInt8)) : AV.renl f (l.map bAV) = l.map bAV := by
  rw [AV.renl_map, List.map_map]; exact List.map_congr_left fun t _ => bAV_ren f t
@[go_sem] theorem all_bs2 (l : List (List UInt8)) : (l.map bAV).all (fun x => x.sz == 1 && x.cell) = true := by
  rw [List.all_eq_true]; intro x hx; obtain ⟨b, _, rfl⟩ := List.mem_map.1 hx; rfl
@[go_sem] theorem szl_bs (l : List (List UInt8)) : AV.szl (l.map bAV) = l.length := by
  rw [AV.szl_uniform _ 1 fun x hx => by obtain ⟨b, _, rfl⟩ := List.mem_map.1 hx; rfl]; simp

theorem AV.le_sliceS {xs ys : List AV} (o : Option Nat) (h : ALe xs ys) : AV.le (.slice o xs) (.slice o ys) := fun g v hr => by
  obtain ⟨h1, h2⟩ := h.at
  cases hr with
  | slice own _ vs A c size hvl hc hm hr hs hcell hown =>
    rw [h1] at hvl hc hcell hown ⊢
    exact .slice o ys vs A c size hvl hc hm (fun i y v hy hv => by obtain ⟨x, hx, hxy⟩ := h2 i y hy; exact hxy g v (hr i x v hx hv)) hs hcell hown
theorem ALe.snoc {xs : List AV} {x y : AV} (h : AV.le x y) : ALe (xs ++ [x]) (xs ++ [y]) := by
  induction xs with
  | nil => exact .cons h .nil
  | cons z r ih => exact .cons (AV.le_refl _) ih
end Go.Proofs.YtemmlldpmgfblaaGreatDoor

/- Algebras: their values; Symbol, entry of the reference. -/
namespace Go.Proofs.YtemmlldpmgfblaaGreatDoor
open Go.Ab
attribute [local irreducible] Go.Ab.tyAV Go.Ab.aw Go.Ab.aops Go.Ab.kReg Go.Ab.aThen Go.Ab.aBlk Go.Ab.acond Go.Ab.aguard Go.Ab.astep Go.Ab.AStepX Go.Ab.aRet
attribute [local irreducible] shaG

@[go_sem] theorem ev_tag_eq (a b : Tg) : evBin Tryz.prog .eql 26 (tagAV a) (tagAV b) = some ⟨[], .lit (.bool (decide (a = b))), []⟩ := evBin_tag eq26 a b
@[go_sem] theorem ev_tag_ne (a b : Tg) : evBin Tryz.prog .neq 26 (tagAV a) (tagAV b) = some ⟨[], .lit (.bool (!decide (a = b))), []⟩ := evBin_tagN eq26 a b
structure MacE where
  key : Tg
  msg : List UInt8
  tag : Tg
structure BoxE where
  key : Tg
  nonce : Int
  plain : List UInt8
  box : List UInt8
structure Alg where
  free : Bool
  seed : Tg
  fresh : Int
  macs : List MacE
  boxes : List BoxE
def macAV (e : MacE) : AV := .agg [tagAV e.key, bAV e.msg, tagAV e.tag]
def sealAV (e : BoxE) : AV := .agg [tagAV e.key, .lit (.int .i64 e.nonce), bAV e.plain, bAV e.box]
def algAV (a : Alg) : AV := .agg [.lit (.bool a.free), tagAV a.seed, .lit (.int .i64 a.fresh), .slice none (a.macs.map macAV), .slice none (a.boxes.map sealAV)]
def alg0 : Alg := ⟨false, zeroTag, 0, [], []⟩
@[go_sem] theorem macAV_sz (e : MacE) : (macAV e).sz = 65 := by simp only [macAV, AV.sz, AV.szl, tagAV_sz, bAV_sz]
@[go_sem] theorem macAV_isAgg (e : MacE) : (macAV e).isAgg = true := rfl
@[go_sem] theorem macAV_cell (e : MacE) : (macAV e).cell = true := by simp only [macAV, AV.cell, AV.celll, tagAV_cell, bAV_cell, Bool.and_self]
@[go_sem] theorem macAV_ren (f : Nat → Option Nat) (e : MacE) : (macAV e).ren f = macAV e := by simp only [macAV, AV.ren, AV.renl, tagAV_ren, bAV_ren]
@[go_sem] theorem sealAV_sz (e : BoxE) : (sealAV e).sz = 35 := by simp only [sealAV, AV.sz, AV.szl, tagAV_sz, bAV_sz]
@[go_sem] theorem sealAV_isAgg (e : BoxE) : (sealAV e).isAgg = true := rfl
@[go_sem] theorem sealAV_cell (e : BoxE) : (sealAV e).cell = true := by simp only [sealAV, AV.cell, AV.celll, tagAV_cell, bAV_cell, Bool.and_self, AV.one]
@[go_sem] theorem sealAV_ren (f : Nat → Option Nat) (e : BoxE) : (sealAV e).ren f = sealAV e := by simp only [sealAV, AV.ren, AV.renl, tagAV_ren, bAV_ren]
@[go_sem] theorem renl_macs (f : Nat → Option Nat) (l : List MacE) : AV.renl f (l.map macAV) = l.map macAV := by
  rw [AV.renl_map, List.map_map]; exact List.map_congr_left fun t _ => macAV_ren f t
@[go_sem] theorem renl_boxes (f : Nat → Option Nat) (l : List BoxE) : AV.renl f (l.map sealAV) = l.map sealAV := by
  rw [AV.renl_map, List.map_map]; exact List.map_congr_left fun t _ => sealAV_ren f t
@[go_sem] theorem all_macs1 (l : List MacE) : (l.map macAV).all (fun x => x.sz == 65) = true := by
  rw [List.all_eq_true]; intro x hx; obtain ⟨b, _, rfl⟩ := List.mem_map.1 hx; simp [macAV_sz]
@[go_sem] theorem all_macs2 (l : List MacE) : (l.map macAV).all (fun x => x.sz == 65 && x.cell) = true := by
  rw [List.all_eq_true]; intro x hx; obtain ⟨b, _, rfl⟩ := List.mem_map.1 hx; simp [macAV_sz, macAV_cell]
@[go_sem] theorem all_boxes1 (l : List BoxE) : (l.map sealAV).all (fun x => x.sz == 35) = true := by
  rw [List.all_eq_true]; intro x hx; obtain ⟨b, _, rfl⟩ := List.mem_map.1 hx; simp [sealAV_sz]
@[go_sem] theorem all_boxes2 (l : List BoxE) : (l.map sealAV).all (fun x => x.sz == 35 && x.cell) = true := by
  rw [List.all_eq_true]; intro x hx; obtain ⟨b, _, rfl⟩ := List.mem_map.1 hx; simp [sealAV_sz, sealAV_cell]
@[go_sem] theorem algAV_sz (a : Alg) : (algAV a).sz = 36 := by simp only [algAV, AV.sz, AV.szl, tagAV_sz]
@[go_sem] theorem algAV_isAgg (a : Alg) : (algAV a).isAgg = true := rfl
@[go_sem] theorem algAV_cell (a : Alg) : (algAV a).cell = true := by simp only [algAV, AV.cell, AV.celll, tagAV_cell, Bool.and_self, AV.one]
@[go_sem] theorem algAV_ren (f : Nat → Option Nat) (a : Alg) : (algAV a).ren f = algAV a := by simp only [algAV, AV.ren, AV.renl, tagAV_ren, renl_macs, renl_boxes, Option.bind_none]

/-- A tag that is not computed. -/
def symT (kind : UInt8) (n : Int) : Tg := ⟨[115, 121, 109, 98, 111, 108, kind] ++ eightB n ++ List.replicate 17 0, by simp [eightB]⟩
theorem Symbol_spec (kind : UInt8) (n : Nat) (hn : n ≤ 1000000000) (k : Nat) :
    ACall Tryz.prog 140 [.lit (.int .u8 kind.toNat), .lit (.int .i64 n)] k [] (tagAV (symT kind n)) [] := by
  have c1 := Eight_spec (n : Int) (by omega) (by omega)
  have hkb : byteAV kind = .lit (.int .u8 kind.toNat) := rfl
  have hel := eightB_len (n : Int)
  have hT : (symT kind n).1 = [115, 121, 109, 98, 111, 108, kind] ++ eightB n ++ List.replicate 17 0 := rfl
  generalize symT kind n = T at *
  obtain ⟨T, hTl⟩ := T
  simp only [tagAV] at hT ⊢
  generalize eightB (n : Int) = E at *
  have htk : (E.map byteAV).take 8 = E.map byteAV := List.take_of_length_le (by rw [List.length_map]; omega)
  have hz0 : (zeroTag.val.map byteAV).drop 15 = (List.replicate 17 (0 : UInt8)).map byteAV := rfl
  have hfin : AV.lit (.int .u8 115) :: .lit (.int .u8 121) :: .lit (.int .u8 109) :: .lit (.int .u8 98) :: .lit (.int .u8 111) :: .lit (.int .u8 108) :: .lit (.int .u8 kind.toNat) :: ((E.map byteAV).take 8 ++ (zeroTag.val.map byteAV).drop 15) = T.map byteAV := by
    rw [hT, htk, hz0, List.map_append, List.map_append]; rfl
  have hs1 : (AV.agg (T.map byteAV)).sz = 32 := by simp only [AV.sz, szl_bytes]; exact hTl
  have hs2 : (AV.agg (T.map byteAV)).cell = true := celll_bytes T
  clear htk hz0 hT
  refine Bd Tryz.func140 Tryz.ntmps140 fun σ N hp hpn hk hkn hfree => ?_
  have M : Mut (N + 2) := ⟨⟩
  have M2 : Mut (N + 2 + 1) := ⟨⟩
  have hcs := And.intro c1 True.intro
  clear c1
  exact W0

/-- The tag of the entry with a key and a message. -/
def entL (key : Tg) (msg : List UInt8) : List MacE → Option Tg
  | [] => none
  | e :: r => if e.key = key ∧ e.msg = msg then some e.tag else entL key msg r
def entAV (o : Option Tg) : AV := .tup [tagAV (o.getD zeroTag), .lit (.bool o.isSome)]
set_option maxHeartbeats 1000000 in
theorem entry_spec (a : Alg) (key : Tg) (msg : List UInt8) (hl : a.macs.length ≤ 1000000) (hm : ∀ e ∈ a.macs, e.msg.length ≤ 100000) (k : Nat) :
    ACall Tryz.prog 142 [algAV a, tagAV key, .slice none (msg.map byteAV)] k [] (entAV (entL key msg a.macs)) [] := by
  obtain ⟨fr, sd, fs, L, B⟩ := a
  simp only [algAV] at *
  generalize hR : entL key msg L = R
  unfold entAV
  refine Bd Tryz.func142 Tryz.ntmps142 fun σ N hp hpn hk hkn hfree => ?_
  refine Wk ?_
  refine go_loopF mixed (by kernel_rfl) [7, 8, 9, 10, 11, 12, 13, 14, 15, 16, 17, 18, 19, 20, 21, 22, 23, 24, 25, 26, 27, 28, 29, 30, 31, 32, 33, 34, 35, 36, 37, 38, 39] [N, N+1, N+2] (fun m_ s_ σ_ n_ => ∃ (u : Nat), m_ = L.length - u ∧ s_ 8 = .lit (.int .i64 u) ∧ σ_ (N) = .box 36 (.agg [.lit (.bool fr), tagAV sd, .lit (.int .i64 fs), .slice none (L.map macAV), .slice none (B.map sealAV)]) ∧ σ_ (N+1) = .box 26 (tagAV key) ∧ σ_ (N+2) = .box 26 (tagAV zeroTag) ∧ (u ≤ L.length) ∧ (entL key msg (L.drop u) = R)) ⟨_, 0, rfl, WF, WF, WF, WF, WC, WC⟩ ?_
  intro m_1 s_1 σ_1 n_1 hs_1 hf_1 hn_1 hI_1
  obtain ⟨u, hm_1, h1_8, e1_0, e1_1, e1_2, hu, hd⟩ := hI_1
  have h1_2 := KS hs_1 2
  have h1_3 := KS hs_1 3
  have h1_4 := KS hs_1 4
  have h1_6 := KS hs_1 6
  have hlow := KL (N := N) (σ := σ) hf_1
  by_cases hul : u = L.length
  · subst hul
    rw [List.drop_length] at hd
    simp only [entL] at hd
    subst hd
    simp only [Option.getD_none, Option.isSome_none]
    exact W0
  · have hu1 : u < L.length := by omega
    rw [List.drop_eq_getElem_cons hu1, entL] at hd
    have hmz := hm _ (List.getElem_mem hu1)
    obtain ⟨z, hz⟩ : ∃ z, L[u] = z := ⟨_, rfl⟩
    rw [hz] at hd hmz
    obtain ⟨zk, zm, zt⟩ := z
    simp only at hd hmz
    have hzd : macAV ⟨zk, zm, zt⟩ = .agg [tagAV zk, bAV zm, tagAV zt] := rfl
    have hzb := bAV_def zm
    have c1 := Same_spec zm msg (by omega)
    by_cases h1 : zk = key
    · have d1 : decide (zk = key) = true := decide_eq_true h1
      by_cases h2 : zm = msg
      · rw [if_pos ⟨h1, h2⟩] at hd
        subst hd
        rw [decide_eq_true h2] at c1
        have hcs := And.intro c1 True.intro
        simp only [Option.getD_some, Option.isSome_some]
        clear c1 hR hm
        subst h1
        subst h2
        exact W0
      · rw [if_neg (fun h => h2 h.2)] at hd
        rw [decide_eq_false h2] at c1
        have hcs := And.intro c1 True.intro
        clear c1 hR hm
        subst h1
        refine Wk ?_
        exact ⟨WS, WG, WN, _, (show L.length - (u + 1) < m_1 by omega), u + 1, rfl, WF, WF, WF, WF, WC, WC⟩
    · rw [if_neg (fun h => h1 h.1)] at hd
      have d1 : decide (zk = key) = false := decide_eq_false h1
      clear c1 hR hm
      refine Wk ?_
      exact ⟨WS, WG, WN, _, (show L.length - (u + 1) < m_1 by omega), u + 1, rfl, WF, WF, WF, WF, WC, WC⟩
end Go.Proofs.YtemmlldpmgfblaaGreatDoor

/- The deck of numbers that the laws draw from. -/
namespace Go.Proofs.YtemmlldpmgfblaaGreatDoor
open Go.Ab
attribute [local irreducible] Go.Ab.tyAV Go.Ab.aw Go.Ab.aops Go.Ab.kReg Go.Ab.aThen Go.Ab.aBlk Go.Ab.acond Go.Ab.aguard Go.Ab.astep Go.Ab.AStepX Go.Ab.aRet

theorem within_eq (x n : Int) (h : 0 < n) : (x.tmod n + n).tmod n = x % n := by
  have h2 : -n < x.tmod n := by have := Int.lt_tmod_of_pos x h; omega
  rw [Int.tmod_eq_emod_of_nonneg (by omega), Int.add_emod_right, Int.tmod_eq_emod]
  split
  · rename_i hh; simp
  · rw [Int.sub_emod]; have : n ∣ n.natAbs := by rw [Int.dvd_natAbs]; exact Int.dvd_refl n
    simp [Int.emod_emod_of_dvd, Int.emod_eq_zero_of_dvd this]

theorem Within_spec (x n : Int) (h : 0 < n) (hn : n ≤ 1000000000000000000) (k : Nat) :
    ACall Tryz.prog 38 [.lit (.int .i64 x), .lit (.int .i64 n)] k [] (.lit (.int .i64 (x % n))) [] := by
  have h0 : n ≠ 0 := by omega
  have h1 : x.tmod n < n := Int.tmod_lt_of_pos x h
  have h2 : -n < x.tmod n := by have := Int.lt_tmod_of_pos x h; omega
  refine Bd Tryz.func38 Tryz.ntmps38 fun σ N hp hpn hk hkn hfree => ?_
  refine Wk ?_
  exact go_result (by simp (disch := omega) [go_sem, *, -List.reduceReplicate]; rfl) (by simp only [AV.ren, within_eq x n h]) (fun id _ => rfl)

def deckBox (l : List Int) (i : Nat) : Ent := .box 123 (.agg [.slice none (l.map intAV), .lit (.int .i64 i)])
@[simp, go_sem] theorem deckBox_ne (l : List Int) (i : Nat) : (deckBox l i = .none) = False := by simp [deckBox]
@[go_sem] theorem deckBox_ren (l : List Int) (i : Nat) (f : Nat → Option Nat) : (deckBox l i).ren f = deckBox l i := by
  simp only [deckBox, ent_ren_box, AV.ren, AV.renl, renl_ints, Option.bind_none]
/-- A deck as it may be. -/
def Dk (l : List Int) (i : Nat) : Prop := l.length ≤ 9223372036854775807 ∧ i ≤ l.length

theorem New_spec (l : List Int) (k : Nat) : ACall Tryz.prog 17 [.slice none (l.map intAV)] k [] (.ptr k [] 0) [(k, deckBox l 0)] := by
  unfold deckBox
  refine Bd Tryz.func17 Tryz.ntmps17 fun σ N hp hpn hk hkn hfree => ?_
  refine Wk ?_
  refine go_result1 (r0 := N+3) (by simp (disch := omega) [go_sem, *, -List.reduceReplicate]; rfl) (by omega) (by simp (disch := omega) [go_sem]; try rfl) (fun id hid => by simp (disch := omega) only [upd_ne, wr_cons, wr_nil]; try exact hlow id hid) (by simp (disch := omega) only [upd_same, upd_ne]; rfl) (by simp (disch := omega) [go_sem])

theorem Next_none (l : List Int) (i : Nat) (n : Int) (hi : l.length ≤ i) (hb : i ≤ 9223372036854775807) (d k : Nat) :
    ACall Tryz.prog 29 [.ptr d [] 0, .lit (.int .i64 n)] k [(d, deckBox l i)] (.lit (.int .i64 0)) [(d, deckBox l i)] := by
  unfold deckBox
  refine Bd Tryz.func29 Tryz.ntmps29 fun σ N hp hpn hk hkn hfree => ?_
  have hd := hp _ (List.mem_singleton.2 rfl)
  have hdn := hpn _ (List.mem_singleton.2 rfl)
  simp only at hd hdn
  clear hp hpn
  refine Wk ?_
  exact RW (d) (.box 123 (.agg [.slice none (l.map intAV), .lit (.int .i64 i)]))

theorem Next_some (l : List Int) (i : Nat) (n : Int) (hi : i < l.length) (hb : l.length ≤ 9223372036854775807) (h0 : 0 < n) (hn : n ≤ 1000000000000000000) (d k : Nat) :
    ACall Tryz.prog 29 [.ptr d [] 0, .lit (.int .i64 n)] k [(d, deckBox l i)] (.lit (.int .i64 (l[i] % n))) [(d, deckBox l (i + 1))] := by
  obtain ⟨x, hx⟩ : ∃ x, l[i] = x := ⟨_, rfl⟩
  have c1 := Within_spec x n h0 hn
  have hxx : intAV x = .lit (.int .i64 x) := rfl
  rw [hx]
  unfold deckBox
  refine Bd Tryz.func29 Tryz.ntmps29 fun σ N hp hpn hk hkn hfree => ?_
  have hd := hp _ (List.mem_singleton.2 rfl)
  have hdn := hpn _ (List.mem_singleton.2 rfl)
  simp only at hd hdn
  clear hp hpn
  have hcs := And.intro c1 True.intro
  refine Wk ?_
  exact RW (d) (.box 123 (.agg [.slice none (l.map intAV), .lit (.int .i64 ((i : Int) + 1))]))

def nextD (l : List Int) (i : Nat) (n : Nat) : Nat × Nat := if h : i < l.length then ((l[i] % (n : Int)).toNat, i + 1) else (0, i)
theorem nextD_lt (l : List Int) (i : Nat) (n : Nat) (h : 0 < n) : (nextD l i n).1 < n := by
  unfold nextD
  split
  · have := Int.emod_nonneg l[i] (show (n : Int) ≠ 0 by omega)
    have := Int.emod_lt_of_pos l[i] (show (0 : Int) < (n : Int) by omega)
    simp only; omega
  · exact h
theorem nextD_dk {l : List Int} {i : Nat} (n : Nat) (h : Dk l i) : Dk l (nextD l i n).2 := by
  unfold nextD Dk at *
  split
  · exact ⟨h.1, by simp only; omega⟩
  · exact h
theorem Next_spec (l : List Int) (i : Nat) (n : Nat) (h : Dk l i) (h0 : 0 < n) (hn : n ≤ 1000000000000000000) (d k : Nat) :
    ACall Tryz.prog 29 [.ptr d [] 0, .lit (.int .i64 n)] k [(d, deckBox l i)] (.lit (.int .i64 (nextD l i n).1)) [(d, deckBox l (nextD l i n).2)] := by
  unfold nextD
  split
  · rename_i hi
    have := Next_some l i n hi h.1 (by omega) (by omega) d k
    have e : ((l[i] % (n : Int)).toNat : Int) = l[i] % (n : Int) := Int.toNat_of_nonneg (Int.emod_nonneg _ (by omega))
    simp only [e]; exact this
  · rename_i hi; exact Next_none l i n (by omega) (by have := h.1; have := h.2; omega) d k
/-- The next number, when no more than its bound is asked. -/
theorem Next_ex (l : List Int) (i : Nat) (n : Nat) (h : Dk l i) (h0 : 0 < n) (hn : n ≤ 1000000000000000000) :
    ∃ x j : Nat, x < n ∧ Dk l j ∧ ∀ d k, ACall Tryz.prog 29 [.ptr d [] 0, .lit (.int .i64 n)] k [(d, deckBox l i)] (.lit (.int .i64 x)) [(d, deckBox l j)] :=
  ⟨_, _, nextD_lt l i n h0, nextD_dk n h, Next_spec l i n h h0 hn⟩
end Go.Proofs.YtemmlldpmgfblaaGreatDoor

/- The deck's Range. -/
namespace Go.Proofs.YtemmlldpmgfblaaGreatDoor
open Go.Ab
attribute [local irreducible] Go.Ab.tyAV Go.Ab.aw Go.Ab.aops Go.Ab.kReg Go.Ab.aThen Go.Ab.aBlk Go.Ab.acond Go.Ab.aguard Go.Ab.astep Go.Ab.AStepX Go.Ab.aRet

def rangeD (l : List Int) (i lo n : Nat) : Nat × Nat := (lo + (nextD l i n).1, (nextD l i n).2)
theorem Range_spec (l : List Int) (i : Nat) (lo hi n : Nat) (h : Dk l i) (hlo : lo ≤ 1000000000) (hhi : hi ≤ 1000000000) (hn : hi + 1 = lo + n) (h0 : 0 < n) (d k : Nat) :
    ACall Tryz.prog 103 [.ptr d [] 0, .lit (.int .i64 lo), .lit (.int .i64 hi)] k [(d, deckBox l i)] (.lit (.int .i64 (rangeD l i lo n).1)) [(d, deckBox l (rangeD l i lo n).2)] := by
  have c1 := Next_spec l i n h h0 (by omega)
  have b1 := nextD_lt l i n h0
  unfold rangeD
  generalize nextD l i n = X at *
  obtain ⟨x, j⟩ := X
  simp only at c1 b1 ⊢
  have hx : (hi : Int) - lo + 1 = n := by omega
  have hc : ((lo + x : Nat) : Int) = (lo : Int) + x := by omega
  rw [hc]
  clear hc
  refine Bd Tryz.func103 Tryz.ntmps103 fun σ N hp hpn hk hkn hfree => ?_
  obtain ⟨hd, hdn⟩ := HD0 hp hpn; clear hp hpn
  have hcs := And.intro (c1 d) True.intro
  clear c1
  refine Wk ?_
  exact RW (d) (deckBox l j)
theorem rangeD_dk {l : List Int} {i lo n : Nat} (h : Dk l i) : Dk l (rangeD l i lo n).2 := nextD_dk n h
end Go.Proofs.YtemmlldpmgfblaaGreatDoor

/- Predicates: names, masks, Valid. -/
namespace Go.Proofs.YtemmlldpmgfblaaGreatDoor
open Go.Ab
attribute [local irreducible] Go.Ab.tyAV Go.Ab.aw Go.Ab.aops Go.Ab.kReg Go.Ab.aThen Go.Ab.aBlk Go.Ab.acond Go.Ab.aguard Go.Ab.astep Go.Ab.AStepX Go.Ab.aRet

structure Pr where
  kind : Int
  mask : Int
  frm : Int
  to : Int
  name : List UInt8
  num : Int
deriving DecidableEq
def prAV (p : Pr) : AV := .agg [.lit (.int .i64 p.kind), .lit (.int .u64 p.mask), .lit (.int .i64 p.frm), .lit (.int .i64 p.to), .lit (.string ⟨p.name.toArray⟩), .lit (.int .i64 p.num)]
@[go_sem] theorem prAV_sz (p : Pr) : (prAV p).sz = 6 := rfl
@[go_sem] theorem prAV_isAgg (p : Pr) : (prAV p).isAgg = true := rfl
@[go_sem] theorem prAV_cell (p : Pr) : (prAV p).cell = true := rfl
@[go_sem] theorem prAV_ren (f : Nat → Option Nat) (p : Pr) : (prAV p).ren f = prAV p := rfl
theorem pr_eqB (a b : Pr) : (a.kind == b.kind && (a.mask == b.mask && (a.frm == b.frm && (a.to == b.to && (a.name == b.name && a.num == b.num))))) = decide (a = b) := by
  obtain ⟨a1, a2, a3, a4, a5, a6⟩ := a
  obtain ⟨b1, b2, b3, b4, b5, b6⟩ := b
  rw [Bool.eq_iff_iff]; simp
theorem barr_eq (l m : List UInt8) : ((ByteArray.mk l.toArray) == (ByteArray.mk m.toArray)) = (l == m) := by
  show (l.toArray == m.toArray) = (l == m)
  simp
theorem ev_pr_eq (a b : Pr) : evBin Tryz.prog .eql 110 (prAV a) (prAV b) = some ⟨[], .lit (.bool (decide (a = b))), []⟩ := by
  rw [← pr_eqB]
  simp only [evBin, prAV, evEqA, eq110, eqA, eqAs]
  simp [barr_eq]
theorem ev_pr_ne (a b : Pr) : evBin Tryz.prog .neq 110 (prAV a) (prAV b) = some ⟨[], .lit (.bool (!decide (a = b))), []⟩ := by
  rw [← pr_eqB]
  simp only [evBin, prAV, evEqA, eq110, eqA, eqAs]
  simp [barr_eq]
attribute [go_sem high] ev_pr_eq ev_pr_ne
/-- The same, the fields written out; a field that is a string may be the empty one. -/
@[go_sem high] theorem ev_pr_eq0 (a1 a2 a3 a4 a6 b1 b2 b3 b4 b6 : Int) (a5 b5 : List UInt8) :
    evBin Tryz.prog .eql 110 (.agg [.lit (.int .i64 a1), .lit (.int .u64 a2), .lit (.int .i64 a3), .lit (.int .i64 a4), .lit (.string ⟨a5.toArray⟩), .lit (.int .i64 a6)]) (.agg [.lit (.int .i64 b1), .lit (.int .u64 b2), .lit (.int .i64 b3), .lit (.int .i64 b4), .lit (.string ⟨b5.toArray⟩), .lit (.int .i64 b6)]) =
      some ⟨[], .lit (.bool (decide ((⟨a1, a2, a3, a4, a5, a6⟩ : Pr) = ⟨b1, b2, b3, b4, b5, b6⟩))), []⟩ := ev_pr_eq ⟨a1, a2, a3, a4, a5, a6⟩ ⟨b1, b2, b3, b4, b5, b6⟩
@[go_sem high] theorem ev_pr_eq1 (a1 a2 a3 a4 a6 b1 b2 b3 b4 b6 : Int) (a5 : List UInt8) :
    evBin Tryz.prog .eql 110 (.agg [.lit (.int .i64 a1), .lit (.int .u64 a2), .lit (.int .i64 a3), .lit (.int .i64 a4), .lit (.string ⟨a5.toArray⟩), .lit (.int .i64 a6)]) (.agg [.lit (.int .i64 b1), .lit (.int .u64 b2), .lit (.int .i64 b3), .lit (.int .i64 b4), .lit (.string ByteArray.empty), .lit (.int .i64 b6)]) =
      some ⟨[], .lit (.bool (decide ((⟨a1, a2, a3, a4, a5, a6⟩ : Pr) = ⟨b1, b2, b3, b4, [], b6⟩))), []⟩ := ev_pr_eq ⟨a1, a2, a3, a4, a5, a6⟩ ⟨b1, b2, b3, b4, [], b6⟩

def nmc (c : UInt8) : Bool := decide (97 ≤ c.toNat) && decide (c.toNat ≤ 122)
def nameB (s : List UInt8) : Bool := decide (1 ≤ s.length) && decide (s.length ≤ 16) && s.all nmc
theorem nameB_bad {s : List UInt8} {u : Nat} (hu : u < s.length) (h : nmc s[u] = false) : nameB s = false := by
  have : s.all nmc = false := by
    rw [List.all_eq_false]
    exact ⟨s[u], List.getElem_mem hu, by simp [h]⟩
  simp [nameB, this]

theorem name_gen (s : List UInt8) (r : Bool) (hr : nameB s = r) (hl : s.length ≤ 9223372036854775807) (k : Nat) :
    ACall Tryz.prog 148 [.lit (.string ⟨s.toArray⟩)] k [] (.lit (.bool r)) [] := by
  by_cases h1 : s.length < 1
  · have : r = false := by rw [← hr]; simp [nameB, show ¬ 1 ≤ s.length by omega]
    subst this
    clear hr
    have hi : (s.length : Int) < 1 := by omega
    refine Bd Tryz.func148 Tryz.ntmps148 fun σ N hp hpn hk hkn hfree => ?_
    exact W0
  · have hi : ¬ (s.length : Int) < 1 := by omega
    by_cases h2 : 16 < s.length
    · have : r = false := by rw [← hr]; simp [nameB, show ¬ s.length ≤ 16 by omega]
      subst this
      clear hr
      have hi2 : (16 : Int) < (s.length : Int) := by omega
      refine Bd Tryz.func148 Tryz.ntmps148 fun σ N hp hpn hk hkn hfree => ?_
      exact W0
    · have hi2 : ¬ (16 : Int) < (s.length : Int) := by omega
      refine Bd Tryz.func148 Tryz.ntmps148 fun σ N hp hpn hk hkn hfree => ?_
      refine Wk ?_
      refine go_loopF mixed (by kernel_rfl) [2, 3, 14, 15, 16, 17, 18, 19, 20, 21, 22, 23, 24, 25, 26, 27] [] (fun m_ s_ σ_ n_ => ∃ (u : Nat), m_ = s.length - u ∧ s_ 14 = .lit (.int .i64 u) ∧ (u ≤ s.length) ∧ (∀ c ∈ s.take u, nmc c = true)) ⟨_, 0, rfl, WF, WC, WC⟩ ?_
      intro m_1 s_1 σ_1 n_1 hs_1 hf_1 hn_1 hI_1
      obtain ⟨u, hm_1, h1_14, hu, hall⟩ := hI_1
      have h1_0 := KS hs_1 0
      have h1_13 := KS hs_1 13
      have hlow := KL (N := N) (σ := σ) hf_1
      by_cases hul : u = s.length
      · have : r = true := by
          rw [← hr]
          rw [hul, List.take_length] at hall
          simp only [nameB, Bool.and_eq_true, decide_eq_true_eq, List.all_eq_true]
          exact ⟨⟨by omega, by omega⟩, hall⟩
        subst this
        subst hul
        clear hall hr
        exact W0
      · have hui : u < s.length := by omega
        obtain ⟨c, hc⟩ : ∃ c, s[u] = c := ⟨_, rfl⟩
        have hcl := c.toNat_lt
        by_cases hg : nmc c = true
        · have hall2 : ∀ c ∈ s.take (u + 1), nmc c = true := by
            intro x hx
            rw [List.take_add_one, List.getElem?_eq_getElem hui, hc] at hx
            simp only [Option.toList, List.mem_append, List.mem_singleton] at hx
            rcases hx with hx | rfl
            · exact hall x hx
            · exact hg
          simp only [nmc, Bool.and_eq_true, decide_eq_true_eq] at hg
          have g1 : ¬ (c.toNat : Int) < 97 := by omega
          have g2 : ¬ (122 : Int) < (c.toNat : Int) := by omega
          clear hall hg hr
          refine Wk ?_
          exact ⟨WS, WG, WN, _, (show s.length - (u + 1) < m_1 by omega), u + 1, rfl, WF, WC, WC⟩
        · have hb : nmc c = false := by simpa using hg
          have : r = false := by rw [← hr]; exact nameB_bad hui (by rw [hc]; exact hb)
          subst this
          clear hall hr
          by_cases g1 : (c.toNat : Int) < 97
          · clear hg hb
            exact W0
          · have g2 : (122 : Int) < (c.toNat : Int) := by
              simp only [nmc, Bool.and_eq_false_iff, decide_eq_false_iff_not] at hb
              omega
            clear hg hb
            exact W0
theorem refname_gen (s : List UInt8) (r : Bool) (hr : nameB s = r) (hl : s.length ≤ 9223372036854775807) (k : Nat) :
    ACall Tryz.prog 86 [.lit (.string ⟨s.toArray⟩)] k [] (.lit (.bool r)) [] := by
  by_cases h1 : s.length < 1
  · have : r = false := by rw [← hr]; simp [nameB, show ¬ 1 ≤ s.length by omega]
    subst this
    clear hr
    have hi : (s.length : Int) < 1 := by omega
    refine Bd Tryz.func86 Tryz.ntmps86 fun σ N hp hpn hk hkn hfree => ?_
    exact W0
  · have hi : ¬ (s.length : Int) < 1 := by omega
    by_cases h2 : 16 < s.length
    · have : r = false := by rw [← hr]; simp [nameB, show ¬ s.length ≤ 16 by omega]
      subst this
      clear hr
      have hi2 : (16 : Int) < (s.length : Int) := by omega
      refine Bd Tryz.func86 Tryz.ntmps86 fun σ N hp hpn hk hkn hfree => ?_
      exact W0
    · have hi2 : ¬ (16 : Int) < (s.length : Int) := by omega
      refine Bd Tryz.func86 Tryz.ntmps86 fun σ N hp hpn hk hkn hfree => ?_
      refine Wk ?_
      refine go_loopF mixed (by kernel_rfl) [2, 3, 12, 13, 14, 15, 16, 17, 18, 19, 20, 21, 22, 23, 24, 25, 26, 27] [] (fun m_ s_ σ_ n_ => ∃ (u : Nat), m_ = s.length - u ∧ s_ 3 = .lit (.int .i64 u) ∧ (u ≤ s.length) ∧ (∀ c ∈ s.take u, nmc c = true)) ⟨_, 0, rfl, WF, WC, WC⟩ ?_
      intro m_2 s_2 σ_2 n_2 hs_2 hf_2 hn_2 hI_2
      obtain ⟨u, hm_2, h2_3, hu, hall⟩ := hI_2
      have h2_0 := KS hs_2 0
      have hlow := KL (N := N) (σ := σ) hf_2
      by_cases hul : u = s.length
      · have : r = true := by
          rw [← hr]
          rw [hul, List.take_length] at hall
          simp only [nameB, Bool.and_eq_true, decide_eq_true_eq, List.all_eq_true]
          exact ⟨⟨by omega, by omega⟩, hall⟩
        subst this
        subst hul
        clear hall hr
        exact W0
      · have hui : u < s.length := by omega
        obtain ⟨c, hc⟩ : ∃ c, s[u] = c := ⟨_, rfl⟩
        have hcl := c.toNat_lt
        by_cases hg : nmc c = true
        · have hall2 : ∀ c ∈ s.take (u + 1), nmc c = true := by
            intro x hx
            rw [List.take_add_one, List.getElem?_eq_getElem hui, hc] at hx
            simp only [Option.toList, List.mem_append, List.mem_singleton] at hx
            rcases hx with hx | rfl
            · exact hall x hx
            · exact hg
          simp only [nmc, Bool.and_eq_true, decide_eq_true_eq] at hg
          have g1 : ¬ (c.toNat : Int) < 97 := by omega
          have g2 : ¬ (122 : Int) < (c.toNat : Int) := by omega
          clear hall hg hr
          refine Wk ?_
          exact ⟨WS, WG, WN, _, (show s.length - (u + 1) < m_2 by omega), u + 1, rfl, WF, WC, WC⟩
        · have hb : nmc c = false := by simpa using hg
          have : r = false := by rw [← hr]; exact nameB_bad hui (by rw [hc]; exact hb)
          subst this
          clear hall hr
          by_cases g1 : (c.toNat : Int) < 97
          · clear hg hb
            exact W0
          · have g2 : (122 : Int) < (c.toNat : Int) := by
              simp only [nmc, Bool.and_eq_false_iff, decide_eq_false_iff_not] at hb
              omega
            clear hg hb
            exact W0

theorem name_spec (s : List UInt8) (hl : s.length ≤ 9223372036854775807) (k : Nat) :
    ACall Tryz.prog 148 [.lit (.string ⟨s.toArray⟩)] k [] (.lit (.bool (nameB s))) [] := name_gen s _ rfl hl k
theorem Name_spec (s : List UInt8) (hl : s.length ≤ 9223372036854775807) (k : Nat) :
    ACall Tryz.prog 86 [.lit (.string ⟨s.toArray⟩)] k [] (.lit (.bool (nameB s))) [] := refname_gen s _ rfl hl k

def maskB (m : Int) (n : Nat) : Bool := decide (m ≠ 0) && decide (m < 2 ^ n)
theorem mask_spec (m : Int) (h0 : 0 ≤ m) (h1 : m < 18446744073709551616) (n : Nat) (hn : n = 64 ∨ n = 32 ∨ n = 7) (k : Nat) :
    ACall Tryz.prog 147 [.lit (.int .u64 m), .lit (.int .i64 n)] k [] (.lit (.bool (maskB m n))) [] := by
  by_cases hm : m = 0
  · subst hm
    simp only [maskB, ne_eq, not_true_eq_false, decide_false, Bool.false_and]
    refine Bd Tryz.func147 Tryz.ntmps147 fun σ N hp hpn hk hkn hfree => ?_
    exact W0
  · have hmb : (m == 0) = false := by simp [hm]
    have hmc : (m != 0) = true := by simp [hm]
    have e0 : decide (m ≠ 0) = true := by simp [hm]
    unfold maskB
    rw [e0, Bool.true_and]
    clear e0
    rcases hn with rfl | rfl | rfl
    · have e1 : decide (m < 2 ^ 64) = true := by simp; omega
      rw [e1]
      clear e1
      refine Bd Tryz.func147 Tryz.ntmps147 fun σ N hp hpn hk hkn hfree => ?_
      exact W0
    · have e1 : (m.fdiv 4294967296 == 0) = decide (m < 2 ^ 32) := by
        rw [Int.fdiv_eq_ediv_of_nonneg _ (by omega), Bool.eq_iff_iff, beq_iff_eq, decide_eq_true_eq]; omega
      generalize decide (m < 2 ^ 32) = r at *
      cases r with
      | true =>
        refine Bd Tryz.func147 Tryz.ntmps147 fun σ N hp hpn hk hkn hfree => ?_
        exact W0
      | false =>
        refine Bd Tryz.func147 Tryz.ntmps147 fun σ N hp hpn hk hkn hfree => ?_
        exact W0
    · have e1 : (m.fdiv 128 == 0) = decide (m < 2 ^ 7) := by
        rw [Int.fdiv_eq_ediv_of_nonneg _ (by omega), Bool.eq_iff_iff, beq_iff_eq, decide_eq_true_eq]; omega
      generalize decide (m < 2 ^ 7) = r at *
      cases r with
      | true =>
        refine Bd Tryz.func147 Tryz.ntmps147 fun σ N hp hpn hk hkn hfree => ?_
        exact W0
      | false =>
        refine Bd Tryz.func147 Tryz.ntmps147 fun σ N hp hpn hk hkn hfree => ?_
        exact W0
end Go.Proofs.YtemmlldpmgfblaaGreatDoor

/- Algebras: Derive, Key, Mac of the reference. -/
namespace Go.Proofs.YtemmlldpmgfblaaGreatDoor
open Go.Ab
attribute [local irreducible] Go.Ab.tyAV Go.Ab.aw Go.Ab.aops Go.Ab.kReg Go.Ab.aThen Go.Ab.aBlk Go.Ab.acond Go.Ab.aguard Go.Ab.astep Go.Ab.AStepX Go.Ab.aRet
attribute [local irreducible] shaG

section
variable [W : W32]
def derT (seed : Tg) (n : Int) : Tg := hmacT seed.1 ([102, 114, 101, 115, 104, 0] ++ eightB n)
def keyS (a : Alg) : Alg × Tg × Nat :=
  if 65536 ≤ a.fresh then (alg0, zeroTag, 2) else ({ a with fresh := a.fresh + 1 }, if a.free then symT 107 (a.fresh + 1) else derT a.seed (a.fresh + 1), 0)
def macS (a : Alg) (key : Tg) (msg : List UInt8) : Alg × Tg × Nat :=
  if 4096 < msg.length then (alg0, zeroTag, 2) else match entL key msg a.macs with
    | some t => (a, t, 0)
    | none => if 65536 ≤ a.macs.length then (alg0, zeroTag, 2) else
      let t := if a.free then symT 109 (a.macs.length + 1) else hmacT key.1 msg
      ({ a with macs := a.macs ++ [⟨key, msg, t⟩] }, t, 0)
def mkAV (r : Alg × Tg × Nat) : AV := .tup [algAV r.1, tagAV r.2.1, .lit (.int .i64 (r.2.2 : Nat))]
theorem Derive_spec (seed : Tg) (n : Nat) (hn : n ≤ 1000000000) (k : Nat) :
    ACall Tryz.prog 141 [tagAV seed, strAV [102, 114, 101, 115, 104], .lit (.int .i64 n)] k [] (.tup [tagAV (derT seed n), .lit (.int .i64 0)]) [] := by
  have c1 := refname_gen [102, 114, 101, 115, 104] true (by decide) (by simp)
  have c2 := Eight_spec (n : Int) (by omega) (by omega)
  have hel := eightB_len (n : Int)
  unfold derT
  have c3 := Hmac_spec seed.1 ([102, 114, 101, 115, 104, 0] ++ eightB n) (by rw [seed.2]; decide) (by simp [hel])
  generalize hmacT seed.1 ([102, 114, 101, 115, 104, 0] ++ eightB n) = T at *
  generalize eightB (n : Int) = E at *
  have hs1 := tagAV_sz seed
  have hs2 := tagAV_cell seed
  obtain ⟨S, hS⟩ := seed
  simp only at c3
  simp only [tagAV] at hs1 hs2 ⊢
  have htk : (S.map byteAV).take 32 = S.map byteAV := List.take_of_length_le (by rw [List.length_map]; omega)
  unfold strAV
  refine Bd Tryz.func141 Tryz.ntmps141 fun σ N hp hpn hk hkn hfree => ?_
  have hcs := And.intro c1 (And.intro c2 (And.intro c3 True.intro))
  clear c1 c2 c3
  exact W0
theorem Key_spec (a : Alg) (h0 : 0 ≤ a.fresh) (k : Nat) :
    ACall Tryz.prog 68 [algAV a] k [] (mkAV (keyS a)) [] := by
  obtain ⟨fr, sd, fs, L, B⟩ := a
  simp only at h0
  obtain ⟨n, rfl⟩ := Int.eq_ofNat_of_zero_le h0
  unfold keyS mkAV
  simp only [algAV] at *
  by_cases h1 : (65536 : Int) ≤ (n : Int)
  · rw [if_pos h1]
    simp only [alg0, algAV, List.map_nil]
    refine Bd Tryz.func68 Tryz.ntmps68 fun σ N hp hpn hk hkn hfree => ?_
    exact WT
  · rw [if_neg h1]
    have hn1 : (n : Int) + 1 = ((n + 1 : Nat) : Int) := by omega
    cases fr with
    | true =>
      have c1 := Symbol_spec 107 (n + 1) (by omega)
      rw [hn1]
      simp only [if_true]
      generalize symT 107 ((n + 1 : Nat) : Int) = T at *
      have e107 : ((107 : UInt8).toNat : Int) = 107 := rfl
      rw [e107] at c1
      clear hn1
      refine Bd Tryz.func68 Tryz.ntmps68 fun σ N hp hpn hk hkn hfree => ?_
      have hcs := And.intro c1 True.intro
      clear c1 e107
      exact W0
    | false =>
      have c1 := Derive_spec sd (n + 1) (by omega)
      rw [hn1]
      simp only [Bool.false_eq_true, if_false]
      generalize derT sd ((n + 1 : Nat) : Int) = T at *
      unfold strAV at c1
      clear hn1
      refine Bd Tryz.func68 Tryz.ntmps68 fun σ N hp hpn hk hkn hfree => ?_
      have hcs := And.intro c1 True.intro
      clear c1
      exact W0
end
end Go.Proofs.YtemmlldpmgfblaaGreatDoor

/- Algebras: Mac of the reference. -/
namespace Go.Proofs.YtemmlldpmgfblaaGreatDoor
open Go.Ab
attribute [local irreducible] Go.Ab.tyAV Go.Ab.aw Go.Ab.aops Go.Ab.kReg Go.Ab.aThen Go.Ab.aBlk Go.Ab.acond Go.Ab.aguard Go.Ab.astep Go.Ab.AStepX Go.Ab.aRet
attribute [local irreducible] shaG

theorem alg0_eq : algAV alg0 = .agg [.lit (.bool false), tagAV zeroTag, .lit (.int .i64 0), .slice none [], .slice none []] := rfl
theorem snocM {K msg : List UInt8} {t : Tg} (L : List MacE) (hK : K.length = 32) (a b : Option Nat) : AV.le (.slice a (L.map macAV ++ [.agg [.agg (K.map byteAV), .slice b (msg.map byteAV), tagAV t]])) (.slice none ((L ++ [(⟨⟨K, hK⟩, msg, t⟩ : MacE)]).map macAV)) := fun g v h => by
  rw [List.map_append]
  exact AV.le_own _ _ g v (AV.le_sliceS a (ALe.snoc (AV.sub_agg (.cons (AV.le_refl _) (.cons (AV.le_own b _) (.cons (AV.le_refl _) .nil))))) g v h)
section
variable [W : W32]
theorem macS_long {a : Alg} {key : Tg} {msg : List UInt8} (h : 4096 < msg.length) : macS a key msg = (alg0, zeroTag, 2) := by unfold macS; rw [if_pos h]
theorem macS_found {a : Alg} {key : Tg} {msg : List UInt8} {t : Tg} (h : ¬ 4096 < msg.length) (he : entL key msg a.macs = some t) : macS a key msg = (a, t, 0) := by unfold macS; rw [if_neg h, he]
theorem macS_full {a : Alg} {key : Tg} {msg : List UInt8} (h : ¬ 4096 < msg.length) (he : entL key msg a.macs = none) (hf : 65536 ≤ a.macs.length) : macS a key msg = (alg0, zeroTag, 2) := by unfold macS; rw [if_neg h, he]; simp only; rw [if_pos hf]
theorem macS_new {a : Alg} {key : Tg} {msg : List UInt8} (h : ¬ 4096 < msg.length) (he : entL key msg a.macs = none) (hf : ¬ 65536 ≤ a.macs.length) : macS a key msg = ({ a with macs := a.macs ++ [⟨key, msg, if a.free then symT 109 (a.macs.length + 1) else hmacT key.1 msg⟩] }, if a.free then symT 109 (a.macs.length + 1) else hmacT key.1 msg, 0) := by unfold macS; rw [if_neg h, he]; simp only; rw [if_neg hf]

set_option maxHeartbeats 2000000 in
theorem Mac_spec (a : Alg) (key : Tg) (msg : List UInt8) (hl : a.macs.length ≤ 1000000) (hm : ∀ e ∈ a.macs, e.msg.length ≤ 100000) (k : Nat) :
    ACall Tryz.prog 69 [algAV a, tagAV key, .slice none (msg.map byteAV)] k [] (mkAV (macS a key msg)) [] := by
  have c1 := entry_spec a key msg hl hm
  by_cases h1 : 4096 < msg.length
  · rw [macS_long h1]
    have h1i : (4096 : Int) < (msg.length : Int) := by omega
    unfold mkAV
    simp only [alg0_eq]
    clear c1
    refine Bd Tryz.func69 Tryz.ntmps69 fun σ N hp hpn hk hkn hfree => ?_
    exact WT
  · have h1i : ¬ (4096 : Int) < (msg.length : Int) := by omega
    cases he : entL key msg a.macs with
    | some t =>
      rw [macS_found h1 he]
      rw [he] at c1
      unfold entAV at c1
      simp only [Option.getD_some, Option.isSome_some] at c1
      unfold mkAV
      simp only
      refine Bd Tryz.func69 Tryz.ntmps69 fun σ N hp hpn hk hkn hfree => ?_
      have hcs := And.intro c1 True.intro
      clear c1 he hm
      exact W0
    | none =>
      rw [he] at c1
      unfold entAV at c1
      simp only [Option.getD_none, Option.isSome_none] at c1
      by_cases hf : 65536 ≤ a.macs.length
      · rw [macS_full h1 he hf]
        obtain ⟨fr, sd, fs, L, B⟩ := a
        simp only at hf hl hm
        unfold mkAV
        simp only [alg0_eq]
        simp only [algAV] at c1 ⊢
        have hfi : (65536 : Int) ≤ (L.length : Int) := by omega
        refine Bd Tryz.func69 Tryz.ntmps69 fun σ N hp hpn hk hkn hfree => ?_
        have hcs := And.intro c1 True.intro
        clear c1 he hm
        exact WT
      · rw [macS_new h1 he hf]
        obtain ⟨fr, sd, fs, L, B⟩ := a
        simp only at hf hl hm
        have hfi : ¬ (65536 : Int) ≤ (L.length : Int) := by omega
        have c2 := Hmac_spec key.1 msg (by rw [key.2]; decide) (by omega)
        have hb : (L.length + 1) * 88 ≤ 140737488355328 := by omega
        have hb0 : L.length * 88 ≤ 140737488355328 := by omega
        have hb1 : L.length ≤ 140737488355327 := by omega
        unfold mkAV
        cases fr with
        | false =>
          simp only [Bool.false_eq_true, if_false]
          generalize hmacT key.1 msg = t at *
          have hs1 := tagAV_sz key
          have hs2 := tagAV_cell key
          have hmA : macAV ⟨key, msg, t⟩ = .agg [tagAV key, bAV msg, tagAV t] := rfl
          have hmb := bAV_def msg
          obtain ⟨K, hK⟩ := key
          have hkA : tagAV ⟨K, hK⟩ = .agg (K.map byteAV) := rfl
          simp only [hkA] at hs1 hs2 c1 c2 hmA ⊢
          clear hkA
          have hs3 : AV.celll (K.map byteAV) = true := celll_bytes K
          have htk : (K.map byteAV).take 32 = K.map byteAV := List.take_of_length_le (by rw [List.length_map]; omega)
          simp only [algAV] at c1 ⊢
          refine Bd Tryz.func69 Tryz.ntmps69 fun σ N hp hpn hk hkn hfree => ?_
          have hcs := And.intro c1 (And.intro c2 True.intro)
          clear c1 c2 he hm hmA hmb
          refine Wm ?_
          iterate 8 refine Wz ?_
          refine go_lessIn N [3] (.slice none ((L ++ [(⟨⟨K, hK⟩, msg, t⟩ : MacE)]).map macAV)) (bt := 36) (c := .agg [.lit (.bool false), tagAV sd, .lit (.int .i64 fs), .slice (some (N + 30)) (L.map macAV ++ [.agg [.agg (K.map byteAV), .slice (some (N + 30 + 5)) (msg.map byteAV), tagAV t]]), .slice none (B.map sealAV)]) (by simp (disch := omega) [go_sem, *, -List.reduceReplicate]) rfl (snocM L hK _ _) rfl rfl ?_
          exact W0
        | true =>
          simp only [if_true]
          have c3 := Symbol_spec 109 (L.length + 1) (by omega)
          have e109 : ((109 : UInt8).toNat : Int) = 109 := rfl
          have hn1 : ((L.length + 1 : Nat) : Int) = (L.length : Int) + 1 := by omega
          rw [e109, hn1] at c3
          clear e109 hn1
          generalize hmacT key.1 msg = t0 at *
          generalize symT 109 ((L.length : Int) + 1) = t at *
          have hs1 := tagAV_sz key
          have hs2 := tagAV_cell key
          have hmA : macAV ⟨key, msg, t⟩ = .agg [tagAV key, bAV msg, tagAV t] := rfl
          have hmb := bAV_def msg
          obtain ⟨K, hK⟩ := key
          have hkA : tagAV ⟨K, hK⟩ = .agg (K.map byteAV) := rfl
          simp only [hkA] at hs1 hs2 c1 c2 hmA ⊢
          clear hkA
          have hs3 : AV.celll (K.map byteAV) = true := celll_bytes K
          have htk : (K.map byteAV).take 32 = K.map byteAV := List.take_of_length_le (by rw [List.length_map]; omega)
          simp only [algAV] at c1 ⊢
          refine Bd Tryz.func69 Tryz.ntmps69 fun σ N hp hpn hk hkn hfree => ?_
          have hcs := And.intro c1 (And.intro c2 (And.intro c3 True.intro))
          clear c1 c2 c3 he hm hmA hmb
          refine Wm ?_
          iterate 9 refine Wz ?_
          refine go_lessIn N [3] (.slice none ((L ++ [(⟨⟨K, hK⟩, msg, t⟩ : MacE)]).map macAV)) (bt := 36) (c := .agg [.lit (.bool true), tagAV sd, .lit (.int .i64 fs), .slice (some (N + 36)) (L.map macAV ++ [.agg [.agg (K.map byteAV), .slice (some (N + 36 + 5)) (msg.map byteAV), tagAV t]]), .slice none (B.map sealAV)]) (by simp (disch := omega) [go_sem, *, -List.reduceReplicate]) rfl (snocM L hK _ _) rfl rfl ?_
          exact W0
end
end Go.Proofs.YtemmlldpmgfblaaGreatDoor

/- Shared: the eight bytes of a number, as a row of one's own. -/
namespace Go.Proofs.YtemmlldpmgfblaaGreatDoor
open Go.Ab
attribute [local irreducible] Go.Ab.tyAV Go.Ab.aw Go.Ab.aops Go.Ab.kReg Go.Ab.aThen Go.Ab.aBlk Go.Ab.acond Go.Ab.aguard Go.Ab.astep Go.Ab.AStepX Go.Ab.aRet

theorem Eight_row (m : Int) (m0 : 0 ≤ m) (m1 : m < 18446744073709551616) (k : Nat) :
    ACall Tryz.prog 144 [.lit (.int .u64 m)] k [] (.slice (some k) ((eightB m).map byteAV)) [(k, .row 5 1 8)] := by
  have e7 := sh8_wrap m 56
  have e6 := sh8_wrap m 48
  have e5 := sh8_wrap m 40
  have e4 := sh8_wrap m 32
  have e3 := sh8_wrap m 24
  have e2 := sh8_wrap m 16
  have e1 := sh8_wrap m 8
  have e0 := sh8_wrap m 0
  simp only [Int.reducePow, Int.pow_zero, Int.fdiv_one] at e7 e6 e5 e4 e3 e2 e1 e0
  unfold eightB
  generalize sh8 m 56 = b7 at *
  generalize sh8 m 48 = b6 at *
  generalize sh8 m 40 = b5 at *
  generalize sh8 m 32 = b4 at *
  generalize sh8 m 24 = b3 at *
  generalize sh8 m 16 = b2 at *
  generalize sh8 m 8 = b1 at *
  generalize sh8 m 0 = b0 at *
  refine Bd Tryz.func144 Tryz.ntmps144 fun σ N hp hpn hk hkn hfree => ?_
  refine Wk ?_
  refine ALoop.nilrow 3 5 1 (by simp (disch := omega) [go_sem, *, -List.reduceReplicate]) ?_
  refine go_loopB (N) mixed (by kernel_rfl) [3, 4, 5, 6, 7, 8, 9, 10, 11, 12, 13, 14, 15, 16] [] (fun m_ s_ σ_ n_ => ∃ (u : Nat) (q : Nat) (acc : List UInt8), m_ = 8 - u ∧ s_ 4 = .lit (.int .i64 (56 - 8 * (u : Int))) ∧ s_ 3 = .slice (some q) (acc.map byteAV) ∧ σ_ (q) = .row 5 1 acc.length ∧ (u ≤ 8) ∧ (N ≤ q) ∧ (q < n_) ∧ (acc = [b7, b6, b5, b4, b3, b2, b1, b0].take u)) ⟨_, 0, _, [], rfl, WF, WF, WF, WC, WC, WC, WC⟩ ?_
  intro m_1 s_1 σ_1 n_1 hs_1 hf_1 hn_1 hI_1
  obtain ⟨u, q, acc, hm_1, h1_4, h1_3, e1_0, hu, hq, hqn, hacc⟩ := hI_1
  have h1_0 := KS hs_1 0
  have h1_2 := KS hs_1 2
  have hlow := KL (N := N) (σ := σ) hf_1
  have hb7 : byteAV b7 = .lit (.int .u8 b7.toNat) := rfl
  have hb6 : byteAV b6 = .lit (.int .u8 b6.toNat) := rfl
  have hb5 : byteAV b5 = .lit (.int .u8 b5.toNat) := rfl
  have hb4 : byteAV b4 = .lit (.int .u8 b4.toNat) := rfl
  have hb3 : byteAV b3 = .lit (.int .u8 b3.toNat) := rfl
  have hb2 : byteAV b2 = .lit (.int .u8 b2.toNat) := rfl
  have hb1 : byteAV b1 = .lit (.int .u8 b1.toNat) := rfl
  have hb0 : byteAV b0 = .lit (.int .u8 b0.toNat) := rfl
  have hcase : u = 0 ∨ u = 1 ∨ u = 2 ∨ u = 3 ∨ u = 4 ∨ u = 5 ∨ u = 6 ∨ u = 7 ∨ u = 8 := by omega
  rcases hcase with rfl | hcase
  · simp only [List.take_succ_cons, List.take_zero] at hacc
    subst hacc
    refine Wk ?_
    exact ⟨WS, WG, WN, _, (show 8 - (1) < m_1 by omega), 1, q, [b7], rfl, WF, WF, WF, WC, WC, WC, WC⟩
  rcases hcase with rfl | hcase
  · simp only [List.take_succ_cons, List.take_zero] at hacc
    subst hacc
    refine Wk ?_
    exact ⟨WS, WG, WN, _, (show 8 - (2) < m_1 by omega), 2, q, [b7, b6], rfl, WF, WF, WF, WC, WC, WC, WC⟩
  rcases hcase with rfl | hcase
  · simp only [List.take_succ_cons, List.take_zero] at hacc
    subst hacc
    refine Wk ?_
    exact ⟨WS, WG, WN, _, (show 8 - (3) < m_1 by omega), 3, q, [b7, b6, b5], rfl, WF, WF, WF, WC, WC, WC, WC⟩
  rcases hcase with rfl | hcase
  · simp only [List.take_succ_cons, List.take_zero] at hacc
    subst hacc
    refine Wk ?_
    exact ⟨WS, WG, WN, _, (show 8 - (4) < m_1 by omega), 4, q, [b7, b6, b5, b4], rfl, WF, WF, WF, WC, WC, WC, WC⟩
  rcases hcase with rfl | hcase
  · simp only [List.take_succ_cons, List.take_zero] at hacc
    subst hacc
    refine Wk ?_
    exact ⟨WS, WG, WN, _, (show 8 - (5) < m_1 by omega), 5, q, [b7, b6, b5, b4, b3], rfl, WF, WF, WF, WC, WC, WC, WC⟩
  rcases hcase with rfl | hcase
  · simp only [List.take_succ_cons, List.take_zero] at hacc
    subst hacc
    refine Wk ?_
    exact ⟨WS, WG, WN, _, (show 8 - (6) < m_1 by omega), 6, q, [b7, b6, b5, b4, b3, b2], rfl, WF, WF, WF, WC, WC, WC, WC⟩
  rcases hcase with rfl | hcase
  · simp only [List.take_succ_cons, List.take_zero] at hacc
    subst hacc
    refine Wk ?_
    exact ⟨WS, WG, WN, _, (show 8 - (7) < m_1 by omega), 7, q, [b7, b6, b5, b4, b3, b2, b1], rfl, WF, WF, WF, WC, WC, WC, WC⟩
  rcases hcase with rfl | hcase
  · simp only [List.take_succ_cons, List.take_zero] at hacc
    subst hacc
    refine Wk ?_
    exact ⟨WS, WG, WN, _, (show 8 - (8) < m_1 by omega), 8, q, [b7, b6, b5, b4, b3, b2, b1, b0], rfl, WF, WF, WF, WC, WC, WC, WC⟩
  subst hcase
  simp only [List.take_succ_cons, List.take_zero] at hacc
  subst hacc
  clear hb7 hb6 hb5 hb4 hb3 hb2 hb1 hb0
  refine Wk ?_
  refine go_result1 (r0 := q) (by simp (disch := omega) [go_sem, *, -List.reduceReplicate]; rfl) (by omega) (by simp (disch := omega) [go_sem]; try rfl) (fun id hid => by simp (disch := omega) only [upd_ne, wr_cons, wr_nil]; try exact hlow id hid) (by simp (disch := omega) [go_sem, *, -List.reduceReplicate]; rfl) (by simp (disch := omega) [go_sem])
end Go.Proofs.YtemmlldpmgfblaaGreatDoor
