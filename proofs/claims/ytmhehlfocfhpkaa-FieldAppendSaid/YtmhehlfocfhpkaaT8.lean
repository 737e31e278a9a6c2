/- The plain law of the numbers of layer 3: what is written is read, what is read is written. The laws VarintBack and VarintUnique. -/
import Derived.Test.YtmhehlfocfhpkaaT7
namespace Go.Proofs.Ytmhehlfocfhpkaa
open Go.Ab
attribute [local irreducible] Go.Ab.aw Go.Ab.aops Go.Ab.kReg Go.Ab.aThen Go.Ab.aBlk Go.Ab.acond Go.Ab.aguard Go.Ab.obind Go.Ab.astep Go.Ab.AStepX Go.Ab.ALoop Go.Ab.aRet

theorem leb_len1 (n : Nat) : ∀ k, n < 128 ^ (k + 1) → (leb n).length ≤ k + 1 := by
  induction n using Nat.strongRecOn with
  | _ n ih =>
    intro k hk
    by_cases h : n < 128
    · rw [leb_small h]; simp
    · rw [leb_big h]
      cases k with
      | zero => simp at hk; omega
      | succ k =>
        have := ih (n / 128) (by omega) k (by rw [Nat.pow_succ] at hk; omega)
        simp; omega
theorem u8_toNat {n : Nat} (h : n < 256) : (u8 n).toNat = n := by
  unfold u8; rw [UInt8.toNat_ofNat', Nat.mod_eq_of_lt h]
theorem vl_cons (x : UInt8) (r : List UInt8) : ∀ j, vl (x :: r) (j + 1) = x.toNat % 128 + 128 * vl r j
  | 0 => by simp [vl]
  | j + 1 => by
    rw [vl, vl_cons x r j, vl]
    simp only [List.getD_cons_succ, Nat.pow_succ]
    rw [Nat.mul_add, Nat.add_assoc]
    congr 2
    rw [← Nat.mul_assoc, Nat.mul_comm _ 128]
theorem leadF_leb (n : Nat) : ∀ (f : Nat) (t : List UInt8), (leb n).length ≤ f → leadF f (leb n ++ t) = (leb n).length - 1 := by
  induction n using Nat.strongRecOn with
  | _ n ih =>
    intro f t hf
    by_cases h : n < 128
    · rw [leb_small h] at hf ⊢
      cases f with
      | zero => simp at hf
      | succ f => simp [leadF, u8_toNat (show n < 256 by omega)]; omega
    · rw [leb_big h] at hf ⊢
      cases f with
      | zero => simp at hf
      | succ f =>
        have hp := leb_pos (n / 128)
        simp only [List.cons_append, leadF, u8_toNat (show n % 128 + 128 < 256 by omega)]
        rw [if_pos (by omega), ih (n / 128) (by omega) f t (by simp at hf; omega)]
        simp; omega
theorem vl_leb (n : Nat) : ∀ t : List UInt8, vl (leb n ++ t) (leb n).length = n := by
  induction n using Nat.strongRecOn with
  | _ n ih =>
    intro t
    by_cases h : n < 128
    · rw [leb_small h]
      simp only [List.cons_append, List.nil_append, List.length_cons, List.length_nil, vl_cons, u8_toNat (show n < 256 by omega), vl]
      omega
    · rw [leb_big h]
      simp only [List.cons_append, List.length_cons, vl_cons, u8_toNat (show n % 128 + 128 < 256 by omega)]
      rw [ih (n / 128) (by omega) t]
      omega
theorem last_leb (n : Nat) : ∀ t : List UInt8, 0 < (leb n).length - 1 → ((leb n ++ t).getD ((leb n).length - 1) 0).toNat ≠ 0 := by
  induction n using Nat.strongRecOn with
  | _ n ih =>
    intro t hl
    by_cases h : n < 128
    · rw [leb_small h] at hl; simp at hl
    · rw [leb_big h]
      have hp := leb_pos (n / 128)
      have e : (u8 (n % 128 + 128) :: leb (n / 128)).length - 1 = ((leb (n / 128)).length - 1) + 1 := by simp; omega
      rw [e, List.cons_append, List.getD_cons_succ]
      by_cases h2 : n / 128 < 128
      · rw [leb_small h2]
        simp [u8_toNat (show n / 128 < 256 by omega)]
        omega
      · refine ih (n / 128) (by omega) t ?_
        rw [leb_big h2]
        have := leb_pos (n / 128 / 128)
        simp; omega

theorem rdS_leb (n : Nat) (hn : n ≤ 281474976710656) (t : List UInt8) : rdS (leb n ++ t) = (n, (leb n).length, 0) := by
  have hl := leb_len1 n 6 (by omega)
  have hp := leb_pos n
  have h1 : lead (leb n ++ t) = (leb n).length - 1 := leadF_leb n 7 t (by omega)
  have h2 : vl (leb n ++ t) ((leb n).length - 1 + 1) = n := by rw [Nat.sub_add_cancel hp]; exact vl_leb n t
  unfold rdS
  rw [h1, h2, if_neg (by omega), if_neg (by rw [List.length_append]; omega), if_neg (fun h => last_leb n t h.1 h.2), if_neg (by omega), Nat.sub_add_cancel hp]

theorem leb_vl : ∀ (l : Nat) (b : List UInt8), l < b.length → (∀ i, i < l → ∃ x, b[i]? = some x ∧ 128 ≤ x.toNat) → (b.getD l 0).toNat < 128 → (l = 0 ∨ (b.getD l 0).toNat ≠ 0) → leb (vl b (l + 1)) = b.take (l + 1)
  | 0, [], h, _, _, _ => by simp at h
  | 0, x :: r, _, _, h, _ => by
    simp only [List.getD_cons_zero] at h
    have : vl (x :: r) (0 + 1) = x.toNat := by rw [vl_cons]; simp [vl]; omega
    rw [this, leb_small h]
    simp [u8]
  | l + 1, [], h, _, _, _ => by simp at h
  | l + 1, x :: r, hl, hb, h, hz => by
    simp only [List.getD_cons_succ] at h hz
    have hz' : (r.getD l 0).toNat ≠ 0 := hz.resolve_left (by omega)
    obtain ⟨y, hy, hy1⟩ := hb 0 (by omega)
    simp at hy; subst hy
    have ih := leb_vl l r (by simpa using hl) (fun i hi => by simpa using hb (i + 1) (by omega)) h (.inr hz')
    have hpos : 1 ≤ vl r (l + 1) := by
      have : 1 ≤ (r.getD l 0).toNat % 128 * 128 ^ l := Nat.mul_pos (by omega) (Nat.pow_pos (by omega))
      simp only [vl]; omega
    have hx := x.toNat_lt
    rw [vl_cons, leb_big (by omega), show (x.toNat % 128 + 128 * vl r (l + 1)) % 128 + 128 = x.toNat by omega, show (x.toNat % 128 + 128 * vl r (l + 1)) / 128 = vl r (l + 1) by omega, ih]
    simp [u8]

theorem rdS_ok (b : List UInt8) {n u : Nat} (h : rdS b = (n, u, 0)) : n ≤ 281474976710656 ∧ u ≤ b.length ∧ leb n = b.take u := by
  have hle := leadF_le 7 b
  unfold rdS at h
  split at h
  · simp at h
  · rename_i h7
    split at h
    · simp at h
    · rename_i hlen
      split at h
      · simp at h
      · rename_i hz
        split at h
        · simp at h
        · rename_i hm
          simp only [Prod.mk.injEq, and_true] at h
          obtain ⟨rfl, rfl⟩ := h
          unfold lead at *
          obtain ⟨x, hx1, hx2⟩ := leadF_at 7 b (by omega) (by omega)
          have hg : b.getD (leadF 7 b) 0 = x := by simp [List.getD, hx1]
          refine ⟨by omega, by omega, leb_vl _ b (by omega) (fun i hi => leadF_lt 7 b i hi) (by rw [hg]; exact hx2) ?_⟩
          by_cases h0 : leadF 7 b = 0
          · exact .inl h0
          · exact .inr fun e => hz ⟨by omega, e⟩
theorem rdS_bad (b : List UInt8) : (rdS b).2.2 = 0 ∨ ∃ e, rdS b = (0, 0, e) ∧ e ≠ 0 := by
  unfold rdS
  split
  · exact .inr ⟨5, rfl, by omega⟩
  · split
    · exact .inr ⟨3, rfl, by omega⟩
    · split
      · exact .inr ⟨5, rfl, by omega⟩
      · split
        · exact .inr ⟨1, rfl, by omega⟩
        · exact .inl rfl

/-- A slice, cut where it is longer than c. -/
theorem cutAt (c : Nat) (b : List UInt8) : ∃ (m : Nat) (t : List UInt8), (if (c : Int) < (b.length : Int) then (c : Int) else (b.length : Int)) = (m : Int) ∧ m ≤ b.length ∧ m ≤ c ∧ t.length = m ∧ (b.map byteAV).take m = t.map byteAV := by
  refine ⟨min c b.length, b.take c, ?_, Nat.min_le_right .., Nat.min_le_left .., by simp, ?_⟩
  · split <;> omega
  · rw [← List.map_take]
    congr 1
    by_cases h : c ≤ b.length
    · rw [Nat.min_eq_left h]
    · rw [Nat.min_eq_right (by omega), List.take_length, List.take_of_length_le (by omega)]

theorem back_core (n : Nat) (hn : n ≤ 281474976710656) (a : Int) (ha : a % 281474976710657 = n) (b : List UInt8) (k : Nat) :
    ACall Try.prog 6 [.lit (.int .i64 a), .slice none (b.map byteAV)] k [] (.lit (.bool true)) [] := by
  have c1 := Within_spec a 281474976710657 (by omega) (by omega)
  rw [ha] at c1
  obtain ⟨m, t, hmin, hm1, hm2, htl, htk⟩ := cutAt 20 b
  have hmin : (if (20 : Int) < (b.length : Int) then (20 : Int) else (b.length : Int)) = (m : Int) := hmin
  have hl7 := leb_len1 n 6 (by omega)
  have c2 := Read_spec (leb n ++ t) (by simp; omega)
  rw [rdS_leb n hn t] at c2
  have hq : ((leb n).length : Int) ≤ 7 := by omega
  simp only [rdAV] at c2
  refine ACall.of_body mixed Try.func6 rfl (by kernel_rfl) Try.ntmps6 (by kernel_rfl) rfl (by simp) (by simp) (by simp) fun σ N hp hpn hk hkn hfree => ?_
  repeat (first | (refine go_nil ?_) | (refine go_kreg ?_) | (refine go_kreg0 ?_) | (refine go_kreg1 ?_) | (apply go_kregT; · (simp [addT, CF, CFy, Ind, DisjF]; done)) | (refine go_then ?_) | (refine go_then_exit ?_) | (refine go_then_ret ?_) | (refine go_blk ?_) | (refine go_blk_ret ?_) | (refine go_blk_here ?_) | (apply go_blk_there; · rfl) | (refine go_seq ?_) | (apply go_region; · (simp only [List.length_cons, List.length_nil, Nat.reduceAdd, Nat.add_assoc]; rfl)) | (refine go_skip ?_) | (refine go_block ?_) | (refine go_scope ?_) | (refine go_label ?_) | (refine go_exit ?_) | (refine go_ret ?_) | (apply go_guard_in; (· rfl); · (simp (disch := omega) [go_sem, *]; try first | rfl | omega)) | (apply go_guard_off; (· rfl); · (simp (disch := omega) [go_sem, *]; try first | rfl | omega)) | (apply go_guard_no; (· rfl); · (simp (disch := omega) [go_sem, *]; try rfl)) | (apply go_move; · (simp (disch := omega) [go_sem, *]; try rfl)) | (apply go_assign; · (simp (disch := omega) [go_sem, *]; try rfl)) | (apply go_load; · (simp (disch := omega) [go_sem, *]; exact ⟨rfl, rfl⟩)) | (apply go_loadv; · (simp (disch := omega) [go_sem, *]; try rfl)) | (apply go_store; · (simp (disch := omega) [go_sem, *]; exact ⟨rfl, rfl⟩)) | (apply go_append; · (simp (disch := omega) [go_sem, *]; exact ⟨rfl, rfl, rfl⟩)) | (apply go_append0; · (simp (disch := omega) [go_sem, *]; exact ⟨rfl, rfl⟩)) | (apply go_new; (· rfl); · (simp (disch := omega) [go_sem, *]; first | exact ⟨rfl, rfl⟩ | (simp [go_sem, *]; exact ⟨rfl, rfl⟩))) | (apply go_pure; (· rfl); · (simp (disch := omega) [go_sem, *]; first | done | rfl | (simp [go_sem, *]; try rfl))))
  refine go_callw (c1 _) (by simp (disch := omega) [go_sem, *]; try rfl) (by simp (disch := omega) [go_sem, *]; repeat (first | exact ALe.nil | (refine ALe.cons (by first | exact AV.le_refl _ | exact AV.le_nils | exact AV.le_own _ _) ?_))) (by simp (disch := omega) [go_sem, *]) ?_
  repeat (first | (refine go_nil ?_) | (refine go_kreg ?_) | (refine go_kreg0 ?_) | (refine go_kreg1 ?_) | (apply go_kregT; · (simp [addT, CF, CFy, Ind, DisjF]; done)) | (refine go_then ?_) | (refine go_then_exit ?_) | (refine go_then_ret ?_) | (refine go_blk ?_) | (refine go_blk_ret ?_) | (refine go_blk_here ?_) | (apply go_blk_there; · rfl) | (refine go_seq ?_) | (apply go_region; · (simp only [List.length_cons, List.length_nil, Nat.reduceAdd, Nat.add_assoc]; rfl)) | (refine go_skip ?_) | (refine go_block ?_) | (refine go_scope ?_) | (refine go_label ?_) | (refine go_exit ?_) | (refine go_ret ?_) | (apply go_guard_in; (· rfl); · (simp (disch := omega) [go_sem, *]; try first | rfl | omega)) | (apply go_guard_off; (· rfl); · (simp (disch := omega) [go_sem, *]; try first | rfl | omega)) | (apply go_guard_no; (· rfl); · (simp (disch := omega) [go_sem, *]; try rfl)) | (apply go_move; · (simp (disch := omega) [go_sem, *]; try rfl)) | (apply go_assign; · (simp (disch := omega) [go_sem, *]; try rfl)) | (apply go_load; · (simp (disch := omega) [go_sem, *]; exact ⟨rfl, rfl⟩)) | (apply go_loadv; · (simp (disch := omega) [go_sem, *]; try rfl)) | (apply go_store; · (simp (disch := omega) [go_sem, *]; exact ⟨rfl, rfl⟩)) | (apply go_append; · (simp (disch := omega) [go_sem, *]; exact ⟨rfl, rfl, rfl⟩)) | (apply go_append0; · (simp (disch := omega) [go_sem, *]; exact ⟨rfl, rfl⟩)) | (apply go_new; (· rfl); · (simp (disch := omega) [go_sem, *]; first | exact ⟨rfl, rfl⟩ | (simp [go_sem, *]; exact ⟨rfl, rfl⟩))) | (apply go_pure; (· rfl); · (simp (disch := omega) [go_sem, *]; first | done | rfl | (simp [go_sem, *]; try rfl))))
  refine go_callw (Append_ok [] (by simp) n (by omega) _) (by simp (disch := omega) [go_sem, *]; try rfl) (by simp (disch := omega) [go_sem, *]; repeat (first | exact ALe.nil | (refine ALe.cons (by first | exact AV.le_refl _ | exact AV.le_nils | exact AV.le_own _ _) ?_))) (by simp (disch := omega) [go_sem, *]) ?_
  repeat (first | (refine go_nil ?_) | (refine go_kreg ?_) | (refine go_kreg0 ?_) | (refine go_kreg1 ?_) | (apply go_kregT; · (simp [addT, CF, CFy, Ind, DisjF]; done)) | (refine go_then ?_) | (refine go_then_exit ?_) | (refine go_then_ret ?_) | (refine go_blk ?_) | (refine go_blk_ret ?_) | (refine go_blk_here ?_) | (apply go_blk_there; · rfl) | (refine go_seq ?_) | (apply go_region; · (simp only [List.length_cons, List.length_nil, Nat.reduceAdd, Nat.add_assoc]; rfl)) | (refine go_skip ?_) | (refine go_block ?_) | (refine go_scope ?_) | (refine go_label ?_) | (refine go_exit ?_) | (refine go_ret ?_) | (apply go_guard_in; (· rfl); · (simp (disch := omega) [go_sem, *]; try first | rfl | omega)) | (apply go_guard_off; (· rfl); · (simp (disch := omega) [go_sem, *]; try first | rfl | omega)) | (apply go_guard_no; (· rfl); · (simp (disch := omega) [go_sem, *]; try rfl)) | (apply go_move; · (simp (disch := omega) [go_sem, *]; try rfl)) | (apply go_assign; · (simp (disch := omega) [go_sem, *]; try rfl)) | (apply go_load; · (simp (disch := omega) [go_sem, *]; exact ⟨rfl, rfl⟩)) | (apply go_loadv; · (simp (disch := omega) [go_sem, *]; try rfl)) | (apply go_store; · (simp (disch := omega) [go_sem, *]; exact ⟨rfl, rfl⟩)) | (apply go_append; · (simp (disch := omega) [go_sem, *]; exact ⟨rfl, rfl, rfl⟩)) | (apply go_append0; · (simp (disch := omega) [go_sem, *]; exact ⟨rfl, rfl⟩)) | (apply go_new; (· rfl); · (simp (disch := omega) [go_sem, *]; first | exact ⟨rfl, rfl⟩ | (simp [go_sem, *]; exact ⟨rfl, rfl⟩))) | (apply go_pure; (· rfl); · (simp (disch := omega) [go_sem, *]; first | done | rfl | (simp [go_sem, *]; try rfl))))
  refine go_callw (c2 _) (by simp (disch := omega) [go_sem, *]; try rfl) (by simp (disch := omega) [go_sem, *]; repeat (first | exact ALe.nil | (refine ALe.cons (by first | exact AV.le_refl _ | exact AV.le_nils | exact AV.le_own _ _) ?_))) (by simp (disch := omega) [go_sem, *]) ?_
  repeat (first | (refine go_nil ?_) | (refine go_kreg ?_) | (refine go_kreg0 ?_) | (refine go_kreg1 ?_) | (apply go_kregT; · (simp [addT, CF, CFy, Ind, DisjF]; done)) | (refine go_then ?_) | (refine go_then_exit ?_) | (refine go_then_ret ?_) | (refine go_blk ?_) | (refine go_blk_ret ?_) | (refine go_blk_here ?_) | (apply go_blk_there; · rfl) | (refine go_seq ?_) | (apply go_region; · (simp only [List.length_cons, List.length_nil, Nat.reduceAdd, Nat.add_assoc]; rfl)) | (refine go_skip ?_) | (refine go_block ?_) | (refine go_scope ?_) | (refine go_label ?_) | (refine go_exit ?_) | (refine go_ret ?_) | (apply go_guard_in; (· rfl); · (simp (disch := omega) [go_sem, *]; try first | rfl | omega)) | (apply go_guard_off; (· rfl); · (simp (disch := omega) [go_sem, *]; try first | rfl | omega)) | (apply go_guard_no; (· rfl); · (simp (disch := omega) [go_sem, *]; try rfl)) | (apply go_move; · (simp (disch := omega) [go_sem, *]; try rfl)) | (apply go_assign; · (simp (disch := omega) [go_sem, *]; try rfl)) | (apply go_load; · (simp (disch := omega) [go_sem, *]; exact ⟨rfl, rfl⟩)) | (apply go_loadv; · (simp (disch := omega) [go_sem, *]; try rfl)) | (apply go_store; · (simp (disch := omega) [go_sem, *]; exact ⟨rfl, rfl⟩)) | (apply go_append; · (simp (disch := omega) [go_sem, *]; exact ⟨rfl, rfl, rfl⟩)) | (apply go_append0; · (simp (disch := omega) [go_sem, *]; exact ⟨rfl, rfl⟩)) | (apply go_new; (· rfl); · (simp (disch := omega) [go_sem, *]; first | exact ⟨rfl, rfl⟩ | (simp [go_sem, *]; exact ⟨rfl, rfl⟩))) | (apply go_pure; (· rfl); · (simp (disch := omega) [go_sem, *]; first | done | rfl | (simp [go_sem, *]; try rfl))))
  refine go_callw (awake3_spec _) (by simp (disch := omega) [go_sem, *]; try rfl) (by simp (disch := omega) [go_sem, *]; repeat (first | exact ALe.nil | (refine ALe.cons (by first | exact AV.le_refl _ | exact AV.le_nils | exact AV.le_own _ _) ?_))) (by simp (disch := omega) [go_sem, *]) ?_
  repeat (first | (refine go_nil ?_) | (refine go_kreg ?_) | (refine go_kreg0 ?_) | (refine go_kreg1 ?_) | (apply go_kregT; · (simp [addT, CF, CFy, Ind, DisjF]; done)) | (refine go_then ?_) | (refine go_then_exit ?_) | (refine go_then_ret ?_) | (refine go_blk ?_) | (refine go_blk_ret ?_) | (refine go_blk_here ?_) | (apply go_blk_there; · rfl) | (refine go_seq ?_) | (apply go_region; · (simp only [List.length_cons, List.length_nil, Nat.reduceAdd, Nat.add_assoc]; rfl)) | (refine go_skip ?_) | (refine go_block ?_) | (refine go_scope ?_) | (refine go_label ?_) | (refine go_exit ?_) | (refine go_ret ?_) | (apply go_guard_in; (· rfl); · (simp (disch := omega) [go_sem, *]; try first | rfl | omega)) | (apply go_guard_off; (· rfl); · (simp (disch := omega) [go_sem, *]; try first | rfl | omega)) | (apply go_guard_no; (· rfl); · (simp (disch := omega) [go_sem, *]; try rfl)) | (apply go_move; · (simp (disch := omega) [go_sem, *]; try rfl)) | (apply go_assign; · (simp (disch := omega) [go_sem, *]; try rfl)) | (apply go_load; · (simp (disch := omega) [go_sem, *]; exact ⟨rfl, rfl⟩)) | (apply go_loadv; · (simp (disch := omega) [go_sem, *]; try rfl)) | (apply go_store; · (simp (disch := omega) [go_sem, *]; exact ⟨rfl, rfl⟩)) | (apply go_append; · (simp (disch := omega) [go_sem, *]; exact ⟨rfl, rfl, rfl⟩)) | (apply go_append0; · (simp (disch := omega) [go_sem, *]; exact ⟨rfl, rfl⟩)) | (apply go_new; (· rfl); · (simp (disch := omega) [go_sem, *]; first | exact ⟨rfl, rfl⟩ | (simp [go_sem, *]; exact ⟨rfl, rfl⟩))) | (apply go_pure; (· rfl); · (simp (disch := omega) [go_sem, *]; first | done | rfl | (simp [go_sem, *]; try rfl))))
  refine go_result (by simp (disch := omega) [go_sem, *]; rfl) (by simp (disch := omega) [go_sem]; try rfl) (fun id hid => by simp (disch := omega) only [upd_ne, wr_cons, wr_nil]; try exact hlow id hid)

theorem VarintBack_spec (a : Int) (b : List UInt8) (k : Nat) : ACall Try.prog 6 [.lit (.int .i64 a), .slice none (b.map byteAV)] k [] (.lit (.bool true)) [] := by
  have h1 := Int.emod_nonneg a (show (281474976710657 : Int) ≠ 0 by omega)
  have h2 := Int.emod_lt_of_pos a (show (0 : Int) < 281474976710657 by omega)
  obtain ⟨p, hp⟩ := Int.eq_ofNat_of_zero_le h1
  exact back_core p (by omega) a hp b k

theorem VarintUnique_spec (b : List UInt8) (k : Nat) : ACall Try.prog 7 [.slice none (b.map byteAV)] k [] (.lit (.bool true)) [] := by
  obtain ⟨m, t, hmin, hm1, hm2, htl, htk⟩ := cutAt 20 b
  have hmin : (if (20 : Int) < (b.length : Int) then (20 : Int) else (b.length : Int)) = (m : Int) := hmin
  have c2 := Read_spec t (by omega)
  rcases rdS_bad t with h | ⟨e, h, he⟩
  · obtain ⟨n, u, hr⟩ : ∃ n u, rdS t = (n, u, 0) := ⟨(rdS t).1, (rdS t).2.1, by rw [← h]⟩
    obtain ⟨q1, q2, q3⟩ := rdS_ok t hr
    rw [hr] at c2
    simp only [rdAV] at c2
    have hq : (u : Int) ≤ (t.length : Int) := by omega
    obtain ⟨t2, ht2⟩ : ∃ t2, t2 = t.take u := ⟨_, rfl⟩
    have htk2 : (t.map byteAV).take u = t2.map byteAV := by rw [ht2, List.map_take]
    have c4 := Same_spec (leb n) t2 (by rw [q3, List.length_take]; omega)
    rw [show decide (leb n = t2) = true by rw [q3, ht2]; simp] at c4
    have hum : u ≤ m := by omega
    clear hr h ht2
    refine ACall.of_body mixed Try.func7 rfl (by kernel_rfl) Try.ntmps7 (by kernel_rfl) rfl (by simp) (by simp) (by simp) fun σ N hp hpn hk hkn hfree => ?_
    repeat (first | (refine go_nil ?_) | (refine go_kreg ?_) | (refine go_kreg0 ?_) | (refine go_kreg1 ?_) | (apply go_kregT; · (simp [addT, CF, CFy, Ind, DisjF]; done)) | (refine go_then ?_) | (refine go_then_exit ?_) | (refine go_then_ret ?_) | (refine go_blk ?_) | (refine go_blk_ret ?_) | (refine go_blk_here ?_) | (apply go_blk_there; · rfl) | (refine go_seq ?_) | (apply go_region; · (simp only [List.length_cons, List.length_nil, Nat.reduceAdd, Nat.add_assoc]; rfl)) | (refine go_skip ?_) | (refine go_block ?_) | (refine go_scope ?_) | (refine go_label ?_) | (refine go_exit ?_) | (refine go_ret ?_) | (apply go_guard_in; (· rfl); · (simp (disch := omega) [go_sem, *]; try first | rfl | omega)) | (apply go_guard_off; (· rfl); · (simp (disch := omega) [go_sem, *]; try first | rfl | omega)) | (apply go_guard_no; (· rfl); · (simp (disch := omega) [go_sem, *]; try rfl)) | (apply go_move; · (simp (disch := omega) [go_sem, *]; try rfl)) | (apply go_assign; · (simp (disch := omega) [go_sem, *]; try rfl)) | (apply go_load; · (simp (disch := omega) [go_sem, *]; exact ⟨rfl, rfl⟩)) | (apply go_loadv; · (simp (disch := omega) [go_sem, *]; try rfl)) | (apply go_store; · (simp (disch := omega) [go_sem, *]; exact ⟨rfl, rfl⟩)) | (apply go_append; · (simp (disch := omega) [go_sem, *]; exact ⟨rfl, rfl, rfl⟩)) | (apply go_append0; · (simp (disch := omega) [go_sem, *]; exact ⟨rfl, rfl⟩)) | (apply go_new; (· rfl); · (simp (disch := omega) [go_sem, *]; first | exact ⟨rfl, rfl⟩ | (simp [go_sem, *]; exact ⟨rfl, rfl⟩))) | (apply go_pure; (· rfl); · (simp (disch := omega) [go_sem, *]; first | done | rfl | (simp [go_sem, *]; try rfl))))
    refine go_callw (c2 _) (by simp (disch := omega) [go_sem, *]; try rfl) (by simp (disch := omega) [go_sem, *]; repeat (first | exact ALe.nil | (refine ALe.cons (by first | exact AV.le_refl _ | exact AV.le_nils | exact AV.le_own _ _) ?_))) (by simp (disch := omega) [go_sem, *]) ?_
    repeat (first | (refine go_nil ?_) | (refine go_kreg ?_) | (refine go_kreg0 ?_) | (refine go_kreg1 ?_) | (apply go_kregT; · (simp [addT, CF, CFy, Ind, DisjF]; done)) | (refine go_then ?_) | (refine go_then_exit ?_) | (refine go_then_ret ?_) | (refine go_blk ?_) | (refine go_blk_ret ?_) | (refine go_blk_here ?_) | (apply go_blk_there; · rfl) | (refine go_seq ?_) | (apply go_region; · (simp only [List.length_cons, List.length_nil, Nat.reduceAdd, Nat.add_assoc]; rfl)) | (refine go_skip ?_) | (refine go_block ?_) | (refine go_scope ?_) | (refine go_label ?_) | (refine go_exit ?_) | (refine go_ret ?_) | (apply go_guard_in; (· rfl); · (simp (disch := omega) [go_sem, *]; try first | rfl | omega)) | (apply go_guard_off; (· rfl); · (simp (disch := omega) [go_sem, *]; try first | rfl | omega)) | (apply go_guard_no; (· rfl); · (simp (disch := omega) [go_sem, *]; try rfl)) | (apply go_move; · (simp (disch := omega) [go_sem, *]; try rfl)) | (apply go_assign; · (simp (disch := omega) [go_sem, *]; try rfl)) | (apply go_load; · (simp (disch := omega) [go_sem, *]; exact ⟨rfl, rfl⟩)) | (apply go_loadv; · (simp (disch := omega) [go_sem, *]; try rfl)) | (apply go_store; · (simp (disch := omega) [go_sem, *]; exact ⟨rfl, rfl⟩)) | (apply go_append; · (simp (disch := omega) [go_sem, *]; exact ⟨rfl, rfl, rfl⟩)) | (apply go_append0; · (simp (disch := omega) [go_sem, *]; exact ⟨rfl, rfl⟩)) | (apply go_new; (· rfl); · (simp (disch := omega) [go_sem, *]; first | exact ⟨rfl, rfl⟩ | (simp [go_sem, *]; exact ⟨rfl, rfl⟩))) | (apply go_pure; (· rfl); · (simp (disch := omega) [go_sem, *]; first | done | rfl | (simp [go_sem, *]; try rfl))))
    refine go_condF (by simp (disch := omega) [go_sem, *]; try first | rfl | omega) ?_
    repeat (first | (refine go_nil ?_) | (refine go_kreg ?_) | (refine go_kreg0 ?_) | (refine go_kreg1 ?_) | (apply go_kregT; · (simp [addT, CF, CFy, Ind, DisjF]; done)) | (refine go_then ?_) | (refine go_then_exit ?_) | (refine go_then_ret ?_) | (refine go_blk ?_) | (refine go_blk_ret ?_) | (refine go_blk_here ?_) | (apply go_blk_there; · rfl) | (refine go_seq ?_) | (apply go_region; · (simp only [List.length_cons, List.length_nil, Nat.reduceAdd, Nat.add_assoc]; rfl)) | (refine go_skip ?_) | (refine go_block ?_) | (refine go_scope ?_) | (refine go_label ?_) | (refine go_exit ?_) | (refine go_ret ?_) | (apply go_guard_in; (· rfl); · (simp (disch := omega) [go_sem, *]; try first | rfl | omega)) | (apply go_guard_off; (· rfl); · (simp (disch := omega) [go_sem, *]; try first | rfl | omega)) | (apply go_guard_no; (· rfl); · (simp (disch := omega) [go_sem, *]; try rfl)) | (apply go_move; · (simp (disch := omega) [go_sem, *]; try rfl)) | (apply go_assign; · (simp (disch := omega) [go_sem, *]; try rfl)) | (apply go_load; · (simp (disch := omega) [go_sem, *]; exact ⟨rfl, rfl⟩)) | (apply go_loadv; · (simp (disch := omega) [go_sem, *]; try rfl)) | (apply go_store; · (simp (disch := omega) [go_sem, *]; exact ⟨rfl, rfl⟩)) | (apply go_append; · (simp (disch := omega) [go_sem, *]; exact ⟨rfl, rfl, rfl⟩)) | (apply go_append0; · (simp (disch := omega) [go_sem, *]; exact ⟨rfl, rfl⟩)) | (apply go_new; (· rfl); · (simp (disch := omega) [go_sem, *]; first | exact ⟨rfl, rfl⟩ | (simp [go_sem, *]; exact ⟨rfl, rfl⟩))) | (apply go_pure; (· rfl); · (simp (disch := omega) [go_sem, *]; first | done | rfl | (simp [go_sem, *]; try rfl))))
    refine go_callw (Append_ok [] (by simp) n (by omega) _) (by simp (disch := omega) [go_sem, *]; try rfl) (by simp (disch := omega) [go_sem, *]; repeat (first | exact ALe.nil | (refine ALe.cons (by first | exact AV.le_refl _ | exact AV.le_nils | exact AV.le_own _ _) ?_))) (by simp (disch := omega) [go_sem, *]) ?_
    repeat (first | (refine go_nil ?_) | (refine go_kreg ?_) | (refine go_kreg0 ?_) | (refine go_kreg1 ?_) | (apply go_kregT; · (simp [addT, CF, CFy, Ind, DisjF]; done)) | (refine go_then ?_) | (refine go_then_exit ?_) | (refine go_then_ret ?_) | (refine go_blk ?_) | (refine go_blk_ret ?_) | (refine go_blk_here ?_) | (apply go_blk_there; · rfl) | (refine go_seq ?_) | (apply go_region; · (simp only [List.length_cons, List.length_nil, Nat.reduceAdd, Nat.add_assoc]; rfl)) | (refine go_skip ?_) | (refine go_block ?_) | (refine go_scope ?_) | (refine go_label ?_) | (refine go_exit ?_) | (refine go_ret ?_) | (apply go_guard_in; (· rfl); · (simp (disch := omega) [go_sem, *]; try first | rfl | omega)) | (apply go_guard_off; (· rfl); · (simp (disch := omega) [go_sem, *]; try first | rfl | omega)) | (apply go_guard_no; (· rfl); · (simp (disch := omega) [go_sem, *]; try rfl)) | (apply go_move; · (simp (disch := omega) [go_sem, *]; try rfl)) | (apply go_assign; · (simp (disch := omega) [go_sem, *]; try rfl)) | (apply go_load; · (simp (disch := omega) [go_sem, *]; exact ⟨rfl, rfl⟩)) | (apply go_loadv; · (simp (disch := omega) [go_sem, *]; try rfl)) | (apply go_store; · (simp (disch := omega) [go_sem, *]; exact ⟨rfl, rfl⟩)) | (apply go_append; · (simp (disch := omega) [go_sem, *]; exact ⟨rfl, rfl, rfl⟩)) | (apply go_append0; · (simp (disch := omega) [go_sem, *]; exact ⟨rfl, rfl⟩)) | (apply go_new; (· rfl); · (simp (disch := omega) [go_sem, *]; first | exact ⟨rfl, rfl⟩ | (simp [go_sem, *]; exact ⟨rfl, rfl⟩))) | (apply go_pure; (· rfl); · (simp (disch := omega) [go_sem, *]; first | done | rfl | (simp [go_sem, *]; try rfl))))
    refine go_callw (c4 _) (by simp (disch := omega) [go_sem, *]; try rfl) (by simp (disch := omega) [go_sem, *]; repeat (first | exact ALe.nil | (refine ALe.cons (by first | exact AV.le_refl _ | exact AV.le_nils | exact AV.le_own _ _) ?_))) (by simp (disch := omega) [go_sem, *]) ?_
    repeat (first | (refine go_nil ?_) | (refine go_kreg ?_) | (refine go_kreg0 ?_) | (refine go_kreg1 ?_) | (apply go_kregT; · (simp [addT, CF, CFy, Ind, DisjF]; done)) | (refine go_then ?_) | (refine go_then_exit ?_) | (refine go_then_ret ?_) | (refine go_blk ?_) | (refine go_blk_ret ?_) | (refine go_blk_here ?_) | (apply go_blk_there; · rfl) | (refine go_seq ?_) | (apply go_region; · (simp only [List.length_cons, List.length_nil, Nat.reduceAdd, Nat.add_assoc]; rfl)) | (refine go_skip ?_) | (refine go_block ?_) | (refine go_scope ?_) | (refine go_label ?_) | (refine go_exit ?_) | (refine go_ret ?_) | (apply go_guard_in; (· rfl); · (simp (disch := omega) [go_sem, *]; try first | rfl | omega)) | (apply go_guard_off; (· rfl); · (simp (disch := omega) [go_sem, *]; try first | rfl | omega)) | (apply go_guard_no; (· rfl); · (simp (disch := omega) [go_sem, *]; try rfl)) | (apply go_move; · (simp (disch := omega) [go_sem, *]; try rfl)) | (apply go_assign; · (simp (disch := omega) [go_sem, *]; try rfl)) | (apply go_load; · (simp (disch := omega) [go_sem, *]; exact ⟨rfl, rfl⟩)) | (apply go_loadv; · (simp (disch := omega) [go_sem, *]; try rfl)) | (apply go_store; · (simp (disch := omega) [go_sem, *]; exact ⟨rfl, rfl⟩)) | (apply go_append; · (simp (disch := omega) [go_sem, *]; exact ⟨rfl, rfl, rfl⟩)) | (apply go_append0; · (simp (disch := omega) [go_sem, *]; exact ⟨rfl, rfl⟩)) | (apply go_new; (· rfl); · (simp (disch := omega) [go_sem, *]; first | exact ⟨rfl, rfl⟩ | (simp [go_sem, *]; exact ⟨rfl, rfl⟩))) | (apply go_pure; (· rfl); · (simp (disch := omega) [go_sem, *]; first | done | rfl | (simp [go_sem, *]; try rfl))))
    refine go_callw (awake3_spec _) (by simp (disch := omega) [go_sem, *]; try rfl) (by simp (disch := omega) [go_sem, *]; repeat (first | exact ALe.nil | (refine ALe.cons (by first | exact AV.le_refl _ | exact AV.le_nils | exact AV.le_own _ _) ?_))) (by simp (disch := omega) [go_sem, *]) ?_
    repeat (first | (refine go_nil ?_) | (refine go_kreg ?_) | (refine go_kreg0 ?_) | (refine go_kreg1 ?_) | (apply go_kregT; · (simp [addT, CF, CFy, Ind, DisjF]; done)) | (refine go_then ?_) | (refine go_then_exit ?_) | (refine go_then_ret ?_) | (refine go_blk ?_) | (refine go_blk_ret ?_) | (refine go_blk_here ?_) | (apply go_blk_there; · rfl) | (refine go_seq ?_) | (apply go_region; · (simp only [List.length_cons, List.length_nil, Nat.reduceAdd, Nat.add_assoc]; rfl)) | (refine go_skip ?_) | (refine go_block ?_) | (refine go_scope ?_) | (refine go_label ?_) | (refine go_exit ?_) | (refine go_ret ?_) | (apply go_guard_in; (· rfl); · (simp (disch := omega) [go_sem, *]; try first | rfl | omega)) | (apply go_guard_off; (· rfl); · (simp (disch := omega) [go_sem, *]; try first | rfl | omega)) | (apply go_guard_no; (· rfl); · (simp (disch := omega) [go_sem, *]; try rfl)) | (apply go_move; · (simp (disch := omega) [go_sem, *]; try rfl)) | (apply go_assign; · (simp (disch := omega) [go_sem, *]; try rfl)) | (apply go_load; · (simp (disch := omega) [go_sem, *]; exact ⟨rfl, rfl⟩)) | (apply go_loadv; · (simp (disch := omega) [go_sem, *]; try rfl)) | (apply go_store; · (simp (disch := omega) [go_sem, *]; exact ⟨rfl, rfl⟩)) | (apply go_append; · (simp (disch := omega) [go_sem, *]; exact ⟨rfl, rfl, rfl⟩)) | (apply go_append0; · (simp (disch := omega) [go_sem, *]; exact ⟨rfl, rfl⟩)) | (apply go_new; (· rfl); · (simp (disch := omega) [go_sem, *]; first | exact ⟨rfl, rfl⟩ | (simp [go_sem, *]; exact ⟨rfl, rfl⟩))) | (apply go_pure; (· rfl); · (simp (disch := omega) [go_sem, *]; first | done | rfl | (simp [go_sem, *]; try rfl))))
    refine go_result (by simp (disch := omega) [go_sem, *]; rfl) (by simp (disch := omega) [go_sem]; try rfl) (fun id hid => by simp (disch := omega) only [upd_ne, wr_cons, wr_nil]; try exact hlow id hid)
  · rw [h] at c2
    simp only [rdAV] at c2
    clear h
    refine ACall.of_body mixed Try.func7 rfl (by kernel_rfl) Try.ntmps7 (by kernel_rfl) rfl (by simp) (by simp) (by simp) fun σ N hp hpn hk hkn hfree => ?_
    repeat (first | (refine go_nil ?_) | (refine go_kreg ?_) | (refine go_kreg0 ?_) | (refine go_kreg1 ?_) | (apply go_kregT; · (simp [addT, CF, CFy, Ind, DisjF]; done)) | (refine go_then ?_) | (refine go_then_exit ?_) | (refine go_then_ret ?_) | (refine go_blk ?_) | (refine go_blk_ret ?_) | (refine go_blk_here ?_) | (apply go_blk_there; · rfl) | (refine go_seq ?_) | (apply go_region; · (simp only [List.length_cons, List.length_nil, Nat.reduceAdd, Nat.add_assoc]; rfl)) | (refine go_skip ?_) | (refine go_block ?_) | (refine go_scope ?_) | (refine go_label ?_) | (refine go_exit ?_) | (refine go_ret ?_) | (apply go_guard_in; (· rfl); · (simp (disch := omega) [go_sem, *]; try first | rfl | omega)) | (apply go_guard_off; (· rfl); · (simp (disch := omega) [go_sem, *]; try first | rfl | omega)) | (apply go_guard_no; (· rfl); · (simp (disch := omega) [go_sem, *]; try rfl)) | (apply go_move; · (simp (disch := omega) [go_sem, *]; try rfl)) | (apply go_assign; · (simp (disch := omega) [go_sem, *]; try rfl)) | (apply go_load; · (simp (disch := omega) [go_sem, *]; exact ⟨rfl, rfl⟩)) | (apply go_loadv; · (simp (disch := omega) [go_sem, *]; try rfl)) | (apply go_store; · (simp (disch := omega) [go_sem, *]; exact ⟨rfl, rfl⟩)) | (apply go_append; · (simp (disch := omega) [go_sem, *]; exact ⟨rfl, rfl, rfl⟩)) | (apply go_append0; · (simp (disch := omega) [go_sem, *]; exact ⟨rfl, rfl⟩)) | (apply go_new; (· rfl); · (simp (disch := omega) [go_sem, *]; first | exact ⟨rfl, rfl⟩ | (simp [go_sem, *]; exact ⟨rfl, rfl⟩))) | (apply go_pure; (· rfl); · (simp (disch := omega) [go_sem, *]; first | done | rfl | (simp [go_sem, *]; try rfl))))
    refine go_callw (c2 _) (by simp (disch := omega) [go_sem, *]; try rfl) (by simp (disch := omega) [go_sem, *]; repeat (first | exact ALe.nil | (refine ALe.cons (by first | exact AV.le_refl _ | exact AV.le_nils | exact AV.le_own _ _) ?_))) (by simp (disch := omega) [go_sem, *]) ?_
    repeat (first | (refine go_nil ?_) | (refine go_kreg ?_) | (refine go_kreg0 ?_) | (refine go_kreg1 ?_) | (apply go_kregT; · (simp [addT, CF, CFy, Ind, DisjF]; done)) | (refine go_then ?_) | (refine go_then_exit ?_) | (refine go_then_ret ?_) | (refine go_blk ?_) | (refine go_blk_ret ?_) | (refine go_blk_here ?_) | (apply go_blk_there; · rfl) | (refine go_seq ?_) | (apply go_region; · (simp only [List.length_cons, List.length_nil, Nat.reduceAdd, Nat.add_assoc]; rfl)) | (refine go_skip ?_) | (refine go_block ?_) | (refine go_scope ?_) | (refine go_label ?_) | (refine go_exit ?_) | (refine go_ret ?_) | (apply go_guard_in; (· rfl); · (simp (disch := omega) [go_sem, *]; try first | rfl | omega)) | (apply go_guard_off; (· rfl); · (simp (disch := omega) [go_sem, *]; try first | rfl | omega)) | (apply go_guard_no; (· rfl); · (simp (disch := omega) [go_sem, *]; try rfl)) | (apply go_move; · (simp (disch := omega) [go_sem, *]; try rfl)) | (apply go_assign; · (simp (disch := omega) [go_sem, *]; try rfl)) | (apply go_load; · (simp (disch := omega) [go_sem, *]; exact ⟨rfl, rfl⟩)) | (apply go_loadv; · (simp (disch := omega) [go_sem, *]; try rfl)) | (apply go_store; · (simp (disch := omega) [go_sem, *]; exact ⟨rfl, rfl⟩)) | (apply go_append; · (simp (disch := omega) [go_sem, *]; exact ⟨rfl, rfl, rfl⟩)) | (apply go_append0; · (simp (disch := omega) [go_sem, *]; exact ⟨rfl, rfl⟩)) | (apply go_new; (· rfl); · (simp (disch := omega) [go_sem, *]; first | exact ⟨rfl, rfl⟩ | (simp [go_sem, *]; exact ⟨rfl, rfl⟩))) | (apply go_pure; (· rfl); · (simp (disch := omega) [go_sem, *]; first | done | rfl | (simp [go_sem, *]; try rfl))))
    refine go_condT (by simp (disch := omega) [go_sem, *]; try first | rfl | omega) ?_
    repeat (first | (refine go_nil ?_) | (refine go_kreg ?_) | (refine go_kreg0 ?_) | (refine go_kreg1 ?_) | (apply go_kregT; · (simp [addT, CF, CFy, Ind, DisjF]; done)) | (refine go_then ?_) | (refine go_then_exit ?_) | (refine go_then_ret ?_) | (refine go_blk ?_) | (refine go_blk_ret ?_) | (refine go_blk_here ?_) | (apply go_blk_there; · rfl) | (refine go_seq ?_) | (apply go_region; · (simp only [List.length_cons, List.length_nil, Nat.reduceAdd, Nat.add_assoc]; rfl)) | (refine go_skip ?_) | (refine go_block ?_) | (refine go_scope ?_) | (refine go_label ?_) | (refine go_exit ?_) | (refine go_ret ?_) | (apply go_guard_in; (· rfl); · (simp (disch := omega) [go_sem, *]; try first | rfl | omega)) | (apply go_guard_off; (· rfl); · (simp (disch := omega) [go_sem, *]; try first | rfl | omega)) | (apply go_guard_no; (· rfl); · (simp (disch := omega) [go_sem, *]; try rfl)) | (apply go_move; · (simp (disch := omega) [go_sem, *]; try rfl)) | (apply go_assign; · (simp (disch := omega) [go_sem, *]; try rfl)) | (apply go_load; · (simp (disch := omega) [go_sem, *]; exact ⟨rfl, rfl⟩)) | (apply go_loadv; · (simp (disch := omega) [go_sem, *]; try rfl)) | (apply go_store; · (simp (disch := omega) [go_sem, *]; exact ⟨rfl, rfl⟩)) | (apply go_append; · (simp (disch := omega) [go_sem, *]; exact ⟨rfl, rfl, rfl⟩)) | (apply go_append0; · (simp (disch := omega) [go_sem, *]; exact ⟨rfl, rfl⟩)) | (apply go_new; (· rfl); · (simp (disch := omega) [go_sem, *]; first | exact ⟨rfl, rfl⟩ | (simp [go_sem, *]; exact ⟨rfl, rfl⟩))) | (apply go_pure; (· rfl); · (simp (disch := omega) [go_sem, *]; first | done | rfl | (simp [go_sem, *]; try rfl))))
    refine go_callw (awake3_spec _) (by simp (disch := omega) [go_sem, *]; try rfl) (by simp (disch := omega) [go_sem, *]; repeat (first | exact ALe.nil | (refine ALe.cons (by first | exact AV.le_refl _ | exact AV.le_nils | exact AV.le_own _ _) ?_))) (by simp (disch := omega) [go_sem, *]) ?_
    repeat (first | (refine go_nil ?_) | (refine go_kreg ?_) | (refine go_kreg0 ?_) | (refine go_kreg1 ?_) | (apply go_kregT; · (simp [addT, CF, CFy, Ind, DisjF]; done)) | (refine go_then ?_) | (refine go_then_exit ?_) | (refine go_then_ret ?_) | (refine go_blk ?_) | (refine go_blk_ret ?_) | (refine go_blk_here ?_) | (apply go_blk_there; · rfl) | (refine go_seq ?_) | (apply go_region; · (simp only [List.length_cons, List.length_nil, Nat.reduceAdd, Nat.add_assoc]; rfl)) | (refine go_skip ?_) | (refine go_block ?_) | (refine go_scope ?_) | (refine go_label ?_) | (refine go_exit ?_) | (refine go_ret ?_) | (apply go_guard_in; (· rfl); · (simp (disch := omega) [go_sem, *]; try first | rfl | omega)) | (apply go_guard_off; (· rfl); · (simp (disch := omega) [go_sem, *]; try first | rfl | omega)) | (apply go_guard_no; (· rfl); · (simp (disch := omega) [go_sem, *]; try rfl)) | (apply go_move; · (simp (disch := omega) [go_sem, *]; try rfl)) | (apply go_assign; · (simp (disch := omega) [go_sem, *]; try rfl)) | (apply go_load; · (simp (disch := omega) [go_sem, *]; exact ⟨rfl, rfl⟩)) | (apply go_loadv; · (simp (disch := omega) [go_sem, *]; try rfl)) | (apply go_store; · (simp (disch := omega) [go_sem, *]; exact ⟨rfl, rfl⟩)) | (apply go_append; · (simp (disch := omega) [go_sem, *]; exact ⟨rfl, rfl, rfl⟩)) | (apply go_append0; · (simp (disch := omega) [go_sem, *]; exact ⟨rfl, rfl⟩)) | (apply go_new; (· rfl); · (simp (disch := omega) [go_sem, *]; first | exact ⟨rfl, rfl⟩ | (simp [go_sem, *]; exact ⟨rfl, rfl⟩))) | (apply go_pure; (· rfl); · (simp (disch := omega) [go_sem, *]; first | done | rfl | (simp [go_sem, *]; try rfl))))
    refine go_result (by simp (disch := omega) [go_sem, *]; rfl) (by simp (disch := omega) [go_sem]; try rfl) (fun id hid => by simp (disch := omega) only [upd_ne, wr_cons, wr_nil]; try exact hlow id hid)
end Go.Proofs.Ytmhehlfocfhpkaa
