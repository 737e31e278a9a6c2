/- Contracts of the numbers of layer 3. -/
import Derived.Test.YtmhehlfocfhpkaaT2
namespace Go.Proofs.Ytmhehlfocfhpkaa
open Go.Ab
attribute [local irreducible] Go.Ab.aw Go.Ab.aops Go.Ab.kReg Go.Ab.aThen Go.Ab.aBlk Go.Ab.acond Go.Ab.aguard Go.Ab.obind Go.Ab.astep Go.Ab.AStepX Go.Ab.ALoop Go.Ab.aRet

/-- The byte of a number. -/
def u8 (n : Nat) : UInt8 := UInt8.ofNat n
def leb (n : Nat) : List UInt8 := if h : n < 128 then [u8 n] else u8 (n % 128 + 128) :: leb (n / 128)
termination_by n

theorem leb_small {n : Nat} (h : n < 128) : leb n = [u8 n] := by rw [leb, dif_pos h]
theorem leb_big {n : Nat} (h : ¬ n < 128) : leb n = u8 (n % 128 + 128) :: leb (n / 128) := by rw [leb, dif_neg h]
theorem leb_len (n : Nat) : ∀ k, n < 128 ^ k → (leb n).length ≤ k + 1 := by
  induction n using Nat.strongRecOn with
  | _ n ih =>
    intro k hk
    by_cases h : n < 128
    · rw [leb_small h]; simp
    · rw [leb_big h]
      cases k with
      | zero => simp at hk; omega
      | succ k =>
        have := ih (n / 128) (by omega) k (by rw [Nat.pow_succ] at hk; omega)
        simp; omega
theorem byteAV_ofNat {n : Nat} (h : n < 256) : byteAV (u8 n) = .lit (.int .u8 n) := by
  simp only [byteAV, u8]
  rw [UInt8.toNat_ofNat', Nat.mod_eq_of_lt h]

theorem Number_spec (n k : Nat) (hn : n < 128 ^ 9) : ACall Try.prog 22 [.lit (.int .i64 n)] k [] (.slice (some k) ((leb n).map byteAV)) [(k, .row 5 1 (leb n).length)] := by
  have hl := leb_len n 9 hn
  refine ACall.of_body mixed Try.func22 rfl (by kernel_rfl) Try.ntmps22 (by kernel_rfl) rfl (by simp) (by simp) (by simp) fun σ N hp hpn hk hkn hfree => ?_
  repeat (first | (refine go_nil ?_) | (refine go_kreg ?_) | (refine go_kreg0 ?_) | (refine go_kreg1 ?_) | (apply go_kregT; · (simp [addT, CF, CFy, Ind, DisjF]; done)) | (refine go_then ?_) | (refine go_then_exit ?_) | (refine go_then_ret ?_) | (refine go_blk ?_) | (refine go_blk_ret ?_) | (refine go_blk_here ?_) | (apply go_blk_there; · rfl) | (refine go_seq ?_) | (apply go_region; · (simp only [List.length_cons, List.length_nil, Nat.reduceAdd, Nat.add_assoc]; rfl)) | (refine go_skip ?_) | (refine go_block ?_) | (refine go_scope ?_) | (refine go_label ?_) | (refine go_exit ?_) | (refine go_ret ?_) | (apply go_guard_in; (· rfl); · (simp (disch := omega) [go_sem, *]; try first | rfl | omega)) | (apply go_guard_off; (· rfl); · (simp (disch := omega) [go_sem, *]; try first | rfl | omega)) | (apply go_guard_no; (· rfl); · (simp (disch := omega) [go_sem, *]; try rfl)) | (apply go_move; · (simp (disch := omega) [go_sem, *]; try rfl)) | (apply go_assign; · (simp (disch := omega) [go_sem, *]; try rfl)) | (apply go_load; · (simp (disch := omega) [go_sem, *]; exact ⟨rfl, rfl⟩)) | (apply go_loadv; · (simp (disch := omega) [go_sem, *]; try rfl)) | (apply go_store; · (simp (disch := omega) [go_sem, *]; exact ⟨rfl, rfl⟩)) | (apply go_append; · (simp (disch := omega) [go_sem, *]; exact ⟨rfl, rfl, rfl⟩)) | (apply go_append0; · (simp (disch := omega) [go_sem, *]; exact ⟨rfl, rfl⟩)) | (apply go_new; (· rfl); · (simp (disch := omega) [go_sem, *]; first | exact ⟨rfl, rfl⟩ | (simp [go_sem, *]; exact ⟨rfl, rfl⟩))) | (apply go_pure; (· rfl); · (simp (disch := omega) [go_sem, *]; first | done | rfl | (simp [go_sem, *]; try rfl))))
  refine go_loop (ALoop.nilrow 3 5 1 (by simp (disch := omega) [go_sem, *]) ?_)
  refine aloop mixed (by kernel_rfl) (fun c => ∃ (m : Nat) (acc : List UInt8), c.s 0 = .lit (.int .i64 m) ∧ c.s 3 = .slice (some (N + 2)) (acc.map byteAV) ∧ c.σ (N + 2) = .row 5 1 acc.length ∧ N + 3 ≤ c.n ∧ (∀ id, id < N → c.σ id = σ id) ∧ acc ++ leb m = leb n ∧ m < 128 ^ 9)
    (fun c => match c.s 0 with | .lit (.int _ m) => m.toNat | _ => 0) ⟨n, [], by simp (disch := omega) [go_sem, *], by simp (disch := omega) [go_sem, *], by simp (disch := omega) [go_sem, *], by simp, by intro id hid; simp (disch := omega) only [upd_ne], rfl, hn⟩ ?_
  rintro ⟨s, σ', n'⟩ ⟨m, acc, h0, h3, hr, hn', hlow, hacc, hm⟩
  simp only at h0 h3 hr hn' hlow
  have hal : acc.length ≤ 10 := by rw [← hacc, List.length_append] at hl; omega
  repeat (first | (refine go_nil ?_) | (refine go_kreg ?_) | (refine go_kreg0 ?_) | (refine go_kreg1 ?_) | (apply go_kregT; · (simp [addT, CF, CFy, Ind, DisjF]; done)) | (refine go_then ?_) | (refine go_then_exit ?_) | (refine go_then_ret ?_) | (refine go_blk ?_) | (refine go_blk_ret ?_) | (refine go_blk_here ?_) | (apply go_blk_there; · rfl) | (refine go_seq ?_) | (apply go_region; · (simp only [List.length_cons, List.length_nil, Nat.reduceAdd, Nat.add_assoc]; rfl)) | (refine go_skip ?_) | (refine go_block ?_) | (refine go_scope ?_) | (refine go_label ?_) | (refine go_exit ?_) | (refine go_ret ?_) | (apply go_guard_in; (· rfl); · (simp (disch := omega) [go_sem, *]; try first | rfl | omega)) | (apply go_guard_off; (· rfl); · (simp (disch := omega) [go_sem, *]; try first | rfl | omega)) | (apply go_guard_no; (· rfl); · (simp (disch := omega) [go_sem, *]; try rfl)) | (apply go_move; · (simp (disch := omega) [go_sem, *]; try rfl)) | (apply go_assign; · (simp (disch := omega) [go_sem, *]; try rfl)) | (apply go_load; · (simp (disch := omega) [go_sem, *]; exact ⟨rfl, rfl⟩)) | (apply go_loadv; · (simp (disch := omega) [go_sem, *]; try rfl)) | (apply go_store; · (simp (disch := omega) [go_sem, *]; exact ⟨rfl, rfl⟩)) | (apply go_append; · (simp (disch := omega) [go_sem, *]; exact ⟨rfl, rfl, rfl⟩)) | (apply go_append0; · (simp (disch := omega) [go_sem, *]; exact ⟨rfl, rfl⟩)) | (apply go_new; (· rfl); · (simp (disch := omega) [go_sem, *]; first | exact ⟨rfl, rfl⟩ | (simp [go_sem, *]; exact ⟨rfl, rfl⟩))) | (apply go_pure; (· rfl); · (simp (disch := omega) [go_sem, *]; first | done | rfl | (simp [go_sem, *]; try rfl))))
  by_cases h : m < 128
  · refine go_condF (by simp (disch := omega) [go_sem, *]; try first | rfl | omega) ?_
    repeat (first | (refine go_nil ?_) | (refine go_kreg ?_) | (refine go_kreg0 ?_) | (refine go_kreg1 ?_) | (apply go_kregT; · (simp [addT, CF, CFy, Ind, DisjF]; done)) | (refine go_then ?_) | (refine go_then_exit ?_) | (refine go_then_ret ?_) | (refine go_blk ?_) | (refine go_blk_ret ?_) | (refine go_blk_here ?_) | (apply go_blk_there; · rfl) | (refine go_seq ?_) | (apply go_region; · (simp only [List.length_cons, List.length_nil, Nat.reduceAdd, Nat.add_assoc]; rfl)) | (refine go_skip ?_) | (refine go_block ?_) | (refine go_scope ?_) | (refine go_label ?_) | (refine go_exit ?_) | (refine go_ret ?_) | (apply go_guard_in; (· rfl); · (simp (disch := omega) [go_sem, *]; try first | rfl | omega)) | (apply go_guard_off; (· rfl); · (simp (disch := omega) [go_sem, *]; try first | rfl | omega)) | (apply go_guard_no; (· rfl); · (simp (disch := omega) [go_sem, *]; try rfl)) | (apply go_move; · (simp (disch := omega) [go_sem, *]; try rfl)) | (apply go_assign; · (simp (disch := omega) [go_sem, *]; try rfl)) | (apply go_load; · (simp (disch := omega) [go_sem, *]; exact ⟨rfl, rfl⟩)) | (apply go_loadv; · (simp (disch := omega) [go_sem, *]; try rfl)) | (apply go_store; · (simp (disch := omega) [go_sem, *]; exact ⟨rfl, rfl⟩)) | (apply go_append; · (simp (disch := omega) [go_sem, *]; exact ⟨rfl, rfl, rfl⟩)) | (apply go_append0; · (simp (disch := omega) [go_sem, *]; exact ⟨rfl, rfl⟩)) | (apply go_new; (· rfl); · (simp (disch := omega) [go_sem, *]; first | exact ⟨rfl, rfl⟩ | (simp [go_sem, *]; exact ⟨rfl, rfl⟩))) | (apply go_pure; (· rfl); · (simp (disch := omega) [go_sem, *]; first | done | rfl | (simp [go_sem, *]; try rfl))))
    have hfin : (leb n).map byteAV = acc.map byteAV ++ [.lit (.int .u8 (IntKind.u8.wrap (m : Int)))] := by
      rw [← hacc, leb_small h, List.map_append, List.map_cons, List.map_nil, byteAV_ofNat (by omega), IntKind.wrap_u8, Int.emod_eq_of_lt (by omega) (by omega)]
    have hlen : (leb n).length = acc.length + 1 := by rw [← hacc, leb_small h]; simp
    rw [hfin, hlen]
    refine go_result1 (r0 := N+2) (by simp (disch := omega) [go_sem, *]; rfl) (by omega) (by simp (disch := omega) [go_sem]; try rfl) (fun id hid => by simp (disch := omega) only [upd_ne, wr_cons, wr_nil]; try exact hlow id hid) (by simp (disch := omega) only [upd_same, upd_ne]; rfl) (by simp (disch := omega) [go_sem])
  · have ht : (m : Int).tmod 128 = (m : Int) % 128 := Int.tmod_eq_emod_of_nonneg (by omega)
    have hb : IntKind.u8.wrap ((m : Int) % 128 + 128) = (m : Int) % 128 + 128 := by rw [IntKind.wrap_u8]; omega
    have hbv : byteAV (u8 (m % 128 + 128)) = .lit (.int .u8 ((m : Int) % 128 + 128)) := by rw [byteAV_ofNat (by omega)]; simp
    refine go_condT (by simp (disch := omega) [go_sem, *]; try first | rfl | omega) ?_
    repeat (first | (refine go_nil ?_) | (refine go_kreg ?_) | (refine go_kreg0 ?_) | (refine go_kreg1 ?_) | (apply go_kregT; · (simp [addT, CF, CFy, Ind, DisjF]; done)) | (refine go_then ?_) | (refine go_then_exit ?_) | (refine go_then_ret ?_) | (refine go_blk ?_) | (refine go_blk_ret ?_) | (refine go_blk_here ?_) | (apply go_blk_there; · rfl) | (refine go_seq ?_) | (apply go_region; · (simp only [List.length_cons, List.length_nil, Nat.reduceAdd, Nat.add_assoc]; rfl)) | (refine go_skip ?_) | (refine go_block ?_) | (refine go_scope ?_) | (refine go_label ?_) | (refine go_exit ?_) | (refine go_ret ?_) | (apply go_guard_in; (· rfl); · (simp (disch := omega) [go_sem, *]; try first | rfl | omega)) | (apply go_guard_off; (· rfl); · (simp (disch := omega) [go_sem, *]; try first | rfl | omega)) | (apply go_guard_no; (· rfl); · (simp (disch := omega) [go_sem, *]; try rfl)) | (apply go_move; · (simp (disch := omega) [go_sem, *]; try rfl)) | (apply go_assign; · (simp (disch := omega) [go_sem, *]; try rfl)) | (apply go_load; · (simp (disch := omega) [go_sem, *]; exact ⟨rfl, rfl⟩)) | (apply go_loadv; · (simp (disch := omega) [go_sem, *]; try rfl)) | (apply go_store; · (simp (disch := omega) [go_sem, *]; exact ⟨rfl, rfl⟩)) | (apply go_append; · (simp (disch := omega) [go_sem, *]; exact ⟨rfl, rfl, rfl⟩)) | (apply go_append0; · (simp (disch := omega) [go_sem, *]; exact ⟨rfl, rfl⟩)) | (apply go_new; (· rfl); · (simp (disch := omega) [go_sem, *]; first | exact ⟨rfl, rfl⟩ | (simp [go_sem, *]; exact ⟨rfl, rfl⟩))) | (apply go_pure; (· rfl); · (simp (disch := omega) [go_sem, *]; first | done | rfl | (simp [go_sem, *]; try rfl))))
    refine ⟨⟨m / 128, acc ++ [u8 (m % 128 + 128)], by simp (disch := omega) [go_sem, *], by simp (disch := omega) [go_sem, *], by simp (disch := omega) [go_sem, *], by simp only; omega, (fun id hid => by simp (disch := omega) only [upd_ne, wr_cons, wr_nil]; try exact hlow id hid), by rw [← hacc, leb_big h]; simp, by omega⟩, ?_⟩
    simp (disch := omega) [go_sem, *]
    omega
end Go.Proofs.Ytmhehlfocfhpkaa
