import Derived.Test.YthklokpgjfopnaaF
namespace Go.Proofs.Ythklokpgjfopnaa
open Go.Ab
attribute [local irreducible] Go.Ab.aw Go.Ab.aops Go.Ab.kReg Go.Ab.aThen Go.Ab.aBlk Go.Ab.acond Go.Ab.aguard Go.Ab.astep Go.Ab.AStepX Go.Ab.aRet

def within (x n : Int) : Int := x % n

theorem within_eq (x n : Int) (h : 0 < n) : (x.tmod n + n).tmod n = x % n := by
  have h2 : -n < x.tmod n := by have := Int.lt_tmod_of_pos x h; omega
  rw [Int.tmod_eq_emod_of_nonneg (by omega), Int.add_emod_right, Int.tmod_eq_emod]
  split
  · rename_i hh; simp
  · rw [Int.sub_emod]; have : n ∣ n.natAbs := by rw [Int.dvd_natAbs]; exact Int.dvd_refl n
    simp [Int.emod_emod_of_dvd, Int.emod_eq_zero_of_dvd this]

theorem Within_spec (x n : Int) (h : 0 < n) (hn : n ≤ 1000000000000000000) (k : Nat) :
    ACall Try.prog 37 [.lit (.int .i64 x), .lit (.int .i64 n)] k [] (.lit (.int .i64 (x % n))) [] := by
  have h0 : n ≠ 0 := by omega
  have h1 : x.tmod n < n := Int.tmod_lt_of_pos x h
  have h2 : -n < x.tmod n := by have := Int.lt_tmod_of_pos x h; omega
  refine ACall.of_body mixed Try.func37 rfl (by kernel_rfl) Try.ntmps37 (by kernel_rfl) rfl (by simp) (by simp) (by simp) fun σ N hp hpn hk hkn hfree => ?_
  repeat (first | (refine go_nil ?_) | (refine go_kreg ?_) | (refine go_kreg0 ?_) | (refine go_kreg1 ?_) | (apply go_kregT; · (first | (simp [addT, CF, CFy, Ind, DisjF]; done) | (simp only [addT, CF, CFy, Ind]; repeat' (first | exact trivial | apply And.intro | exact Or.inl (by decide +kernel) | (refine Or.inr ⟨?_, ?_⟩ <;> (simp; try omega)))))) | (refine go_then ?_) | (refine go_then_exit ?_) | (refine go_then_ret ?_) | (refine go_blk ?_) | (refine go_blk_ret ?_) | (refine go_blk_here ?_) | (apply go_blk_there; · rfl) | (refine go_seq ?_) | (apply go_region; · (simp only [List.length_cons, List.length_nil, Nat.reduceAdd, Nat.add_assoc]; rfl)) | (refine go_skip ?_) | (refine go_block ?_) | (refine go_scope ?_) | (refine go_label ?_) | (refine go_exit ?_) | (refine go_ret ?_) | (apply go_mut; (· assumption); · (simp (disch := omega) [go_sem, *, -List.reduceReplicate]; exact ⟨rfl, rfl⟩)) | (apply go_mutP; (· assumption); · (simp (disch := omega) [go_sem, *, -List.reduceReplicate]; first | done | rfl)) | (apply go_guard_in; (· rfl); · (simp (disch := omega) [go_sem, *, -List.reduceReplicate]; try first | rfl | omega)) | (apply go_guard_off; (· rfl); · (simp (disch := omega) [go_sem, *, -List.reduceReplicate]; try first | rfl | omega)) | (apply go_guard_no; (· rfl); · (simp (disch := omega) [go_sem, *, -List.reduceReplicate]; try rfl)) | (apply go_move; · (simp (disch := omega) [go_sem, *, -List.reduceReplicate]; try rfl)) | (apply go_assign; · (simp (disch := omega) [go_sem, *, -List.reduceReplicate]; try rfl)) | (apply go_load; · (simp (disch := omega) [go_sem, *, -List.reduceReplicate]; exact ⟨rfl, rfl⟩)) | (apply go_loadv; · (simp (disch := omega) [go_sem, *, -List.reduceReplicate]; try rfl)) | (apply go_store; · (simp (disch := omega) [go_sem, *, -List.reduceReplicate]; exact ⟨rfl, rfl⟩)) | (apply go_append; · (simp (disch := omega) [go_sem, *, -List.reduceReplicate]; exact ⟨rfl, rfl, rfl⟩)) | (apply go_appendz; (· rfl); · (simp (disch := omega) [go_sem, *, -List.reduceReplicate]; exact ⟨rfl, rfl, rfl⟩)) | (apply go_append0; · (simp (disch := omega) [go_sem, *, -List.reduceReplicate]; exact ⟨rfl, rfl⟩)) | (apply go_new; (· rfl); · (simp (disch := omega) [go_sem, *, -List.reduceReplicate]; first | exact ⟨rfl, rfl⟩ | (simp [go_sem, *]; exact ⟨rfl, rfl⟩))) | (apply go_pure; (· rfl); · (simp (disch := omega) [go_sem, *, -List.reduceReplicate]; first | done | rfl | (simp [go_sem, *]; try rfl))) | (apply go_read1; (· rfl); · (simp (disch := omega) [go_sem, *, -List.reduceReplicate]; exact ⟨rfl, rfl⟩)) | (apply go_rw1; (· rfl); · (simp (disch := omega) [go_sem, *, -List.reduceReplicate]; exact ⟨rfl, rfl, rfl⟩)) | (apply go_new1; (· rfl); · (simp (disch := omega) [go_sem, *, -List.reduceReplicate]; exact ⟨rfl, rfl⟩)) | (apply go_copy; · (simp (disch := omega) [go_sem, *, -List.reduceReplicate]; exact ⟨rfl, rfl, rfl⟩)) | (apply go_copy0; · (simp (disch := omega) [go_sem, *, -List.reduceReplicate]; exact ⟨rfl, rfl, rfl⟩)) | (apply go_clear0; · (simp (disch := omega) [go_sem, *, -List.reduceReplicate]; exact ⟨rfl, rfl, rfl⟩)))
  exact go_result (by simp (disch := omega) [go_sem, *, -List.reduceReplicate]; rfl) (by simp only [AV.ren, within_eq x n h]) (fun id _ => rfl)

def deckAV (l : List Int) (at_ : Nat) : AV := .agg [.slice none (l.map fun x => .lit (.int .i64 x)), .lit (.int .i64 at_)]
end Go.Proofs.Ythklokpgjfopnaa
