/- The law Base64Decode. -/
import Derived.Test.YthklokpgjfopnaaE8
namespace Go.Proofs.Ythklokpgjfopnaa
open Go.Ab
attribute [local irreducible] Go.Ab.aw Go.Ab.aops Go.Ab.kReg Go.Ab.aThen Go.Ab.aBlk Go.Ab.acond Go.Ab.aguard Go.Ab.astep Go.Ab.AStepX Go.Ab.aRet

theorem chunks6_len_eq (l : List Bool) : (chunks6 l).length = (l.length + 5) / 6 := by
  induction h : l.length using Nat.strongRecOn generalizing l with
  | _ n ih =>
    rw [chunks6]
    split
    · rename_i h0; subst h0; simp at h; subst h; rfl
    · rename_i hne
      have h0 : 0 < l.length := List.length_pos_iff.2 hne
      have hd : (l.drop 6).length = l.length - 6 := List.length_drop
      have := ih (l.drop 6).length (by omega) (l.drop 6) rfl
      simp only [List.length_cons]; omega
theorem textS_len_eq (b : List UInt8) : (textS b).length = (8 * b.length + 5) / 6 := by
  rw [textS, List.length_map, chunks6_len_eq, bitsB_len]

theorem decS_len (s : List UInt8) : (decS s).1.length ≤ 5000 := by
  unfold decS
  split
  · simp
  · split
    · simp
    · rename_i vs hv
      have := vals_len _ _ hv
      split
      · simp
      · split
        · simp
        · simp only [grp8_len, bits6_len]; omega

set_option maxHeartbeats 4000000 in
theorem b64d_core (s0 s bb b t : List UInt8) (at_ : Int) (c how : UInt8) (m1 m2 j : Nat) (h1 : (if (600 : Int) < (s0.length : Int) then (600 : Int) else (s0.length : Int)) = (m1 : Int)) (h2 : m1 ≤ s0.length) (h3 : s.length = m1) (h4 : s0.take m1 = s) (h5 : m1 ≤ 600)
    (g1 : (if (200 : Int) < (bb.length : Int) then (200 : Int) else (bb.length : Int)) = (m2 : Int)) (g2 : m2 ≤ bb.length) (g3 : m2 ≤ 200) (g4 : b.length = m2) (g5 : (bb.map byteAV).take m2 = b.map byteAV)
    (ht : textS (b ++ [77]) = t) (htl : t.length ≤ 1000) (hj : j < t.length) (hjt : at_ % (t.length : Int) = j) (k : Nat) :
    ACall Try.prog 12 [.lit (.string ⟨s0.toArray⟩), .slice none (bb.map byteAV), .lit (.int .i64 at_), .lit (.int .u8 c.toNat), .lit (.int .u8 how.toNat)] k [] (.lit (.bool true)) [] := by
  have hbl : (b ++ [77]).length ≤ 201 := by simp; omega
  have c1 := Text_spec (b ++ [77]) (by omega)
  rw [show encS (b ++ [77]) = (t, 0) by rw [encS, if_neg (by omega), ht]] at c1
  have hb77 : b.map byteAV ++ [AV.lit (.int .u8 77)] = (b ++ [77]).map byteAV := by simp [byteAV]
  have hst : strAV t = .lit (.string ⟨t.toArray⟩) := rfl
  simp only at c1
  rw [hst] at c1
  have c2 := Within_spec at_ t.length (by omega) (by omega)
  rw [hjt] at c2
  have hmc : how.toNat % 4 = 0 ∨ how.toNat % 4 = 1 ∨ how.toNat % 4 = 2 ∨ how.toNat % 4 = 3 := by omega
  have hcb : AV.lit (.int .u8 c.toNat) = byteAV c := rfl
  have htake : (t.take j).length = j := by rw [List.length_take]; omega
  have hd8 : (c.toNat : Int).tmod 8 = ((c.toNat % 8 : Nat) : Int) := by rw [Int.tmod_eq_emod_of_nonneg (by omega)]; omega
  have hcl := c.toNat_lt
  clear ht hst
  generalize b ++ [77] = b7 at *
  have hget : ∀ h : c.toNat % 8 < ([65, 66, 81, 103, 119, 95, 45, 57] : List UInt8).length, ([65, 66, 81, 103, 119, 95, 45, 57] : List UInt8)[c.toNat % 8] = ([65, 66, 81, 103, 119, 95, 45, 57] : List UInt8).getD (c.toNat % 8) 0 := fun h => by rw [List.getD_eq_getElem?_getD, List.getElem?_eq_getElem h]; rfl
  generalize ([65, 66, 81, 103, 119, 95, 45, 57] : List UInt8).getD (c.toNat % 8) 0 = ch at hget
  have hch : AV.lit (.int .u8 ch.toNat) = byteAV ch := rfl
  have hq8 : c.toNat % 8 < 8 := by omega
  generalize c.toNat % 8 = q8 at *
  have htm : (how.toNat : Int).tmod 4 = 0 ∨ (how.toNat : Int).tmod 4 = 1 ∨ (how.toNat : Int).tmod 4 = 2 ∨ (how.toNat : Int).tmod 4 = 3 := by rw [Int.tmod_eq_emod_of_nonneg (by omega)]; omega
  clear hmc
  have hcs := And.intro c1 (And.intro c2 True.intro)
  clear c1 c2
  rcases htm with htm | htm | htm | htm
  all_goals
    refine ACall.of_body mixed Try.func12 rfl (by kernel_rfl) Try.ntmps12 (by kernel_rfl) rfl (by simp) (by simp) (by simp) fun σ N hp hpn hk hkn hfree => ?_
    repeat (first | (refine go_nil ?_) | (refine go_kreg ?_) | (refine go_kreg0 ?_) | (refine go_kreg1 ?_) | (apply go_kregT; · (first | (simp [addT, CF, CFy, Ind, DisjF]; done) | (simp only [addT, CF, CFy, Ind]; repeat' (first | exact trivial | apply And.intro | exact Or.inl (by decide +kernel) | (refine Or.inr ⟨?_, ?_⟩ <;> (simp; try omega)))))) | (refine go_then ?_) | (refine go_then_exit ?_) | (refine go_then_ret ?_) | (refine go_blk ?_) | (refine go_blk_ret ?_) | (refine go_blk_here ?_) | (apply go_blk_there; · rfl) | (refine go_seq ?_) | (apply go_region; · (simp only [List.length_cons, List.length_nil, Nat.reduceAdd, Nat.add_assoc]; rfl)) | (refine go_skip ?_) | (refine go_block ?_) | (refine go_scope ?_) | (refine go_label ?_) | (refine go_exit ?_) | (refine go_ret ?_) | (apply go_mut; (· assumption); · (simp (disch := omega) [go_sem, *, -List.reduceReplicate]; exact ⟨rfl, rfl⟩)) | (apply go_mutP; (· assumption); · (simp (disch := omega) [go_sem, *, -List.reduceReplicate]; first | done | rfl)) | (apply go_guard_in; (· rfl); · (simp (disch := omega) [go_sem, *, -List.reduceReplicate]; try first | rfl | omega)) | (apply go_guard_off; (· rfl); · (simp (disch := omega) [go_sem, *, -List.reduceReplicate]; try first | rfl | omega)) | (apply go_guard_no; (· rfl); · (simp (disch := omega) [go_sem, *, -List.reduceReplicate]; try rfl)) | (apply go_move; · (simp (disch := omega) [go_sem, *, -List.reduceReplicate]; try rfl)) | (apply go_assign; · (simp (disch := omega) [go_sem, *, -List.reduceReplicate]; try rfl)) | (apply go_load; · (simp (disch := omega) [go_sem, *, -List.reduceReplicate]; exact ⟨rfl, rfl⟩)) | (apply go_loadv; · (simp (disch := omega) [go_sem, *, -List.reduceReplicate]; try rfl)) | (apply go_store; · (simp (disch := omega) [go_sem, *, -List.reduceReplicate]; exact ⟨rfl, rfl⟩)) | (apply go_append; · (simp (disch := omega) [go_sem, *, -List.reduceReplicate]; exact ⟨rfl, rfl, rfl⟩)) | (apply go_appendz; (· rfl); · (simp (disch := omega) [go_sem, *, -List.reduceReplicate]; exact ⟨rfl, rfl, rfl⟩)) | (apply go_append0; · (simp (disch := omega) [go_sem, *, -List.reduceReplicate]; exact ⟨rfl, rfl⟩)) | (apply go_new; (· rfl); · (simp (disch := omega) [go_sem, *, -List.reduceReplicate]; first | exact ⟨rfl, rfl⟩ | (simp [go_sem, *]; exact ⟨rfl, rfl⟩))) | (apply go_pure; (· rfl); · (simp (disch := omega) [go_sem, *, -List.reduceReplicate]; first | done | rfl | (simp [go_sem, *]; try rfl))) | (apply go_read1; (· rfl); · (simp (disch := omega) [go_sem, *, -List.reduceReplicate]; exact ⟨rfl, rfl⟩)) | (apply go_rw1; (· rfl); · (simp (disch := omega) [go_sem, *, -List.reduceReplicate]; exact ⟨rfl, rfl, rfl⟩)) | (apply go_new1; (· rfl); · (simp (disch := omega) [go_sem, *, -List.reduceReplicate]; exact ⟨rfl, rfl⟩)) | (apply go_copy; · (simp (disch := omega) [go_sem, *, -List.reduceReplicate]; exact ⟨rfl, rfl, rfl⟩)) | (apply go_copy0; · (simp (disch := omega) [go_sem, *, -List.reduceReplicate]; exact ⟨rfl, rfl, rfl⟩)) | (apply go_clear0; · (simp (disch := omega) [go_sem, *, -List.reduceReplicate]; exact ⟨rfl, rfl, rfl⟩)) | (apply go_condT; · (simp (disch := omega) [go_sem, *, -List.reduceReplicate]; try first | rfl | omega; done)) | (apply go_condF; · (simp (disch := omega) [go_sem, *, -List.reduceReplicate]; try first | rfl | omega; done)) | (obtain ⟨hcall, hcs⟩ := hcs; refine go_callw (hcall _) (by simp (disch := omega) [go_sem, *, -List.reduceReplicate]; try rfl) (by simp (disch := omega) [go_sem, *, -List.reduceReplicate]; repeat (first | exact ALe.nil | (refine ALe.cons (by first | exact AV.le_refl _ | exact AV.le_nils | exact AV.le_own _ _) ?_))) (by simp (disch := omega) [go_sem, *, -List.reduceReplicate]) ?_; clear hcall))
    refine go_loop (aloop mixed (by kernel_rfl) (fun c => ∃ (u : Nat) (x y : List UInt8), c.s 0 = .lit (.string ⟨x.toArray⟩) ∧ c.s 11 = .lit (.string ⟨y.toArray⟩) ∧ c.s 14 = .lit (.int .i64 u) ∧ u ≤ 2 ∧ x.length ≤ 2000 ∧ y.length ≤ 2000 ∧ N ≤ c.n ∧ (∀ id, id < N → c.σ id = σ id))
      (fun c => match c.s 14 with | .lit (.int _ m) => 2 - m.toNat | _ => 0) ⟨0, s, _, by simp (disch := omega) [go_sem, *, -List.reduceReplicate], by simp (disch := omega) [go_sem, *, -List.reduceReplicate]; rfl, by simp (disch := omega) [go_sem, *, -List.reduceReplicate], by omega, by omega, by simp only [List.length_append, List.length_cons, List.length_take, List.length_drop, List.length_nil]; omega, by simp only; omega, (fun id hid => by simp (disch := omega) only [upd_ne, wr_cons, wr_nil]; try exact hlow id hid)⟩ ?_)
    clear hb77 htm hcs
    rintro ⟨s1, σ', n'⟩ ⟨u, x, y, h0, h11, h14, hu, hx, hy, hn', hlow⟩
    simp only at h0 h11 h14 hn' hlow
    by_cases hu2 : u = 2
    · subst hu2
      have hcs := And.intro awake05_spec True.intro
      repeat (first | (refine go_nil ?_) | (refine go_kreg ?_) | (refine go_kreg0 ?_) | (refine go_kreg1 ?_) | (apply go_kregT; · (first | (simp [addT, CF, CFy, Ind, DisjF]; done) | (simp only [addT, CF, CFy, Ind]; repeat' (first | exact trivial | apply And.intro | exact Or.inl (by decide +kernel) | (refine Or.inr ⟨?_, ?_⟩ <;> (simp; try omega)))))) | (refine go_then ?_) | (refine go_then_exit ?_) | (refine go_then_ret ?_) | (refine go_blk ?_) | (refine go_blk_ret ?_) | (refine go_blk_here ?_) | (apply go_blk_there; · rfl) | (refine go_seq ?_) | (apply go_region; · (simp only [List.length_cons, List.length_nil, Nat.reduceAdd, Nat.add_assoc]; rfl)) | (refine go_skip ?_) | (refine go_block ?_) | (refine go_scope ?_) | (refine go_label ?_) | (refine go_exit ?_) | (refine go_ret ?_) | (apply go_mut; (· assumption); · (simp (disch := omega) [go_sem, *, -List.reduceReplicate]; exact ⟨rfl, rfl⟩)) | (apply go_mutP; (· assumption); · (simp (disch := omega) [go_sem, *, -List.reduceReplicate]; first | done | rfl)) | (apply go_guard_in; (· rfl); · (simp (disch := omega) [go_sem, *, -List.reduceReplicate]; try first | rfl | omega)) | (apply go_guard_off; (· rfl); · (simp (disch := omega) [go_sem, *, -List.reduceReplicate]; try first | rfl | omega)) | (apply go_guard_no; (· rfl); · (simp (disch := omega) [go_sem, *, -List.reduceReplicate]; try rfl)) | (apply go_move; · (simp (disch := omega) [go_sem, *, -List.reduceReplicate]; try rfl)) | (apply go_assign; · (simp (disch := omega) [go_sem, *, -List.reduceReplicate]; try rfl)) | (apply go_load; · (simp (disch := omega) [go_sem, *, -List.reduceReplicate]; exact ⟨rfl, rfl⟩)) | (apply go_loadv; · (simp (disch := omega) [go_sem, *, -List.reduceReplicate]; try rfl)) | (apply go_store; · (simp (disch := omega) [go_sem, *, -List.reduceReplicate]; exact ⟨rfl, rfl⟩)) | (apply go_append; · (simp (disch := omega) [go_sem, *, -List.reduceReplicate]; exact ⟨rfl, rfl, rfl⟩)) | (apply go_appendz; (· rfl); · (simp (disch := omega) [go_sem, *, -List.reduceReplicate]; exact ⟨rfl, rfl, rfl⟩)) | (apply go_append0; · (simp (disch := omega) [go_sem, *, -List.reduceReplicate]; exact ⟨rfl, rfl⟩)) | (apply go_new; (· rfl); · (simp (disch := omega) [go_sem, *, -List.reduceReplicate]; first | exact ⟨rfl, rfl⟩ | (simp [go_sem, *]; exact ⟨rfl, rfl⟩))) | (apply go_pure; (· rfl); · (simp (disch := omega) [go_sem, *, -List.reduceReplicate]; first | done | rfl | (simp [go_sem, *]; try rfl))) | (apply go_read1; (· rfl); · (simp (disch := omega) [go_sem, *, -List.reduceReplicate]; exact ⟨rfl, rfl⟩)) | (apply go_rw1; (· rfl); · (simp (disch := omega) [go_sem, *, -List.reduceReplicate]; exact ⟨rfl, rfl, rfl⟩)) | (apply go_new1; (· rfl); · (simp (disch := omega) [go_sem, *, -List.reduceReplicate]; exact ⟨rfl, rfl⟩)) | (apply go_copy; · (simp (disch := omega) [go_sem, *, -List.reduceReplicate]; exact ⟨rfl, rfl, rfl⟩)) | (apply go_copy0; · (simp (disch := omega) [go_sem, *, -List.reduceReplicate]; exact ⟨rfl, rfl, rfl⟩)) | (apply go_clear0; · (simp (disch := omega) [go_sem, *, -List.reduceReplicate]; exact ⟨rfl, rfl, rfl⟩)) | (apply go_condT; · (simp (disch := omega) [go_sem, *, -List.reduceReplicate]; try first | rfl | omega; done)) | (apply go_condF; · (simp (disch := omega) [go_sem, *, -List.reduceReplicate]; try first | rfl | omega; done)) | (obtain ⟨hcall, hcs⟩ := hcs; refine go_callw (hcall _) (by simp (disch := omega) [go_sem, *, -List.reduceReplicate]; try rfl) (by simp (disch := omega) [go_sem, *, -List.reduceReplicate]; repeat (first | exact ALe.nil | (refine ALe.cons (by first | exact AV.le_refl _ | exact AV.le_nils | exact AV.le_own _ _) ?_))) (by simp (disch := omega) [go_sem, *, -List.reduceReplicate]) ?_; clear hcall))
      refine go_result (by simp (disch := omega) [go_sem, *, -List.reduceReplicate]; rfl) (by simp (disch := omega) [go_sem]; try rfl) (fun id hid => by simp (disch := omega) only [upd_ne, wr_cons, wr_nil]; try exact hlow id hid)
    · have hui : (u : Int) < 2 := by omega
      have d1 := dec_spec x (by omega)
      have d2 := ref_spec x (by omega)
      have hdl := decS_len x
      have hsx : strAV x = .lit (.string ⟨x.toArray⟩) := rfl
      rw [hsx] at d1 d2
      clear hsx
      generalize decS x = dd at *
      obtain ⟨d, e⟩ := dd
      simp only [decAV] at d1 d2 hdl
      have d3 := Same_spec d d (by omega)
      simp only [decide_true] at d3
      have hcs := And.intro d1 (And.intro d2 (And.intro d3 True.intro))
      clear d1 d2 d3
      repeat (first | (refine go_nil ?_) | (refine go_kreg ?_) | (refine go_kreg0 ?_) | (refine go_kreg1 ?_) | (apply go_kregT; · (first | (simp [addT, CF, CFy, Ind, DisjF]; done) | (simp only [addT, CF, CFy, Ind]; repeat' (first | exact trivial | apply And.intro | exact Or.inl (by decide +kernel) | (refine Or.inr ⟨?_, ?_⟩ <;> (simp; try omega)))))) | (refine go_then ?_) | (refine go_then_exit ?_) | (refine go_then_ret ?_) | (refine go_blk ?_) | (refine go_blk_ret ?_) | (refine go_blk_here ?_) | (apply go_blk_there; · rfl) | (refine go_seq ?_) | (apply go_region; · (simp only [List.length_cons, List.length_nil, Nat.reduceAdd, Nat.add_assoc]; rfl)) | (refine go_skip ?_) | (refine go_block ?_) | (refine go_scope ?_) | (refine go_label ?_) | (refine go_exit ?_) | (refine go_ret ?_) | (apply go_mut; (· assumption); · (simp (disch := omega) [go_sem, *, -List.reduceReplicate]; exact ⟨rfl, rfl⟩)) | (apply go_mutP; (· assumption); · (simp (disch := omega) [go_sem, *, -List.reduceReplicate]; first | done | rfl)) | (apply go_guard_in; (· rfl); · (simp (disch := omega) [go_sem, *, -List.reduceReplicate]; try first | rfl | omega)) | (apply go_guard_off; (· rfl); · (simp (disch := omega) [go_sem, *, -List.reduceReplicate]; try first | rfl | omega)) | (apply go_guard_no; (· rfl); · (simp (disch := omega) [go_sem, *, -List.reduceReplicate]; try rfl)) | (apply go_move; · (simp (disch := omega) [go_sem, *, -List.reduceReplicate]; try rfl)) | (apply go_assign; · (simp (disch := omega) [go_sem, *, -List.reduceReplicate]; try rfl)) | (apply go_load; · (simp (disch := omega) [go_sem, *, -List.reduceReplicate]; exact ⟨rfl, rfl⟩)) | (apply go_loadv; · (simp (disch := omega) [go_sem, *, -List.reduceReplicate]; try rfl)) | (apply go_store; · (simp (disch := omega) [go_sem, *, -List.reduceReplicate]; exact ⟨rfl, rfl⟩)) | (apply go_append; · (simp (disch := omega) [go_sem, *, -List.reduceReplicate]; exact ⟨rfl, rfl, rfl⟩)) | (apply go_appendz; (· rfl); · (simp (disch := omega) [go_sem, *, -List.reduceReplicate]; exact ⟨rfl, rfl, rfl⟩)) | (apply go_append0; · (simp (disch := omega) [go_sem, *, -List.reduceReplicate]; exact ⟨rfl, rfl⟩)) | (apply go_new; (· rfl); · (simp (disch := omega) [go_sem, *, -List.reduceReplicate]; first | exact ⟨rfl, rfl⟩ | (simp [go_sem, *]; exact ⟨rfl, rfl⟩))) | (apply go_pure; (· rfl); · (simp (disch := omega) [go_sem, *, -List.reduceReplicate]; first | done | rfl | (simp [go_sem, *]; try rfl))) | (apply go_read1; (· rfl); · (simp (disch := omega) [go_sem, *, -List.reduceReplicate]; exact ⟨rfl, rfl⟩)) | (apply go_rw1; (· rfl); · (simp (disch := omega) [go_sem, *, -List.reduceReplicate]; exact ⟨rfl, rfl, rfl⟩)) | (apply go_new1; (· rfl); · (simp (disch := omega) [go_sem, *, -List.reduceReplicate]; exact ⟨rfl, rfl⟩)) | (apply go_copy; · (simp (disch := omega) [go_sem, *, -List.reduceReplicate]; exact ⟨rfl, rfl, rfl⟩)) | (apply go_copy0; · (simp (disch := omega) [go_sem, *, -List.reduceReplicate]; exact ⟨rfl, rfl, rfl⟩)) | (apply go_clear0; · (simp (disch := omega) [go_sem, *, -List.reduceReplicate]; exact ⟨rfl, rfl, rfl⟩)) | (apply go_condT; · (simp (disch := omega) [go_sem, *, -List.reduceReplicate]; try first | rfl | omega; done)) | (apply go_condF; · (simp (disch := omega) [go_sem, *, -List.reduceReplicate]; try first | rfl | omega; done)) | (obtain ⟨hcall, hcs⟩ := hcs; refine go_callw (hcall _) (by simp (disch := omega) [go_sem, *, -List.reduceReplicate]; try rfl) (by simp (disch := omega) [go_sem, *, -List.reduceReplicate]; repeat (first | exact ALe.nil | (refine ALe.cons (by first | exact AV.le_refl _ | exact AV.le_nils | exact AV.le_own _ _) ?_))) (by simp (disch := omega) [go_sem, *, -List.reduceReplicate]) ?_; clear hcall))
      refine ⟨⟨u + 1, y, y, by simp (disch := omega) [go_sem, *, -List.reduceReplicate], by simp (disch := omega) [go_sem, *, -List.reduceReplicate], by simp (disch := omega) [go_sem, *, -List.reduceReplicate], by omega, hy, hy, by simp only; omega, (fun id hid => by simp (disch := omega) only [upd_ne, wr_cons, wr_nil]; try exact hlow id hid)⟩, ?_⟩
      simp (disch := omega) [go_sem, *, -List.reduceReplicate]
      omega

theorem Base64Decode_spec (s : List UInt8) (_hs : s.length ≤ 9223372036854775807) (b : List UInt8) (at_ c : Int) (w1 : (Lit.int .u8 c).wf = true) (how : Int) (w2 : (Lit.int .u8 how).wf = true) (k : Nat) :
    ACall Try.prog 12 [strAV s, .slice none (b.map byteAV), .lit (.int .i64 at_), .lit (.int .u8 c), .lit (.int .u8 how)] k [] (.lit (.bool true)) [] := by
  obtain ⟨m1, t1, h1, h2, h3, h4, h5⟩ := cutStr 600 s
  obtain ⟨m2, t2, g1, g2, g3, g4, g5⟩ := cutAt 200 b
  obtain ⟨cb, hc, hn⟩ := byte_of_wf w1
  obtain ⟨hb, hc2, hn2⟩ := byte_of_wf w2
  have hl := textS_len_eq (t2 ++ [77])
  rw [List.length_append, List.length_singleton] at hl
  have e1 := Int.emod_nonneg at_ (show ((textS (t2 ++ [77])).length : Int) ≠ 0 by omega)
  have e2 := Int.emod_lt_of_pos at_ (show (0 : Int) < ((textS (t2 ++ [77])).length : Int) by omega)
  obtain ⟨j, hj⟩ := Int.eq_ofNat_of_zero_le e1
  rw [hn, hn2]
  exact b64d_core s t1 b t2 _ at_ cb hb m1 m2 j h1 h2 h4 h5 h3 g1 g2 g3 g4 g5 rfl (by omega) (by omega) hj k
end Go.Proofs.Ythklokpgjfopnaa
