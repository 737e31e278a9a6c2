/- The law Base64Encode. -/
import Derived.Test.YthklokpgjfopnaaE7
import Derived.Test.YthklokpgjfopnaaS1
import Derived.Test.YthklokpgjfopnaaT1
namespace Go.Proofs.Ythklokpgjfopnaa
open Go.Ab
attribute [local irreducible] Go.Ab.aw Go.Ab.aops Go.Ab.kReg Go.Ab.aThen Go.Ab.aBlk Go.Ab.acond Go.Ab.aguard Go.Ab.astep Go.Ab.AStepX Go.Ab.aRet

/-- What is written for bytes. -/
def encS (b : List UInt8) : List UInt8 × Nat := if 4096 < b.length then ([], 2) else (textS b, 0)
theorem Enc_spec (b : List UInt8) (hl : b.length ≤ 9223372036854775807) (k : Nat) :
    ACall Try.prog 52 [.slice none (b.map byteAV)] k [] (.tup [strAV (encS b).1, .lit (.int .i64 (encS b).2)]) [] := by
  by_cases h : 4096 < b.length
  · rw [encS, if_pos h]; exact enc_long b h hl k
  · rw [encS, if_neg h]; exact enc_core b (by omega) k
theorem Text_spec (b : List UInt8) (hl : b.length ≤ 9223372036854775807) (k : Nat) :
    ACall Try.prog 53 [.slice none (b.map byteAV)] k [] (.tup [strAV (encS b).1, .lit (.int .i64 (encS b).2)]) [] := by
  by_cases h : 4096 < b.length
  · rw [encS, if_pos h]; exact text_long b h hl k
  · rw [encS, if_neg h]; exact text_core b (by omega) k

theorem awake05_spec (k : Nat) : ACall Try.prog 54 [] k [] (.lit (.bool true)) [] := by
  have c1 := Enc_spec [251, 255] (by decide)
  have c2 := dec_spec [45, 95, 57] (by decide)
  rw [show encS [251, 255] = ([45, 95, 56], 0) by decide +kernel] at c1
  rw [show decS [45, 95, 57] = ([], 5) by decide +kernel, decAV] at c2
  have s1 : strAV [45, 95, 56] = .lit (.string ⟨#[45, 95, 56]⟩) := rfl
  have s2 : strAV [45, 95, 57] = .lit (.string ⟨#[45, 95, 57]⟩) := rfl
  rw [s2] at c2
  simp only at c1 c2
  rw [s1] at c1
  clear s1 s2
  refine ACall.of_body mixed Try.func54 rfl (by kernel_rfl) Try.ntmps54 (by kernel_rfl) rfl (by simp) (by simp) (by simp) fun σ N hp hpn hk hkn hfree => ?_
  have hcs := And.intro c1 (And.intro c2 True.intro)
  repeat (first | (refine go_nil ?_) | (refine go_kreg ?_) | (refine go_kreg0 ?_) | (refine go_kreg1 ?_) | (apply go_kregT; · (first | (simp [addT, CF, CFy, Ind, DisjF]; done) | (simp only [addT, CF, CFy, Ind]; repeat' (first | exact trivial | apply And.intro | exact Or.inl (by decide +kernel) | (refine Or.inr ⟨?_, ?_⟩ <;> (simp; try omega)))))) | (refine go_then ?_) | (refine go_then_exit ?_) | (refine go_then_ret ?_) | (refine go_blk ?_) | (refine go_blk_ret ?_) | (refine go_blk_here ?_) | (apply go_blk_there; · rfl) | (refine go_seq ?_) | (apply go_region; · (simp only [List.length_cons, List.length_nil, Nat.reduceAdd, Nat.add_assoc]; rfl)) | (refine go_skip ?_) | (refine go_block ?_) | (refine go_scope ?_) | (refine go_label ?_) | (refine go_exit ?_) | (refine go_ret ?_) | (apply go_mut; (· assumption); · (simp (disch := omega) [go_sem, *, -List.reduceReplicate]; exact ⟨rfl, rfl⟩)) | (apply go_mutP; (· assumption); · (simp (disch := omega) [go_sem, *, -List.reduceReplicate]; first | done | rfl)) | (apply go_guard_in; (· rfl); · (simp (disch := omega) [go_sem, *, -List.reduceReplicate]; try first | rfl | omega)) | (apply go_guard_off; (· rfl); · (simp (disch := omega) [go_sem, *, -List.reduceReplicate]; try first | rfl | omega)) | (apply go_guard_no; (· rfl); · (simp (disch := omega) [go_sem, *, -List.reduceReplicate]; try rfl)) | (apply go_move; · (simp (disch := omega) [go_sem, *, -List.reduceReplicate]; try rfl)) | (apply go_assign; · (simp (disch := omega) [go_sem, *, -List.reduceReplicate]; try rfl)) | (apply go_load; · (simp (disch := omega) [go_sem, *, -List.reduceReplicate]; exact ⟨rfl, rfl⟩)) | (apply go_loadv; · (simp (disch := omega) [go_sem, *, -List.reduceReplicate]; try rfl)) | (apply go_store; · (simp (disch := omega) [go_sem, *, -List.reduceReplicate]; exact ⟨rfl, rfl⟩)) | (apply go_append; · (simp (disch := omega) [go_sem, *, -List.reduceReplicate]; exact ⟨rfl, rfl, rfl⟩)) | (apply go_appendz; (· rfl); · (simp (disch := omega) [go_sem, *, -List.reduceReplicate]; exact ⟨rfl, rfl, rfl⟩)) | (apply go_append0; · (simp (disch := omega) [go_sem, *, -List.reduceReplicate]; exact ⟨rfl, rfl⟩)) | (apply go_new; (· rfl); · (simp (disch := omega) [go_sem, *, -List.reduceReplicate]; first | exact ⟨rfl, rfl⟩ | (simp [go_sem, *]; exact ⟨rfl, rfl⟩))) | (apply go_pure; (· rfl); · (simp (disch := omega) [go_sem, *, -List.reduceReplicate]; first | done | rfl | (simp [go_sem, *]; try rfl))) | (apply go_read1; (· rfl); · (simp (disch := omega) [go_sem, *, -List.reduceReplicate]; exact ⟨rfl, rfl⟩)) | (apply go_rw1; (· rfl); · (simp (disch := omega) [go_sem, *, -List.reduceReplicate]; exact ⟨rfl, rfl, rfl⟩)) | (apply go_new1; (· rfl); · (simp (disch := omega) [go_sem, *, -List.reduceReplicate]; exact ⟨rfl, rfl⟩)) | (apply go_copy; · (simp (disch := omega) [go_sem, *, -List.reduceReplicate]; exact ⟨rfl, rfl, rfl⟩)) | (apply go_copy0; · (simp (disch := omega) [go_sem, *, -List.reduceReplicate]; exact ⟨rfl, rfl, rfl⟩)) | (apply go_clear0; · (simp (disch := omega) [go_sem, *, -List.reduceReplicate]; exact ⟨rfl, rfl, rfl⟩)) | (apply go_condT; · (simp (disch := omega) [go_sem, *, -List.reduceReplicate]; try first | rfl | omega; done)) | (apply go_condF; · (simp (disch := omega) [go_sem, *, -List.reduceReplicate]; try first | rfl | omega; done)) | (obtain ⟨hcall, hcs⟩ := hcs; refine go_callw (hcall _) (by simp (disch := omega) [go_sem, *, -List.reduceReplicate]; try rfl) (by simp (disch := omega) [go_sem, *, -List.reduceReplicate]; repeat (first | exact ALe.nil | (refine ALe.cons (by first | exact AV.le_refl _ | exact AV.le_nils | exact AV.le_own _ _) ?_))) (by simp (disch := omega) [go_sem, *, -List.reduceReplicate]) ?_; clear hcall))
  refine go_result (by simp (disch := omega) [go_sem, *, -List.reduceReplicate]; rfl) (by simp (disch := omega) [go_sem]; try rfl) (fun id hid => by simp (disch := omega) only [upd_ne, wr_cons, wr_nil]; try exact hlow id hid)

theorem b64e_core (bb b : List UInt8) (n : Int) (m q : Nat) (h1 : (if (600 : Int) < (bb.length : Int) then (600 : Int) else (bb.length : Int)) = (m : Int)) (h2 : m ≤ bb.length) (h3 : m ≤ 600) (h4 : b.length = m) (h5 : (bb.map byteAV).take m = b.map byteAV)
    (hn0 : 0 ≤ n) (hn1 : n < 256) (hq : n.tmod 5 = (q : Int)) (hq5 : q < 5) (k : Nat) :
    ACall Try.prog 11 [.slice none (bb.map byteAV), .lit (.int .u8 n)] k [] (.lit (.bool true)) [] := by
  have c1 := Enc_spec b (by omega)
  have c2 := Text_spec b (by omega)
  have c3 := Enc_spec (List.replicate (4094 + q) 0) (by rw [List.length_replicate]; omega)
  have c4 := Text_spec (List.replicate (4094 + q) 0) (by rw [List.length_replicate]; omega)
  have hz := replicate_zero_bytes (4094 + q)
  generalize hL : List.replicate (4094 + q) (0 : UInt8) = L at *
  generalize encS b = r1 at c1 c2
  generalize encS L = r2 at c3 c4
  obtain ⟨r1, e1⟩ := r1
  obtain ⟨r2, e2⟩ := r2
  simp only at c1 c2 c3 c4
  have hM : (4094 : Int) + q = ((4094 + q : Nat) : Int) := by omega
  have hMl : 4094 + q < 5000 := by omega
  generalize 4094 + q = M at *
  have s1 : strAV r1 = .lit (.string ⟨r1.toArray⟩) := rfl
  have s2 : strAV r2 = .lit (.string ⟨r2.toArray⟩) := rfl
  rw [s1] at c1 c2
  rw [s2] at c3 c4
  clear s1 s2 hL
  refine ACall.of_body mixed Try.func11 rfl (by kernel_rfl) Try.ntmps11 (by kernel_rfl) rfl (by simp) (by simp) (by simp) fun σ N hp hpn hk hkn hfree => ?_
  have hcs := And.intro c1 (And.intro c2 (And.intro c3 (And.intro c4 (And.intro awake05_spec True.intro))))
  repeat (first | (refine go_nil ?_) | (refine go_kreg ?_) | (refine go_kreg0 ?_) | (refine go_kreg1 ?_) | (apply go_kregT; · (first | (simp [addT, CF, CFy, Ind, DisjF]; done) | (simp only [addT, CF, CFy, Ind]; repeat' (first | exact trivial | apply And.intro | exact Or.inl (by decide +kernel) | (refine Or.inr ⟨?_, ?_⟩ <;> (simp; try omega)))))) | (refine go_then ?_) | (refine go_then_exit ?_) | (refine go_then_ret ?_) | (refine go_blk ?_) | (refine go_blk_ret ?_) | (refine go_blk_here ?_) | (apply go_blk_there; · rfl) | (refine go_seq ?_) | (apply go_region; · (simp only [List.length_cons, List.length_nil, Nat.reduceAdd, Nat.add_assoc]; rfl)) | (refine go_skip ?_) | (refine go_block ?_) | (refine go_scope ?_) | (refine go_label ?_) | (refine go_exit ?_) | (refine go_ret ?_) | (apply go_mut; (· assumption); · (simp (disch := omega) [go_sem, *, -List.reduceReplicate]; exact ⟨rfl, rfl⟩)) | (apply go_mutP; (· assumption); · (simp (disch := omega) [go_sem, *, -List.reduceReplicate]; first | done | rfl)) | (apply go_guard_in; (· rfl); · (simp (disch := omega) [go_sem, *, -List.reduceReplicate]; try first | rfl | omega)) | (apply go_guard_off; (· rfl); · (simp (disch := omega) [go_sem, *, -List.reduceReplicate]; try first | rfl | omega)) | (apply go_guard_no; (· rfl); · (simp (disch := omega) [go_sem, *, -List.reduceReplicate]; try rfl)) | (apply go_move; · (simp (disch := omega) [go_sem, *, -List.reduceReplicate]; try rfl)) | (apply go_assign; · (simp (disch := omega) [go_sem, *, -List.reduceReplicate]; try rfl)) | (apply go_load; · (simp (disch := omega) [go_sem, *, -List.reduceReplicate]; exact ⟨rfl, rfl⟩)) | (apply go_loadv; · (simp (disch := omega) [go_sem, *, -List.reduceReplicate]; try rfl)) | (apply go_store; · (simp (disch := omega) [go_sem, *, -List.reduceReplicate]; exact ⟨rfl, rfl⟩)) | (apply go_append; · (simp (disch := omega) [go_sem, *, -List.reduceReplicate]; exact ⟨rfl, rfl, rfl⟩)) | (apply go_appendz; (· rfl); · (simp (disch := omega) [go_sem, *, -List.reduceReplicate]; exact ⟨rfl, rfl, rfl⟩)) | (apply go_append0; · (simp (disch := omega) [go_sem, *, -List.reduceReplicate]; exact ⟨rfl, rfl⟩)) | (apply go_new; (· rfl); · (simp (disch := omega) [go_sem, *, -List.reduceReplicate]; first | exact ⟨rfl, rfl⟩ | (simp [go_sem, *]; exact ⟨rfl, rfl⟩))) | (apply go_pure; (· rfl); · (simp (disch := omega) [go_sem, *, -List.reduceReplicate]; first | done | rfl | (simp [go_sem, *]; try rfl))) | (apply go_read1; (· rfl); · (simp (disch := omega) [go_sem, *, -List.reduceReplicate]; exact ⟨rfl, rfl⟩)) | (apply go_rw1; (· rfl); · (simp (disch := omega) [go_sem, *, -List.reduceReplicate]; exact ⟨rfl, rfl, rfl⟩)) | (apply go_new1; (· rfl); · (simp (disch := omega) [go_sem, *, -List.reduceReplicate]; exact ⟨rfl, rfl⟩)) | (apply go_copy; · (simp (disch := omega) [go_sem, *, -List.reduceReplicate]; exact ⟨rfl, rfl, rfl⟩)) | (apply go_copy0; · (simp (disch := omega) [go_sem, *, -List.reduceReplicate]; exact ⟨rfl, rfl, rfl⟩)) | (apply go_clear0; · (simp (disch := omega) [go_sem, *, -List.reduceReplicate]; exact ⟨rfl, rfl, rfl⟩)) | (apply go_condT; · (simp (disch := omega) [go_sem, *, -List.reduceReplicate]; try first | rfl | omega; done)) | (apply go_condF; · (simp (disch := omega) [go_sem, *, -List.reduceReplicate]; try first | rfl | omega; done)) | (obtain ⟨hcall, hcs⟩ := hcs; refine go_callw (hcall _) (by simp (disch := omega) [go_sem, *, -List.reduceReplicate]; try rfl) (by simp (disch := omega) [go_sem, *, -List.reduceReplicate]; repeat (first | exact ALe.nil | (refine ALe.cons (by first | exact AV.le_refl _ | exact AV.le_nils | exact AV.le_own _ _) ?_))) (by simp (disch := omega) [go_sem, *, -List.reduceReplicate]) ?_; clear hcall))
  refine go_result (by simp (disch := omega) [go_sem, *, -List.reduceReplicate]; rfl) (by simp (disch := omega) [go_sem]; try rfl) (fun id hid => by simp (disch := omega) only [upd_ne, wr_cons, wr_nil]; try exact hlow id hid)

theorem Base64Encode_spec (b : List UInt8) (n : Int) (w : (Lit.int .u8 n).wf = true) (k : Nat) :
    ACall Try.prog 11 [.slice none (b.map byteAV), .lit (.int .u8 n)] k [] (.lit (.bool true)) [] := by
  obtain ⟨m, t, h1, h2, h3, h4, h5⟩ := cutAt 600 b
  obtain ⟨cb, hc, hn⟩ := byte_of_wf w
  have hlt := cb.toNat_lt
  exact b64e_core b t n m (n % 5).toNat h1 h2 h3 h4 h5 (by omega) (by omega) (by rw [Int.tmod_eq_emod_of_nonneg (by omega)]; omega) (by omega) k
end Go.Proofs.Ythklokpgjfopnaa
