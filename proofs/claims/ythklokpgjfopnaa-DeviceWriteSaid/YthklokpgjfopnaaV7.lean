/- The laws of devices: DeviceNew, DeviceWrite. -/
import Derived.Test.YthklokpgjfopnaaV6
namespace Go.Proofs.Ythklokpgjfopnaa
open Go.Ab
attribute [local irreducible] Go.Ab.aw Go.Ab.aops Go.Ab.kReg Go.Ab.aThen Go.Ab.aBlk Go.Ab.acond Go.Ab.aguard Go.Ab.astep Go.Ab.AStepX Go.Ab.aRet

@[go_sem] theorem devAV_get2 (d : Dv) : (devAV d).get [2] = some (.lit (.int .i64 d.cap)) := rfl
@[go_sem] theorem devAV_get6 (d : Dv) : (devAV d).get [6] = some (.lit (.bool d.off)) := rfl
@[go_sem] theorem devAV_offs2 (d : Dv) : (devAV d).offs [2] = 3 := rfl
@[go_sem] theorem devAV_offs6 (d : Dv) : (devAV d).offs [6] = 7 := rfl
@[go_sem] theorem bAV_sz (b : List UInt8) : (bAV b).sz = 1 := rfl
@[go_sem] theorem bAV_isAgg (b : List UInt8) : (bAV b).isAgg = false := rfl
@[go_sem] theorem all_devs1 (l : List Dv) : (l.map devAV).all (fun x => x.sz == 8) = true := by
  rw [List.all_eq_true]; intro x hx; obtain ⟨b, _, rfl⟩ := List.mem_map.1 hx; rfl

theorem awake18_spec (k : Nat) : ACall Try.prog 44 [] k [] (.lit (.bool true)) [] := by
  have c1 := New_dev 10
  rw [show newS 10 = (⟨[], [], 0, 10, 0, 0, 0, false⟩, 0) by simp [newS]] at c1
  have c2 := Cut_spec ⟨[], [], 0, 10, 0, 0, 0, false⟩ 2 ⟨by decide, by decide, by decide, by decide⟩
  rw [show cutS ⟨[], [], 0, 10, 0, 0, 0, false⟩ 2 = ⟨[], [], 0, 10, 0, 1, 2, false⟩ by rfl] at c2
  have c3 := Append_spec ⟨[], [], 0, 10, 0, 1, 2, false⟩ [97, 98, 99] ⟨⟨by decide, by decide, by decide, by decide⟩, .inl rfl, by decide⟩ (by decide)
  rw [show appS ⟨[], [], 0, 10, 0, 1, 2, false⟩ [97, 98, 99] = (⟨[97, 98], [], 0, 10, 1, 1, 2, true⟩, 27) by simp [appS, writeS, Dv.data, Dv.area, Dv.put, cutN, show (min (max 2 0) 3 : Int) = 2 by decide]] at c3
  have c4 := Data_spec ⟨[97, 98], [], 0, 10, 1, 1, 2, true⟩ ⟨⟨by decide, by decide, by decide, by decide⟩, .inl rfl, by decide⟩
  rw [show Dv.data ⟨[97, 98], [], 0, 10, 1, 1, 2, true⟩ = [97, 98] by rfl] at c4
  have hcs := And.intro c1 (And.intro c2 (And.intro c3 (And.intro c4 True.intro)))
  clear c1 c2 c3 c4
  generalize h1 : Dv.mk [] [] 0 10 0 0 0 false = d1 at *
  generalize h2 : Dv.mk [] [] 0 10 0 1 2 false = d2 at *
  generalize h3 : Dv.mk [97, 98] [] 0 10 1 1 2 true = d3 at *
  have h4 : d3.off = true := by rw [← h3]
  clear h1 h2 h3
  refine ACall.of_body mixed Try.func44 rfl (by kernel_rfl) Try.ntmps44 (by kernel_rfl) rfl (by simp) (by simp) (by simp) fun σ N hp hpn hk hkn hfree => ?_
  have M : Mut (N + 8 + 2) := ⟨⟩
  repeat (first | (refine go_nil ?_) | (refine go_kreg ?_) | (refine go_kreg0 ?_) | (refine go_kreg1 ?_) | (apply go_kregT; · (first | (simp [addT, CF, CFy, Ind, DisjF]; done) | (simp only [addT, CF, CFy, Ind]; repeat' (first | exact trivial | apply And.intro | exact Or.inl (by decide +kernel) | (refine Or.inr ⟨?_, ?_⟩ <;> (simp; try omega)))))) | (refine go_then ?_) | (refine go_then_exit ?_) | (refine go_then_ret ?_) | (refine go_blk ?_) | (refine go_blk_ret ?_) | (refine go_blk_here ?_) | (apply go_blk_there; · rfl) | (refine go_seq ?_) | (apply go_region; · (simp only [List.length_cons, List.length_nil, Nat.reduceAdd, Nat.add_assoc]; rfl)) | (refine go_skip ?_) | (refine go_block ?_) | (refine go_scope ?_) | (refine go_label ?_) | (refine go_exit ?_) | (refine go_ret ?_) | (apply go_mut; (· assumption); · (simp (disch := omega) [go_sem, *, -List.reduceReplicate]; first | exact ⟨rfl, rfl⟩ | (simp [go_sem, *]; exact ⟨rfl, rfl⟩))) | (apply go_mutP; (· assumption); · (simp (disch := omega) [go_sem, *, -List.reduceReplicate]; first | done | rfl)) | (apply go_guard_in; (· rfl); · (simp (disch := omega) [go_sem, *, -List.reduceReplicate]; try first | rfl | omega)) | (apply go_guard_off; (· rfl); · (simp (disch := omega) [go_sem, *, -List.reduceReplicate]; try first | rfl | omega)) | (apply go_guard_no; (· rfl); · (simp (disch := omega) [go_sem, *, -List.reduceReplicate]; try rfl)) | (apply go_move; · (simp (disch := omega) [go_sem, *, -List.reduceReplicate]; try rfl)) | (apply go_assign; · (simp (disch := omega) [go_sem, *, -List.reduceReplicate]; try rfl)) | (apply go_load; · (simp (disch := omega) [go_sem, *, -List.reduceReplicate]; exact ⟨rfl, rfl⟩)) | (apply go_loadv; · (simp (disch := omega) [go_sem, *, -List.reduceReplicate]; try rfl)) | (apply go_store; · (simp (disch := omega) [go_sem, *, -List.reduceReplicate]; exact ⟨rfl, rfl⟩)) | (apply go_append; · (simp (disch := omega) [go_sem, *, -List.reduceReplicate]; exact ⟨rfl, rfl, rfl⟩)) | (apply go_appendz; (· rfl); · (simp (disch := omega) [go_sem, *, -List.reduceReplicate]; exact ⟨rfl, rfl, rfl⟩)) | (apply go_append0; · (simp (disch := omega) [go_sem, *, -List.reduceReplicate]; exact ⟨rfl, rfl⟩)) | (apply go_new; (· rfl); · (simp (disch := omega) [go_sem, *, -List.reduceReplicate]; first | exact ⟨rfl, rfl⟩ | (simp [go_sem, *]; exact ⟨rfl, rfl⟩))) | (apply go_pure; (· rfl); · (simp (disch := omega) [go_sem, *, -List.reduceReplicate]; first | done | rfl | (simp [go_sem, *]; try rfl))) | (apply go_read1; (· rfl); · (simp (disch := omega) [go_sem, *, -List.reduceReplicate]; exact ⟨rfl, rfl⟩)) | (apply go_rw1; (· rfl); · (simp (disch := omega) [go_sem, *, -List.reduceReplicate]; exact ⟨rfl, rfl, rfl⟩)) | (apply go_new1; (· rfl); · (simp (disch := omega) [go_sem, *, -List.reduceReplicate]; exact ⟨rfl, rfl⟩)) | (apply go_copy; · (simp (disch := omega) [go_sem, *, -List.reduceReplicate]; exact ⟨rfl, rfl, rfl⟩)) | (apply go_copy0; · (simp (disch := omega) [go_sem, *, -List.reduceReplicate]; exact ⟨rfl, rfl, rfl⟩)) | (apply go_clear0; · (simp (disch := omega) [go_sem, *, -List.reduceReplicate]; exact ⟨rfl, rfl, rfl⟩)) | (apply go_conv; · (simp (disch := omega) [go_sem, *, -List.reduceReplicate]; exact ⟨rfl, rfl, rfl⟩)) | (apply go_condT; · (simp (disch := omega) [go_sem, *, -List.reduceReplicate]; try first | rfl | omega; done)) | (apply go_condF; · (simp (disch := omega) [go_sem, *, -List.reduceReplicate]; try first | rfl | omega; done)) | (obtain ⟨hcall, hcs⟩ := hcs; refine go_callw (hcall _) (by simp (disch := omega) [go_sem, *, -List.reduceReplicate]; try rfl) (by simp (disch := omega) [go_sem, *, -List.reduceReplicate]; repeat (first | exact ALe.nil | (refine ALe.cons (by first | exact AV.le_refl _ | exact AV.le_nils | exact AV.le_own _ _) ?_))) (by simp (disch := omega) [go_sem, *, -List.reduceReplicate]) ?_; clear hcall))
  refine go_result (by simp (disch := omega) [go_sem, *, -List.reduceReplicate]; rfl) (by simp (disch := omega) [go_sem]; try rfl) (fun id hid => by simp (disch := omega) only [upd_ne, wr_cons, wr_nil]; try exact hlow id hid)

theorem newS_len (c : Int) : (newS c).1.a0 = [] ∧ (newS c).1.a1 = [] := by unfold newS; split <;> exact ⟨rfl, rfl⟩

set_option maxHeartbeats 4000000 in
theorem dnew_core (c c2 : Int) (hc2 : c % 200 = c2) (deck : List Int) (hd : deck.length ≤ 9223372036854775807) (torn : Int) (k : Nat) :
    ACall Try.prog 9 [.lit (.int .i64 c), .slice none (deck.map intAV), .lit (.int .i64 torn)] k [] (.lit (.bool true)) [] := by
  have l1 := newS_len c
  have l2 := newS_len c2
  have a1 := New_dev c
  have a2 := New_ref c
  have a3 := New_dev c2
  have a4 := New_ref c2
  have w1 := Within_spec c 200 (by omega) (by omega)
  rw [hc2] at w1
  have m1 := made_spec deck hd
  obtain ⟨mB, mD⟩ := madeD_B hd
  generalize newS c = X1 at *
  obtain ⟨x1, e1⟩ := X1
  generalize newS c2 = X2 at *
  obtain ⟨x2, e2⟩ := X2
  generalize madeD deck = X3 at *
  obtain ⟨x, j⟩ := X3
  simp only at l1 l2 a1 a2 a3 a4 m1 mB mD
  have s1 := SameDev_spec x1 (by rw [l1.1]; simp) (by rw [l1.2]; simp)
  have s2 := SameDev_spec x2 (by rw [l2.1]; simp) (by rw [l2.2]; simp)
  have hA := mB.A (by omega)
  have g1 := Data_spec x hA
  have g2 := rData_spec x hA
  have hdl : x.data.length ≤ 100000 := by
    have h1 := mB.l0
    have h2 := mB.l1
    have h3 := mB.cap2
    unfold Dv.data Dv.area
    split <;> omega
  have g3 := Same_spec x.data x.data (by omega)
  rw [decide_eq_true rfl] at g3
  generalize x.data = dt at *
  have g4 := Cut_spec x torn hA.toDvOk
  have g5 := rCut_spec x torn hA.toDvOk
  have g6 := SameDev_spec (cutS x torn) (by have := hA.h0; simp only [cutS]; omega) (by have := hA.h1; simp only [cutS]; omega)
  have g7 := Restart_spec x hA.toDvOk
  have g8 := rRestart_spec x
  have g9 := SameDev_spec (resS x) (by have := hA.h0; simp only [resS]; omega) (by have := hA.h1; simp only [resS]; omega)
  generalize cutS x torn = xc at *
  generalize resS x = xr at *
  have hcs := And.intro a1 (And.intro a2 (And.intro w1 (And.intro a3 (And.intro w1 (And.intro a4 (And.intro m1 (And.intro s1 (And.intro s2 (And.intro g1 (And.intro g2 (And.intro g3 (And.intro g4 (And.intro g5 (And.intro g6 (And.intro g7 (And.intro g8 (And.intro g9 (And.intro awake18_spec True.intro))))))))))))))))))
  clear a1 a2 a3 a4 w1 m1 s1 s2 g1 g2 g3 g4 g5 g6 g7 g8 g9 hA mB mD l1 l2 hc2
  refine ACall.of_body mixed Try.func9 rfl (by kernel_rfl) Try.ntmps9 (by kernel_rfl) rfl (by simp) (by simp) (by simp) fun σ N hp hpn hk hkn hfree => ?_
  repeat (first | (refine go_nil ?_) | (refine go_kreg ?_) | (refine go_kreg0 ?_) | (refine go_kreg1 ?_) | (apply go_kregT; · (first | (simp [addT, CF, CFy, Ind, DisjF]; done) | (simp only [addT, CF, CFy, Ind]; repeat' (first | exact trivial | apply And.intro | exact Or.inl (by decide +kernel) | (refine Or.inr ⟨?_, ?_⟩ <;> (simp; try omega)))))) | (refine go_then ?_) | (refine go_then_exit ?_) | (refine go_then_ret ?_) | (refine go_blk ?_) | (refine go_blk_ret ?_) | (refine go_blk_here ?_) | (apply go_blk_there; · rfl) | (refine go_seq ?_) | (apply go_region; · (simp only [List.length_cons, List.length_nil, Nat.reduceAdd, Nat.add_assoc]; rfl)) | (refine go_skip ?_) | (refine go_block ?_) | (refine go_scope ?_) | (refine go_label ?_) | (refine go_exit ?_) | (refine go_ret ?_) | (apply go_mut; (· assumption); · (simp (disch := omega) [go_sem, *, -List.reduceReplicate]; first | exact ⟨rfl, rfl⟩ | (simp [go_sem, *]; exact ⟨rfl, rfl⟩))) | (apply go_mutP; (· assumption); · (simp (disch := omega) [go_sem, *, -List.reduceReplicate]; first | done | rfl)) | (apply go_guard_in; (· rfl); · (simp (disch := omega) [go_sem, *, -List.reduceReplicate]; try first | rfl | omega)) | (apply go_guard_off; (· rfl); · (simp (disch := omega) [go_sem, *, -List.reduceReplicate]; try first | rfl | omega)) | (apply go_guard_no; (· rfl); · (simp (disch := omega) [go_sem, *, -List.reduceReplicate]; try rfl)) | (apply go_move; · (simp (disch := omega) [go_sem, *, -List.reduceReplicate]; try rfl)) | (apply go_assign; · (simp (disch := omega) [go_sem, *, -List.reduceReplicate]; try rfl)) | (apply go_load; · (simp (disch := omega) [go_sem, *, -List.reduceReplicate]; exact ⟨rfl, rfl⟩)) | (apply go_loadv; · (simp (disch := omega) [go_sem, *, -List.reduceReplicate]; try rfl)) | (apply go_store; · (simp (disch := omega) [go_sem, *, -List.reduceReplicate]; exact ⟨rfl, rfl⟩)) | (apply go_append; · (simp (disch := omega) [go_sem, *, -List.reduceReplicate]; exact ⟨rfl, rfl, rfl⟩)) | (apply go_appendz; (· rfl); · (simp (disch := omega) [go_sem, *, -List.reduceReplicate]; exact ⟨rfl, rfl, rfl⟩)) | (apply go_append0; · (simp (disch := omega) [go_sem, *, -List.reduceReplicate]; exact ⟨rfl, rfl⟩)) | (apply go_new; (· rfl); · (simp (disch := omega) [go_sem, *, -List.reduceReplicate]; first | exact ⟨rfl, rfl⟩ | (simp [go_sem, *]; exact ⟨rfl, rfl⟩))) | (apply go_pure; (· rfl); · (simp (disch := omega) [go_sem, *, -List.reduceReplicate]; first | done | rfl | (simp [go_sem, *]; try rfl))) | (apply go_read1; (· rfl); · (simp (disch := omega) [go_sem, *, -List.reduceReplicate]; exact ⟨rfl, rfl⟩)) | (apply go_rw1; (· rfl); · (simp (disch := omega) [go_sem, *, -List.reduceReplicate]; exact ⟨rfl, rfl, rfl⟩)) | (apply go_new1; (· rfl); · (simp (disch := omega) [go_sem, *, -List.reduceReplicate]; exact ⟨rfl, rfl⟩)) | (apply go_copy; · (simp (disch := omega) [go_sem, *, -List.reduceReplicate]; exact ⟨rfl, rfl, rfl⟩)) | (apply go_copy0; · (simp (disch := omega) [go_sem, *, -List.reduceReplicate]; exact ⟨rfl, rfl, rfl⟩)) | (apply go_clear0; · (simp (disch := omega) [go_sem, *, -List.reduceReplicate]; exact ⟨rfl, rfl, rfl⟩)) | (apply go_conv; · (simp (disch := omega) [go_sem, *, -List.reduceReplicate]; exact ⟨rfl, rfl, rfl⟩)) | (apply go_condT; · (simp (disch := omega) [go_sem, *, -List.reduceReplicate]; try first | rfl | omega; done)) | (apply go_condF; · (simp (disch := omega) [go_sem, *, -List.reduceReplicate]; try first | rfl | omega; done)) | (obtain ⟨hcall, hcs⟩ := hcs; refine go_callw (hcall _) (by simp (disch := omega) [go_sem, *, -List.reduceReplicate]; try rfl) (by simp (disch := omega) [go_sem, *, -List.reduceReplicate]; repeat (first | exact ALe.nil | (refine ALe.cons (by first | exact AV.le_refl _ | exact AV.le_nils | exact AV.le_own _ _) ?_))) (by simp (disch := omega) [go_sem, *, -List.reduceReplicate]) ?_; clear hcall))
  refine go_result (by simp (disch := omega) [go_sem, *, -List.reduceReplicate]; rfl) (by simp (disch := omega) [go_sem]; try rfl) (fun id hid => by simp (disch := omega) only [upd_ne, wr_cons, wr_nil]; try exact hlow id hid)
theorem DeviceNew_spec (c : Int) (deck : List Int) (_ : ∀ n ∈ deck, (Lit.int .i64 n).wf = true) (hd : deck.length ≤ 9223372036854775807) (torn : Int) (k : Nat) :
    ACall Try.prog 9 [.lit (.int .i64 c), .slice none (deck.map intAV), .lit (.int .i64 torn)] k [] (.lit (.bool true)) [] := dnew_core c _ rfl deck hd torn k
end Go.Proofs.Ythklokpgjfopnaa
