/- Texts V4, V5, V10, J4, J5, J6, R6, J7, J8, J9, J10, J11, joined. -/
import Derived.Test.YtaelnglalpiemaaDoorM5

/- Devices: the other functions, and the specified ones. -/
namespace Go.Proofs.YtaelnglalpiemaaDoor
open Go.Ab
attribute [local irreducible] Go.Ab.tyAV Go.Ab.aw Go.Ab.aops Go.Ab.kReg Go.Ab.aThen Go.Ab.aBlk Go.Ab.acond Go.Ab.aguard Go.Ab.astep Go.Ab.AStepX Go.Ab.aRet

structure DvA (d : Dv) : Prop extends DvOk d where
  act : d.act = 0 ∨ d.act = 1
  cap : d.cap ≤ 10000000
def Dv.data (d : Dv) : List UInt8 := d.area d.act.toNat
def appS (d : Dv) (b : List UInt8) : Dv × Nat := writeS d d.act.toNat d.data.length b
def repS (d : Dv) (b : List UInt8) : Dv × Nat := writeS d (1 - d.act).toNat 0 b
def cutS (d : Dv) (torn : Int) : Dv := { d with cutAt := d.wr + 1, torn := torn }
def resS (d : Dv) : Dv := { d with off := false, cutAt := 0, torn := 0 }
def newS (c : Int) : Dv × Nat := if c < 0 ∨ 1048576 < c then (⟨[], [], 0, 0, 0, 0, 0, false⟩, 1) else (⟨[], [], 0, c, 0, 0, 0, false⟩, 0)

theorem Append_spec (d : Dv) (b : List UInt8) (hd : DvA d) (hb : b.length ≤ 1000000) (k : Nat) :
    ACall Tryd.prog 64 [devAV d, .slice none (b.map byteAV)] k [] (.tup [devAV (appS d b).1, .lit (.int .i64 (appS d b).2)]) [] := by
  have h0 := hd.h0
  have h1 := hd.h1
  rcases hd.act with hact | hact
  · have hcs := And.intro (write0_spec d d.a0.length b hd.toDvOk hb (Nat.le_refl _)) True.intro
    rw [show appS d b = writeS d 0 d.a0.length b by simp [appS, Dv.data, Dv.area, hact]]
    generalize writeS d 0 d.a0.length b = r at *
    obtain ⟨⟨x0, x1, x2, x3, x4, x5, x6, x7⟩, e⟩ := r
    obtain ⟨a0, a1, act, cap, wr_, cutAt, torn, off⟩ := d
    simp only at hact h0 h1
    subst hact
    simp only [devAV, devM, bAV] at *
    refine ACall.of_body mixed Tryd.func64 rfl (by kernel_rfl) Tryd.ntmps64 (by kernel_rfl) rfl (by simp) (by simp) (by simp) fun σ N hp hpn hk hkn hfree => ?_
    repeat (first | apply go_nil | apply go_kreg | apply go_kreg0 | apply go_kreg1 | (apply go_kregT; · (first | (simp [addT, CF, CFy, Ind, DisjF]; done) | (simp only [addT, CF, CFy, Ind]; repeat' (first | exact trivial | apply And.intro | exact Or.inl (by decide +kernel) | (refine Or.inr ⟨?_, ?_⟩ <;> (simp; try omega)))))) | apply go_then | apply go_then_exit | apply go_then_ret | apply go_blk | apply go_blk_ret | apply go_blk_here | (apply go_blk_there; · rfl) | apply go_seq | (apply go_region; · (simp only [List.length_cons, List.length_nil, Nat.reduceAdd, Nat.add_assoc]; rfl)) | apply go_skip | apply go_block | apply go_scope | apply go_label | apply go_exit | apply go_ret | (apply go_mut; (· assumption); · (simp (disch := omega) [go_sem, *, -List.reduceReplicate]; first | exact ⟨rfl, rfl⟩ | (simp [go_sem, *]; exact ⟨rfl, rfl⟩))) | (apply go_mutP; (· assumption); · (simp (disch := omega) [go_sem, *, -List.reduceReplicate]; try first | rfl | exact ⟨rfl, rfl⟩ | exact ⟨rfl, rfl, rfl⟩)) | (apply go_guard_in; (· rfl); · (simp (disch := omega) [go_sem, *, -List.reduceReplicate]; try first | rfl | omega)) | (apply go_guard_off; (· rfl); · (simp (disch := omega) [go_sem, *, -List.reduceReplicate]; try first | rfl | omega)) | (apply go_guard_no; (· rfl); · (simp (disch := omega) [go_sem, *, -List.reduceReplicate]; try rfl)) | ((first | apply go_move | apply go_assign | apply go_load | apply go_store | apply go_append | apply go_copy | apply go_copy0 | apply go_clear0 | apply go_slice3 | apply go_indexA); · (simp (disch := omega) [go_sem, *, -List.reduceReplicate]; try first | rfl | exact ⟨rfl, rfl⟩ | exact ⟨rfl, rfl, rfl⟩)) | ((first | apply go_loadv | apply go_append0 | apply go_beyond); · (simp (disch := omega) [go_sem, *, -List.reduceReplicate]; try first | rfl | exact ⟨rfl, rfl⟩ | exact ⟨rfl, rfl, rfl⟩)) | (apply go_appself; · (simp (disch := omega) [go_sem, *, -List.reduceReplicate]; try first | rfl | exact ⟨rfl, rfl⟩ | exact ⟨rfl, rfl, rfl⟩)) | ((first | (apply go_appendz; · rfl) | (apply go_new; · rfl) | (apply go_pure; · rfl)); · (simp (disch := omega) [go_sem, *, -List.reduceReplicate]; try first | rfl | exact ⟨rfl, rfl⟩ | exact ⟨rfl, rfl, rfl⟩)) | ((apply go_glob; · assumption); · (simp (disch := omega) [go_sem, *, -List.reduceReplicate]; try first | rfl | exact ⟨rfl, rfl⟩ | exact ⟨rfl, rfl, rfl⟩)) | (apply go_read1; (· rfl); · (simp (disch := omega) [go_sem, *, -List.reduceReplicate]; try first | rfl | exact ⟨rfl, rfl⟩ | exact ⟨rfl, rfl, rfl⟩)) | (apply go_rw1; (· rfl); · (simp (disch := omega) [go_sem, *, -List.reduceReplicate]; try first | rfl | exact ⟨rfl, rfl⟩ | exact ⟨rfl, rfl, rfl⟩)) | (apply go_new1; (· rfl); · (simp (disch := omega) [go_sem, *, -List.reduceReplicate]; try first | rfl | exact ⟨rfl, rfl⟩ | exact ⟨rfl, rfl, rfl⟩)) | (apply go_conv; · (simp (disch := omega) [go_sem, *, -List.reduceReplicate]; try first | rfl | exact ⟨rfl, rfl⟩ | exact ⟨rfl, rfl, rfl⟩)) | ((first | (apply go_new; · rfl) | (apply go_pure; · rfl)); · (simp (disch := omega) [go_sem, *, -List.reduceReplicate]; simp [go_sem, *]; try first | rfl | exact ⟨rfl, rfl⟩)) | (apply go_condT; · (simp (disch := omega) [go_sem, *, -List.reduceReplicate]; try first | rfl | omega; done)) | (apply go_condF; · (simp (disch := omega) [go_sem, *, -List.reduceReplicate]; try first | rfl | omega; done)) | (obtain ⟨hcall, hcs⟩ := hcs; refine go_callw (hcall _) (by simp (disch := omega) [go_sem, *, -List.reduceReplicate]; try rfl) (by simp (disch := omega) [go_sem, *, -List.reduceReplicate]; repeat' first | exact ALe.nil | exact AV.le_refl _ | exact AV.le_nils | exact AV.le_own _ _ | apply ALe.cons | apply AV.sub_agg) (by simp (disch := omega) [go_sem, *, -List.reduceReplicate]) ?_; clear hcall))
    refine go_result (by simp (disch := omega) [go_sem, *, -List.reduceReplicate]; rfl) (by simp (disch := omega) [go_sem]; try rfl) (fun id hid => by simp (disch := omega) only [upd_ne, wr_cons, wr_nil]; try exact hlow id hid)
  · have hcs := And.intro (write1_spec d d.a1.length b hd.toDvOk hb (Nat.le_refl _)) True.intro
    rw [show appS d b = writeS d 1 d.a1.length b by simp [appS, Dv.data, Dv.area, hact]]
    generalize writeS d 1 d.a1.length b = r at *
    obtain ⟨⟨x0, x1, x2, x3, x4, x5, x6, x7⟩, e⟩ := r
    obtain ⟨a0, a1, act, cap, wr_, cutAt, torn, off⟩ := d
    simp only at hact h0 h1
    subst hact
    simp only [devAV, devM, bAV] at *
    refine ACall.of_body mixed Tryd.func64 rfl (by kernel_rfl) Tryd.ntmps64 (by kernel_rfl) rfl (by simp) (by simp) (by simp) fun σ N hp hpn hk hkn hfree => ?_
    repeat (first | apply go_nil | apply go_kreg | apply go_kreg0 | apply go_kreg1 | (apply go_kregT; · (first | (simp [addT, CF, CFy, Ind, DisjF]; done) | (simp only [addT, CF, CFy, Ind]; repeat' (first | exact trivial | apply And.intro | exact Or.inl (by decide +kernel) | (refine Or.inr ⟨?_, ?_⟩ <;> (simp; try omega)))))) | apply go_then | apply go_then_exit | apply go_then_ret | apply go_blk | apply go_blk_ret | apply go_blk_here | (apply go_blk_there; · rfl) | apply go_seq | (apply go_region; · (simp only [List.length_cons, List.length_nil, Nat.reduceAdd, Nat.add_assoc]; rfl)) | apply go_skip | apply go_block | apply go_scope | apply go_label | apply go_exit | apply go_ret | (apply go_mut; (· assumption); · (simp (disch := omega) [go_sem, *, -List.reduceReplicate]; first | exact ⟨rfl, rfl⟩ | (simp [go_sem, *]; exact ⟨rfl, rfl⟩))) | (apply go_mutP; (· assumption); · (simp (disch := omega) [go_sem, *, -List.reduceReplicate]; try first | rfl | exact ⟨rfl, rfl⟩ | exact ⟨rfl, rfl, rfl⟩)) | (apply go_guard_in; (· rfl); · (simp (disch := omega) [go_sem, *, -List.reduceReplicate]; try first | rfl | omega)) | (apply go_guard_off; (· rfl); · (simp (disch := omega) [go_sem, *, -List.reduceReplicate]; try first | rfl | omega)) | (apply go_guard_no; (· rfl); · (simp (disch := omega) [go_sem, *, -List.reduceReplicate]; try rfl)) | ((first | apply go_move | apply go_assign | apply go_load | apply go_store | apply go_append | apply go_copy | apply go_copy0 | apply go_clear0 | apply go_slice3 | apply go_indexA); · (simp (disch := omega) [go_sem, *, -List.reduceReplicate]; try first | rfl | exact ⟨rfl, rfl⟩ | exact ⟨rfl, rfl, rfl⟩)) | ((first | apply go_loadv | apply go_append0 | apply go_beyond); · (simp (disch := omega) [go_sem, *, -List.reduceReplicate]; try first | rfl | exact ⟨rfl, rfl⟩ | exact ⟨rfl, rfl, rfl⟩)) | (apply go_appself; · (simp (disch := omega) [go_sem, *, -List.reduceReplicate]; try first | rfl | exact ⟨rfl, rfl⟩ | exact ⟨rfl, rfl, rfl⟩)) | ((first | (apply go_appendz; · rfl) | (apply go_new; · rfl) | (apply go_pure; · rfl)); · (simp (disch := omega) [go_sem, *, -List.reduceReplicate]; try first | rfl | exact ⟨rfl, rfl⟩ | exact ⟨rfl, rfl, rfl⟩)) | ((apply go_glob; · assumption); · (simp (disch := omega) [go_sem, *, -List.reduceReplicate]; try first | rfl | exact ⟨rfl, rfl⟩ | exact ⟨rfl, rfl, rfl⟩)) | (apply go_read1; (· rfl); · (simp (disch := omega) [go_sem, *, -List.reduceReplicate]; try first | rfl | exact ⟨rfl, rfl⟩ | exact ⟨rfl, rfl, rfl⟩)) | (apply go_rw1; (· rfl); · (simp (disch := omega) [go_sem, *, -List.reduceReplicate]; try first | rfl | exact ⟨rfl, rfl⟩ | exact ⟨rfl, rfl, rfl⟩)) | (apply go_new1; (· rfl); · (simp (disch := omega) [go_sem, *, -List.reduceReplicate]; try first | rfl | exact ⟨rfl, rfl⟩ | exact ⟨rfl, rfl, rfl⟩)) | (apply go_conv; · (simp (disch := omega) [go_sem, *, -List.reduceReplicate]; try first | rfl | exact ⟨rfl, rfl⟩ | exact ⟨rfl, rfl, rfl⟩)) | ((first | (apply go_new; · rfl) | (apply go_pure; · rfl)); · (simp (disch := omega) [go_sem, *, -List.reduceReplicate]; simp [go_sem, *]; try first | rfl | exact ⟨rfl, rfl⟩)) | (apply go_condT; · (simp (disch := omega) [go_sem, *, -List.reduceReplicate]; try first | rfl | omega; done)) | (apply go_condF; · (simp (disch := omega) [go_sem, *, -List.reduceReplicate]; try first | rfl | omega; done)) | (obtain ⟨hcall, hcs⟩ := hcs; refine go_callw (hcall _) (by simp (disch := omega) [go_sem, *, -List.reduceReplicate]; try rfl) (by simp (disch := omega) [go_sem, *, -List.reduceReplicate]; repeat' first | exact ALe.nil | exact AV.le_refl _ | exact AV.le_nils | exact AV.le_own _ _ | apply ALe.cons | apply AV.sub_agg) (by simp (disch := omega) [go_sem, *, -List.reduceReplicate]) ?_; clear hcall))
    refine go_result (by simp (disch := omega) [go_sem, *, -List.reduceReplicate]; rfl) (by simp (disch := omega) [go_sem]; try rfl) (fun id hid => by simp (disch := omega) only [upd_ne, wr_cons, wr_nil]; try exact hlow id hid)

theorem Replace_spec (d : Dv) (b : List UInt8) (hd : DvA d) (hb : b.length ≤ 1000000) (k : Nat) :
    ACall Tryd.prog 67 [devAV d, .slice none (b.map byteAV)] k [] (.tup [devAV (repS d b).1, .lit (.int .i64 (repS d b).2)]) [] := by
  have h0 := hd.h0
  have h1 := hd.h1
  rcases hd.act with hact | hact
  · have hcs := And.intro (write1_spec d 0 b hd.toDvOk hb (Nat.zero_le _)) True.intro
    rw [show repS d b = writeS d 1 0 b by simp [repS, hact]]
    generalize writeS d 1 0 b = r at *
    obtain ⟨⟨x0, x1, x2, x3, x4, x5, x6, x7⟩, e⟩ := r
    obtain ⟨a0, a1, act, cap, wr_, cutAt, torn, off⟩ := d
    simp only at hact h0 h1
    subst hact
    simp only [devAV, devM, bAV] at *
    refine ACall.of_body mixed Tryd.func67 rfl (by kernel_rfl) Tryd.ntmps67 (by kernel_rfl) rfl (by simp) (by simp) (by simp) fun σ N hp hpn hk hkn hfree => ?_
    repeat (first | apply go_nil | apply go_kreg | apply go_kreg0 | apply go_kreg1 | (apply go_kregT; · (first | (simp [addT, CF, CFy, Ind, DisjF]; done) | (simp only [addT, CF, CFy, Ind]; repeat' (first | exact trivial | apply And.intro | exact Or.inl (by decide +kernel) | (refine Or.inr ⟨?_, ?_⟩ <;> (simp; try omega)))))) | apply go_then | apply go_then_exit | apply go_then_ret | apply go_blk | apply go_blk_ret | apply go_blk_here | (apply go_blk_there; · rfl) | apply go_seq | (apply go_region; · (simp only [List.length_cons, List.length_nil, Nat.reduceAdd, Nat.add_assoc]; rfl)) | apply go_skip | apply go_block | apply go_scope | apply go_label | apply go_exit | apply go_ret | (apply go_mut; (· assumption); · (simp (disch := omega) [go_sem, *, -List.reduceReplicate]; first | exact ⟨rfl, rfl⟩ | (simp [go_sem, *]; exact ⟨rfl, rfl⟩))) | (apply go_mutP; (· assumption); · (simp (disch := omega) [go_sem, *, -List.reduceReplicate]; try first | rfl | exact ⟨rfl, rfl⟩ | exact ⟨rfl, rfl, rfl⟩)) | (apply go_guard_in; (· rfl); · (simp (disch := omega) [go_sem, *, -List.reduceReplicate]; try first | rfl | omega)) | (apply go_guard_off; (· rfl); · (simp (disch := omega) [go_sem, *, -List.reduceReplicate]; try first | rfl | omega)) | (apply go_guard_no; (· rfl); · (simp (disch := omega) [go_sem, *, -List.reduceReplicate]; try rfl)) | ((first | apply go_move | apply go_assign | apply go_load | apply go_store | apply go_append | apply go_copy | apply go_copy0 | apply go_clear0 | apply go_slice3 | apply go_indexA); · (simp (disch := omega) [go_sem, *, -List.reduceReplicate]; try first | rfl | exact ⟨rfl, rfl⟩ | exact ⟨rfl, rfl, rfl⟩)) | ((first | apply go_loadv | apply go_append0 | apply go_beyond); · (simp (disch := omega) [go_sem, *, -List.reduceReplicate]; try first | rfl | exact ⟨rfl, rfl⟩ | exact ⟨rfl, rfl, rfl⟩)) | (apply go_appself; · (simp (disch := omega) [go_sem, *, -List.reduceReplicate]; try first | rfl | exact ⟨rfl, rfl⟩ | exact ⟨rfl, rfl, rfl⟩)) | ((first | (apply go_appendz; · rfl) | (apply go_new; · rfl) | (apply go_pure; · rfl)); · (simp (disch := omega) [go_sem, *, -List.reduceReplicate]; try first | rfl | exact ⟨rfl, rfl⟩ | exact ⟨rfl, rfl, rfl⟩)) | ((apply go_glob; · assumption); · (simp (disch := omega) [go_sem, *, -List.reduceReplicate]; try first | rfl | exact ⟨rfl, rfl⟩ | exact ⟨rfl, rfl, rfl⟩)) | (apply go_read1; (· rfl); · (simp (disch := omega) [go_sem, *, -List.reduceReplicate]; try first | rfl | exact ⟨rfl, rfl⟩ | exact ⟨rfl, rfl, rfl⟩)) | (apply go_rw1; (· rfl); · (simp (disch := omega) [go_sem, *, -List.reduceReplicate]; try first | rfl | exact ⟨rfl, rfl⟩ | exact ⟨rfl, rfl, rfl⟩)) | (apply go_new1; (· rfl); · (simp (disch := omega) [go_sem, *, -List.reduceReplicate]; try first | rfl | exact ⟨rfl, rfl⟩ | exact ⟨rfl, rfl, rfl⟩)) | (apply go_conv; · (simp (disch := omega) [go_sem, *, -List.reduceReplicate]; try first | rfl | exact ⟨rfl, rfl⟩ | exact ⟨rfl, rfl, rfl⟩)) | ((first | (apply go_new; · rfl) | (apply go_pure; · rfl)); · (simp (disch := omega) [go_sem, *, -List.reduceReplicate]; simp [go_sem, *]; try first | rfl | exact ⟨rfl, rfl⟩)) | (apply go_condT; · (simp (disch := omega) [go_sem, *, -List.reduceReplicate]; try first | rfl | omega; done)) | (apply go_condF; · (simp (disch := omega) [go_sem, *, -List.reduceReplicate]; try first | rfl | omega; done)) | (obtain ⟨hcall, hcs⟩ := hcs; refine go_callw (hcall _) (by simp (disch := omega) [go_sem, *, -List.reduceReplicate]; try rfl) (by simp (disch := omega) [go_sem, *, -List.reduceReplicate]; repeat' first | exact ALe.nil | exact AV.le_refl _ | exact AV.le_nils | exact AV.le_own _ _ | apply ALe.cons | apply AV.sub_agg) (by simp (disch := omega) [go_sem, *, -List.reduceReplicate]) ?_; clear hcall))
    refine go_result (by simp (disch := omega) [go_sem, *, -List.reduceReplicate]; rfl) (by simp (disch := omega) [go_sem]; try rfl) (fun id hid => by simp (disch := omega) only [upd_ne, wr_cons, wr_nil]; try exact hlow id hid)
  · have hcs := And.intro (write0_spec d 0 b hd.toDvOk hb (Nat.zero_le _)) True.intro
    rw [show repS d b = writeS d 0 0 b by simp [repS, hact]]
    generalize writeS d 0 0 b = r at *
    obtain ⟨⟨x0, x1, x2, x3, x4, x5, x6, x7⟩, e⟩ := r
    obtain ⟨a0, a1, act, cap, wr_, cutAt, torn, off⟩ := d
    simp only at hact h0 h1
    subst hact
    simp only [devAV, devM, bAV] at *
    refine ACall.of_body mixed Tryd.func67 rfl (by kernel_rfl) Tryd.ntmps67 (by kernel_rfl) rfl (by simp) (by simp) (by simp) fun σ N hp hpn hk hkn hfree => ?_
    repeat (first | apply go_nil | apply go_kreg | apply go_kreg0 | apply go_kreg1 | (apply go_kregT; · (first | (simp [addT, CF, CFy, Ind, DisjF]; done) | (simp only [addT, CF, CFy, Ind]; repeat' (first | exact trivial | apply And.intro | exact Or.inl (by decide +kernel) | (refine Or.inr ⟨?_, ?_⟩ <;> (simp; try omega)))))) | apply go_then | apply go_then_exit | apply go_then_ret | apply go_blk | apply go_blk_ret | apply go_blk_here | (apply go_blk_there; · rfl) | apply go_seq | (apply go_region; · (simp only [List.length_cons, List.length_nil, Nat.reduceAdd, Nat.add_assoc]; rfl)) | apply go_skip | apply go_block | apply go_scope | apply go_label | apply go_exit | apply go_ret | (apply go_mut; (· assumption); · (simp (disch := omega) [go_sem, *, -List.reduceReplicate]; first | exact ⟨rfl, rfl⟩ | (simp [go_sem, *]; exact ⟨rfl, rfl⟩))) | (apply go_mutP; (· assumption); · (simp (disch := omega) [go_sem, *, -List.reduceReplicate]; try first | rfl | exact ⟨rfl, rfl⟩ | exact ⟨rfl, rfl, rfl⟩)) | (apply go_guard_in; (· rfl); · (simp (disch := omega) [go_sem, *, -List.reduceReplicate]; try first | rfl | omega)) | (apply go_guard_off; (· rfl); · (simp (disch := omega) [go_sem, *, -List.reduceReplicate]; try first | rfl | omega)) | (apply go_guard_no; (· rfl); · (simp (disch := omega) [go_sem, *, -List.reduceReplicate]; try rfl)) | ((first | apply go_move | apply go_assign | apply go_load | apply go_store | apply go_append | apply go_copy | apply go_copy0 | apply go_clear0 | apply go_slice3 | apply go_indexA); · (simp (disch := omega) [go_sem, *, -List.reduceReplicate]; try first | rfl | exact ⟨rfl, rfl⟩ | exact ⟨rfl, rfl, rfl⟩)) | ((first | apply go_loadv | apply go_append0 | apply go_beyond); · (simp (disch := omega) [go_sem, *, -List.reduceReplicate]; try first | rfl | exact ⟨rfl, rfl⟩ | exact ⟨rfl, rfl, rfl⟩)) | (apply go_appself; · (simp (disch := omega) [go_sem, *, -List.reduceReplicate]; try first | rfl | exact ⟨rfl, rfl⟩ | exact ⟨rfl, rfl, rfl⟩)) | ((first | (apply go_appendz; · rfl) | (apply go_new; · rfl) | (apply go_pure; · rfl)); · (simp (disch := omega) [go_sem, *, -List.reduceReplicate]; try first | rfl | exact ⟨rfl, rfl⟩ | exact ⟨rfl, rfl, rfl⟩)) | ((apply go_glob; · assumption); · (simp (disch := omega) [go_sem, *, -List.reduceReplicate]; try first | rfl | exact ⟨rfl, rfl⟩ | exact ⟨rfl, rfl, rfl⟩)) | (apply go_read1; (· rfl); · (simp (disch := omega) [go_sem, *, -List.reduceReplicate]; try first | rfl | exact ⟨rfl, rfl⟩ | exact ⟨rfl, rfl, rfl⟩)) | (apply go_rw1; (· rfl); · (simp (disch := omega) [go_sem, *, -List.reduceReplicate]; try first | rfl | exact ⟨rfl, rfl⟩ | exact ⟨rfl, rfl, rfl⟩)) | (apply go_new1; (· rfl); · (simp (disch := omega) [go_sem, *, -List.reduceReplicate]; try first | rfl | exact ⟨rfl, rfl⟩ | exact ⟨rfl, rfl, rfl⟩)) | (apply go_conv; · (simp (disch := omega) [go_sem, *, -List.reduceReplicate]; try first | rfl | exact ⟨rfl, rfl⟩ | exact ⟨rfl, rfl, rfl⟩)) | ((first | (apply go_new; · rfl) | (apply go_pure; · rfl)); · (simp (disch := omega) [go_sem, *, -List.reduceReplicate]; simp [go_sem, *]; try first | rfl | exact ⟨rfl, rfl⟩)) | (apply go_condT; · (simp (disch := omega) [go_sem, *, -List.reduceReplicate]; try first | rfl | omega; done)) | (apply go_condF; · (simp (disch := omega) [go_sem, *, -List.reduceReplicate]; try first | rfl | omega; done)) | (obtain ⟨hcall, hcs⟩ := hcs; refine go_callw (hcall _) (by simp (disch := omega) [go_sem, *, -List.reduceReplicate]; try rfl) (by simp (disch := omega) [go_sem, *, -List.reduceReplicate]; repeat' first | exact ALe.nil | exact AV.le_refl _ | exact AV.le_nils | exact AV.le_own _ _ | apply ALe.cons | apply AV.sub_agg) (by simp (disch := omega) [go_sem, *, -List.reduceReplicate]) ?_; clear hcall))
    refine go_result (by simp (disch := omega) [go_sem, *, -List.reduceReplicate]; rfl) (by simp (disch := omega) [go_sem]; try rfl) (fun id hid => by simp (disch := omega) only [upd_ne, wr_cons, wr_nil]; try exact hlow id hid)

theorem Data_spec (d : Dv) (hd : DvA d) (k : Nat) :
    ACall Tryd.prog 38 [devAV d] k [] (.slice none (d.data.map byteAV)) [] := by
  have h0 := hd.h0
  have h1 := hd.h1
  have hl : d.data.length ≤ 1000000 := by rcases hd.act with h | h <;> simp [Dv.data, Dv.area, h] <;> omega
  have hcs := And.intro (Clone_spec d.data (by omega)) True.intro
  have hdd : ∃ i : Nat, (i = 0 ∨ i = 1) ∧ d.act = i ∧ d.data = if i = 0 then d.a0 else d.a1 := by
    rcases hd.act with h | h
    · exact ⟨0, .inl rfl, h, by simp [Dv.data, Dv.area, h]⟩
    · exact ⟨1, .inr rfl, h, by simp [Dv.data, Dv.area, h]⟩
  obtain ⟨i, hi, hact, hdd⟩ := hdd
  rw [hdd]
  try rw [hdd] at hcs
  obtain ⟨a0, a1, act, cap, wr_, cutAt, torn, off⟩ := d
  clear hdd
  simp only at hact
  subst hact
  rcases hi with rfl | rfl
  all_goals
    simp only [devAV, devM, bAV, if_true, if_false, Nat.one_ne_zero, Nat.reduceEqDiff, ite_true, ite_false] at *
    refine ACall.of_body mixed Tryd.func38 rfl (by kernel_rfl) Tryd.ntmps38 (by kernel_rfl) rfl (by simp) (by simp) (by simp) fun σ N hp hpn hk hkn hfree => ?_
    repeat (first | apply go_nil | apply go_kreg | apply go_kreg0 | apply go_kreg1 | (apply go_kregT; · (first | (simp [addT, CF, CFy, Ind, DisjF]; done) | (simp only [addT, CF, CFy, Ind]; repeat' (first | exact trivial | apply And.intro | exact Or.inl (by decide +kernel) | (refine Or.inr ⟨?_, ?_⟩ <;> (simp; try omega)))))) | apply go_then | apply go_then_exit | apply go_then_ret | apply go_blk | apply go_blk_ret | apply go_blk_here | (apply go_blk_there; · rfl) | apply go_seq | (apply go_region; · (simp only [List.length_cons, List.length_nil, Nat.reduceAdd, Nat.add_assoc]; rfl)) | apply go_skip | apply go_block | apply go_scope | apply go_label | apply go_exit | apply go_ret | (apply go_mut; (· assumption); · (simp (disch := omega) [go_sem, *, -List.reduceReplicate]; first | exact ⟨rfl, rfl⟩ | (simp [go_sem, *]; exact ⟨rfl, rfl⟩))) | (apply go_mutP; (· assumption); · (simp (disch := omega) [go_sem, *, -List.reduceReplicate]; try first | rfl | exact ⟨rfl, rfl⟩ | exact ⟨rfl, rfl, rfl⟩)) | (apply go_guard_in; (· rfl); · (simp (disch := omega) [go_sem, *, -List.reduceReplicate]; try first | rfl | omega)) | (apply go_guard_off; (· rfl); · (simp (disch := omega) [go_sem, *, -List.reduceReplicate]; try first | rfl | omega)) | (apply go_guard_no; (· rfl); · (simp (disch := omega) [go_sem, *, -List.reduceReplicate]; try rfl)) | ((first | apply go_move | apply go_assign | apply go_load | apply go_store | apply go_append | apply go_copy | apply go_copy0 | apply go_clear0 | apply go_slice3 | apply go_indexA); · (simp (disch := omega) [go_sem, *, -List.reduceReplicate]; try first | rfl | exact ⟨rfl, rfl⟩ | exact ⟨rfl, rfl, rfl⟩)) | ((first | apply go_loadv | apply go_append0 | apply go_beyond); · (simp (disch := omega) [go_sem, *, -List.reduceReplicate]; try first | rfl | exact ⟨rfl, rfl⟩ | exact ⟨rfl, rfl, rfl⟩)) | (apply go_appself; · (simp (disch := omega) [go_sem, *, -List.reduceReplicate]; try first | rfl | exact ⟨rfl, rfl⟩ | exact ⟨rfl, rfl, rfl⟩)) | ((first | (apply go_appendz; · rfl) | (apply go_new; · rfl) | (apply go_pure; · rfl)); · (simp (disch := omega) [go_sem, *, -List.reduceReplicate]; try first | rfl | exact ⟨rfl, rfl⟩ | exact ⟨rfl, rfl, rfl⟩)) | ((apply go_glob; · assumption); · (simp (disch := omega) [go_sem, *, -List.reduceReplicate]; try first | rfl | exact ⟨rfl, rfl⟩ | exact ⟨rfl, rfl, rfl⟩)) | (apply go_read1; (· rfl); · (simp (disch := omega) [go_sem, *, -List.reduceReplicate]; try first | rfl | exact ⟨rfl, rfl⟩ | exact ⟨rfl, rfl, rfl⟩)) | (apply go_rw1; (· rfl); · (simp (disch := omega) [go_sem, *, -List.reduceReplicate]; try first | rfl | exact ⟨rfl, rfl⟩ | exact ⟨rfl, rfl, rfl⟩)) | (apply go_new1; (· rfl); · (simp (disch := omega) [go_sem, *, -List.reduceReplicate]; try first | rfl | exact ⟨rfl, rfl⟩ | exact ⟨rfl, rfl, rfl⟩)) | (apply go_conv; · (simp (disch := omega) [go_sem, *, -List.reduceReplicate]; try first | rfl | exact ⟨rfl, rfl⟩ | exact ⟨rfl, rfl, rfl⟩)) | ((first | (apply go_new; · rfl) | (apply go_pure; · rfl)); · (simp (disch := omega) [go_sem, *, -List.reduceReplicate]; simp [go_sem, *]; try first | rfl | exact ⟨rfl, rfl⟩)) | (apply go_condT; · (simp (disch := omega) [go_sem, *, -List.reduceReplicate]; try first | rfl | omega; done)) | (apply go_condF; · (simp (disch := omega) [go_sem, *, -List.reduceReplicate]; try first | rfl | omega; done)) | (obtain ⟨hcall, hcs⟩ := hcs; refine go_callw (hcall _) (by simp (disch := omega) [go_sem, *, -List.reduceReplicate]; try rfl) (by simp (disch := omega) [go_sem, *, -List.reduceReplicate]; repeat' first | exact ALe.nil | exact AV.le_refl _ | exact AV.le_nils | exact AV.le_own _ _ | apply ALe.cons | apply AV.sub_agg) (by simp (disch := omega) [go_sem, *, -List.reduceReplicate]) ?_; clear hcall))
    refine go_result (by simp (disch := omega) [go_sem, *, -List.reduceReplicate]; rfl) (by simp (disch := omega) [go_sem]; try rfl) (fun id hid => by simp (disch := omega) only [upd_ne, wr_cons, wr_nil]; try exact hlow id hid)

theorem rData_spec (d : Dv) (hd : DvA d) (k : Nat) :
    ACall Tryd.prog 27 [devAV d] k [] (.slice none (d.data.map byteAV)) [] := by
  have e0 : bits .and .i64 0 1 = 0 := by decide
  have e1 : bits .and .i64 1 1 = 1 := by decide
  have hdd : ∃ i : Nat, (i = 0 ∨ i = 1) ∧ d.act = i ∧ d.data = if i = 0 then d.a0 else d.a1 := by
    rcases hd.act with h | h
    · exact ⟨0, .inl rfl, h, by simp [Dv.data, Dv.area, h]⟩
    · exact ⟨1, .inr rfl, h, by simp [Dv.data, Dv.area, h]⟩
  obtain ⟨i, hi, hact, hdd⟩ := hdd
  rw [hdd]
  try rw [hdd] at hcs
  obtain ⟨a0, a1, act, cap, wr_, cutAt, torn, off⟩ := d
  clear hdd
  simp only at hact
  subst hact
  rcases hi with rfl | rfl
  all_goals
    simp only [devAV, devM, bAV, if_true, if_false, Nat.one_ne_zero, Nat.reduceEqDiff, ite_true, ite_false] at *
    refine ACall.of_body mixed Tryd.func27 rfl (by kernel_rfl) Tryd.ntmps27 (by kernel_rfl) rfl (by simp) (by simp) (by simp) fun σ N hp hpn hk hkn hfree => ?_
    repeat (first | apply go_nil | apply go_kreg | apply go_kreg0 | apply go_kreg1 | (apply go_kregT; · (first | (simp [addT, CF, CFy, Ind, DisjF]; done) | (simp only [addT, CF, CFy, Ind]; repeat' (first | exact trivial | apply And.intro | exact Or.inl (by decide +kernel) | (refine Or.inr ⟨?_, ?_⟩ <;> (simp; try omega)))))) | apply go_then | apply go_then_exit | apply go_then_ret | apply go_blk | apply go_blk_ret | apply go_blk_here | (apply go_blk_there; · rfl) | apply go_seq | (apply go_region; · (simp only [List.length_cons, List.length_nil, Nat.reduceAdd, Nat.add_assoc]; rfl)) | apply go_skip | apply go_block | apply go_scope | apply go_label | apply go_exit | apply go_ret | (apply go_mut; (· assumption); · (simp (disch := omega) [go_sem, *, -List.reduceReplicate]; first | exact ⟨rfl, rfl⟩ | (simp [go_sem, *]; exact ⟨rfl, rfl⟩))) | (apply go_mutP; (· assumption); · (simp (disch := omega) [go_sem, *, -List.reduceReplicate]; try first | rfl | exact ⟨rfl, rfl⟩ | exact ⟨rfl, rfl, rfl⟩)) | (apply go_guard_in; (· rfl); · (simp (disch := omega) [go_sem, *, -List.reduceReplicate]; try first | rfl | omega)) | (apply go_guard_off; (· rfl); · (simp (disch := omega) [go_sem, *, -List.reduceReplicate]; try first | rfl | omega)) | (apply go_guard_no; (· rfl); · (simp (disch := omega) [go_sem, *, -List.reduceReplicate]; try rfl)) | ((first | apply go_move | apply go_assign | apply go_load | apply go_store | apply go_append | apply go_copy | apply go_copy0 | apply go_clear0 | apply go_slice3 | apply go_indexA); · (simp (disch := omega) [go_sem, *, -List.reduceReplicate]; try first | rfl | exact ⟨rfl, rfl⟩ | exact ⟨rfl, rfl, rfl⟩)) | ((first | apply go_loadv | apply go_append0 | apply go_beyond); · (simp (disch := omega) [go_sem, *, -List.reduceReplicate]; try first | rfl | exact ⟨rfl, rfl⟩ | exact ⟨rfl, rfl, rfl⟩)) | (apply go_appself; · (simp (disch := omega) [go_sem, *, -List.reduceReplicate]; try first | rfl | exact ⟨rfl, rfl⟩ | exact ⟨rfl, rfl, rfl⟩)) | ((first | (apply go_appendz; · rfl) | (apply go_new; · rfl) | (apply go_pure; · rfl)); · (simp (disch := omega) [go_sem, *, -List.reduceReplicate]; try first | rfl | exact ⟨rfl, rfl⟩ | exact ⟨rfl, rfl, rfl⟩)) | ((apply go_glob; · assumption); · (simp (disch := omega) [go_sem, *, -List.reduceReplicate]; try first | rfl | exact ⟨rfl, rfl⟩ | exact ⟨rfl, rfl, rfl⟩)) | (apply go_read1; (· rfl); · (simp (disch := omega) [go_sem, *, -List.reduceReplicate]; try first | rfl | exact ⟨rfl, rfl⟩ | exact ⟨rfl, rfl, rfl⟩)) | (apply go_rw1; (· rfl); · (simp (disch := omega) [go_sem, *, -List.reduceReplicate]; try first | rfl | exact ⟨rfl, rfl⟩ | exact ⟨rfl, rfl, rfl⟩)) | (apply go_new1; (· rfl); · (simp (disch := omega) [go_sem, *, -List.reduceReplicate]; try first | rfl | exact ⟨rfl, rfl⟩ | exact ⟨rfl, rfl, rfl⟩)) | (apply go_conv; · (simp (disch := omega) [go_sem, *, -List.reduceReplicate]; try first | rfl | exact ⟨rfl, rfl⟩ | exact ⟨rfl, rfl, rfl⟩)) | ((first | (apply go_new; · rfl) | (apply go_pure; · rfl)); · (simp (disch := omega) [go_sem, *, -List.reduceReplicate]; simp [go_sem, *]; try first | rfl | exact ⟨rfl, rfl⟩)) | (apply go_condT; · (simp (disch := omega) [go_sem, *, -List.reduceReplicate]; try first | rfl | omega; done)) | (apply go_condF; · (simp (disch := omega) [go_sem, *, -List.reduceReplicate]; try first | rfl | omega; done)) | (obtain ⟨hcall, hcs⟩ := hcs; refine go_callw (hcall _) (by simp (disch := omega) [go_sem, *, -List.reduceReplicate]; try rfl) (by simp (disch := omega) [go_sem, *, -List.reduceReplicate]; repeat' first | exact ALe.nil | exact AV.le_refl _ | exact AV.le_nils | exact AV.le_own _ _ | apply ALe.cons | apply AV.sub_agg) (by simp (disch := omega) [go_sem, *, -List.reduceReplicate]) ?_; clear hcall))
    refine go_result (by simp (disch := omega) [go_sem, *, -List.reduceReplicate]; rfl) (by simp (disch := omega) [go_sem]; try rfl) (fun id hid => by simp (disch := omega) only [upd_ne, wr_cons, wr_nil]; try exact hlow id hid)

theorem Cut_spec (d : Dv) (torn : Int) (hd : DvOk d) (k : Nat) :
    ACall Tryd.prog 36 [devAV d, .lit (.int .i64 torn)] k [] (devAV (cutS d torn)) [] := by
  have hcs := And.intro (Copied_spec d hd.h0 hd.h1) True.intro
  obtain ⟨a0, a1, act, cap, wr_, cutAt, torn0, off⟩ := d
  obtain ⟨h0, h1, hw0, hw1⟩ := hd
  simp only at h0 h1 hw0 hw1
  simp only [devAV, devM, bAV, cutS] at *
  refine ACall.of_body mixed Tryd.func36 rfl (by kernel_rfl) Tryd.ntmps36 (by kernel_rfl) rfl (by simp) (by simp) (by simp) fun σ N hp hpn hk hkn hfree => ?_
  repeat (first | apply go_nil | apply go_kreg | apply go_kreg0 | apply go_kreg1 | (apply go_kregT; · (first | (simp [addT, CF, CFy, Ind, DisjF]; done) | (simp only [addT, CF, CFy, Ind]; repeat' (first | exact trivial | apply And.intro | exact Or.inl (by decide +kernel) | (refine Or.inr ⟨?_, ?_⟩ <;> (simp; try omega)))))) | apply go_then | apply go_then_exit | apply go_then_ret | apply go_blk | apply go_blk_ret | apply go_blk_here | (apply go_blk_there; · rfl) | apply go_seq | (apply go_region; · (simp only [List.length_cons, List.length_nil, Nat.reduceAdd, Nat.add_assoc]; rfl)) | apply go_skip | apply go_block | apply go_scope | apply go_label | apply go_exit | apply go_ret | (apply go_mut; (· assumption); · (simp (disch := omega) [go_sem, *, -List.reduceReplicate]; first | exact ⟨rfl, rfl⟩ | (simp [go_sem, *]; exact ⟨rfl, rfl⟩))) | (apply go_mutP; (· assumption); · (simp (disch := omega) [go_sem, *, -List.reduceReplicate]; try first | rfl | exact ⟨rfl, rfl⟩ | exact ⟨rfl, rfl, rfl⟩)) | (apply go_guard_in; (· rfl); · (simp (disch := omega) [go_sem, *, -List.reduceReplicate]; try first | rfl | omega)) | (apply go_guard_off; (· rfl); · (simp (disch := omega) [go_sem, *, -List.reduceReplicate]; try first | rfl | omega)) | (apply go_guard_no; (· rfl); · (simp (disch := omega) [go_sem, *, -List.reduceReplicate]; try rfl)) | ((first | apply go_move | apply go_assign | apply go_load | apply go_store | apply go_append | apply go_copy | apply go_copy0 | apply go_clear0 | apply go_slice3 | apply go_indexA); · (simp (disch := omega) [go_sem, *, -List.reduceReplicate]; try first | rfl | exact ⟨rfl, rfl⟩ | exact ⟨rfl, rfl, rfl⟩)) | ((first | apply go_loadv | apply go_append0 | apply go_beyond); · (simp (disch := omega) [go_sem, *, -List.reduceReplicate]; try first | rfl | exact ⟨rfl, rfl⟩ | exact ⟨rfl, rfl, rfl⟩)) | (apply go_appself; · (simp (disch := omega) [go_sem, *, -List.reduceReplicate]; try first | rfl | exact ⟨rfl, rfl⟩ | exact ⟨rfl, rfl, rfl⟩)) | ((first | (apply go_appendz; · rfl) | (apply go_new; · rfl) | (apply go_pure; · rfl)); · (simp (disch := omega) [go_sem, *, -List.reduceReplicate]; try first | rfl | exact ⟨rfl, rfl⟩ | exact ⟨rfl, rfl, rfl⟩)) | ((apply go_glob; · assumption); · (simp (disch := omega) [go_sem, *, -List.reduceReplicate]; try first | rfl | exact ⟨rfl, rfl⟩ | exact ⟨rfl, rfl, rfl⟩)) | (apply go_read1; (· rfl); · (simp (disch := omega) [go_sem, *, -List.reduceReplicate]; try first | rfl | exact ⟨rfl, rfl⟩ | exact ⟨rfl, rfl, rfl⟩)) | (apply go_rw1; (· rfl); · (simp (disch := omega) [go_sem, *, -List.reduceReplicate]; try first | rfl | exact ⟨rfl, rfl⟩ | exact ⟨rfl, rfl, rfl⟩)) | (apply go_new1; (· rfl); · (simp (disch := omega) [go_sem, *, -List.reduceReplicate]; try first | rfl | exact ⟨rfl, rfl⟩ | exact ⟨rfl, rfl, rfl⟩)) | (apply go_conv; · (simp (disch := omega) [go_sem, *, -List.reduceReplicate]; try first | rfl | exact ⟨rfl, rfl⟩ | exact ⟨rfl, rfl, rfl⟩)) | ((first | (apply go_new; · rfl) | (apply go_pure; · rfl)); · (simp (disch := omega) [go_sem, *, -List.reduceReplicate]; simp [go_sem, *]; try first | rfl | exact ⟨rfl, rfl⟩)) | (apply go_condT; · (simp (disch := omega) [go_sem, *, -List.reduceReplicate]; try first | rfl | omega; done)) | (apply go_condF; · (simp (disch := omega) [go_sem, *, -List.reduceReplicate]; try first | rfl | omega; done)) | (obtain ⟨hcall, hcs⟩ := hcs; refine go_callw (hcall _) (by simp (disch := omega) [go_sem, *, -List.reduceReplicate]; try rfl) (by simp (disch := omega) [go_sem, *, -List.reduceReplicate]; repeat' first | exact ALe.nil | exact AV.le_refl _ | exact AV.le_nils | exact AV.le_own _ _ | apply ALe.cons | apply AV.sub_agg) (by simp (disch := omega) [go_sem, *, -List.reduceReplicate]) ?_; clear hcall))
  refine go_result (by simp (disch := omega) [go_sem, *, -List.reduceReplicate]; rfl) (by simp (disch := omega) [go_sem]; try rfl) (fun id hid => by simp (disch := omega) only [upd_ne, wr_cons, wr_nil]; try exact hlow id hid)
theorem rCut_spec (d : Dv) (torn : Int) (hd : DvOk d) (k : Nat) :
    ACall Tryd.prog 39 [devAV d, .lit (.int .i64 torn)] k [] (devAV (cutS d torn)) [] := by
  obtain ⟨a0, a1, act, cap, wr_, cutAt, torn0, off⟩ := d
  obtain ⟨h0, h1, hw0, hw1⟩ := hd
  simp only at h0 h1 hw0 hw1
  simp only [devAV, devM, bAV, cutS] at *
  refine ACall.of_body mixed Tryd.func39 rfl (by kernel_rfl) Tryd.ntmps39 (by kernel_rfl) rfl (by simp) (by simp) (by simp) fun σ N hp hpn hk hkn hfree => ?_
  repeat (first | apply go_nil | apply go_kreg | apply go_kreg0 | apply go_kreg1 | (apply go_kregT; · (first | (simp [addT, CF, CFy, Ind, DisjF]; done) | (simp only [addT, CF, CFy, Ind]; repeat' (first | exact trivial | apply And.intro | exact Or.inl (by decide +kernel) | (refine Or.inr ⟨?_, ?_⟩ <;> (simp; try omega)))))) | apply go_then | apply go_then_exit | apply go_then_ret | apply go_blk | apply go_blk_ret | apply go_blk_here | (apply go_blk_there; · rfl) | apply go_seq | (apply go_region; · (simp only [List.length_cons, List.length_nil, Nat.reduceAdd, Nat.add_assoc]; rfl)) | apply go_skip | apply go_block | apply go_scope | apply go_label | apply go_exit | apply go_ret | (apply go_mut; (· assumption); · (simp (disch := omega) [go_sem, *, -List.reduceReplicate]; first | exact ⟨rfl, rfl⟩ | (simp [go_sem, *]; exact ⟨rfl, rfl⟩))) | (apply go_mutP; (· assumption); · (simp (disch := omega) [go_sem, *, -List.reduceReplicate]; try first | rfl | exact ⟨rfl, rfl⟩ | exact ⟨rfl, rfl, rfl⟩)) | (apply go_guard_in; (· rfl); · (simp (disch := omega) [go_sem, *, -List.reduceReplicate]; try first | rfl | omega)) | (apply go_guard_off; (· rfl); · (simp (disch := omega) [go_sem, *, -List.reduceReplicate]; try first | rfl | omega)) | (apply go_guard_no; (· rfl); · (simp (disch := omega) [go_sem, *, -List.reduceReplicate]; try rfl)) | ((first | apply go_move | apply go_assign | apply go_load | apply go_store | apply go_append | apply go_copy | apply go_copy0 | apply go_clear0 | apply go_slice3 | apply go_indexA); · (simp (disch := omega) [go_sem, *, -List.reduceReplicate]; try first | rfl | exact ⟨rfl, rfl⟩ | exact ⟨rfl, rfl, rfl⟩)) | ((first | apply go_loadv | apply go_append0 | apply go_beyond); · (simp (disch := omega) [go_sem, *, -List.reduceReplicate]; try first | rfl | exact ⟨rfl, rfl⟩ | exact ⟨rfl, rfl, rfl⟩)) | (apply go_appself; · (simp (disch := omega) [go_sem, *, -List.reduceReplicate]; try first | rfl | exact ⟨rfl, rfl⟩ | exact ⟨rfl, rfl, rfl⟩)) | ((first | (apply go_appendz; · rfl) | (apply go_new; · rfl) | (apply go_pure; · rfl)); · (simp (disch := omega) [go_sem, *, -List.reduceReplicate]; try first | rfl | exact ⟨rfl, rfl⟩ | exact ⟨rfl, rfl, rfl⟩)) | ((apply go_glob; · assumption); · (simp (disch := omega) [go_sem, *, -List.reduceReplicate]; try first | rfl | exact ⟨rfl, rfl⟩ | exact ⟨rfl, rfl, rfl⟩)) | (apply go_read1; (· rfl); · (simp (disch := omega) [go_sem, *, -List.reduceReplicate]; try first | rfl | exact ⟨rfl, rfl⟩ | exact ⟨rfl, rfl, rfl⟩)) | (apply go_rw1; (· rfl); · (simp (disch := omega) [go_sem, *, -List.reduceReplicate]; try first | rfl | exact ⟨rfl, rfl⟩ | exact ⟨rfl, rfl, rfl⟩)) | (apply go_new1; (· rfl); · (simp (disch := omega) [go_sem, *, -List.reduceReplicate]; try first | rfl | exact ⟨rfl, rfl⟩ | exact ⟨rfl, rfl, rfl⟩)) | (apply go_conv; · (simp (disch := omega) [go_sem, *, -List.reduceReplicate]; try first | rfl | exact ⟨rfl, rfl⟩ | exact ⟨rfl, rfl, rfl⟩)) | ((first | (apply go_new; · rfl) | (apply go_pure; · rfl)); · (simp (disch := omega) [go_sem, *, -List.reduceReplicate]; simp [go_sem, *]; try first | rfl | exact ⟨rfl, rfl⟩)) | (apply go_condT; · (simp (disch := omega) [go_sem, *, -List.reduceReplicate]; try first | rfl | omega; done)) | (apply go_condF; · (simp (disch := omega) [go_sem, *, -List.reduceReplicate]; try first | rfl | omega; done)) | (obtain ⟨hcall, hcs⟩ := hcs; refine go_callw (hcall _) (by simp (disch := omega) [go_sem, *, -List.reduceReplicate]; try rfl) (by simp (disch := omega) [go_sem, *, -List.reduceReplicate]; repeat' first | exact ALe.nil | exact AV.le_refl _ | exact AV.le_nils | exact AV.le_own _ _ | apply ALe.cons | apply AV.sub_agg) (by simp (disch := omega) [go_sem, *, -List.reduceReplicate]) ?_; clear hcall))
  refine go_result (by simp (disch := omega) [go_sem, *, -List.reduceReplicate]; rfl) (by simp (disch := omega) [go_sem]; try rfl) (fun id hid => by simp (disch := omega) only [upd_ne, wr_cons, wr_nil]; try exact hlow id hid)
theorem Restart_spec (d : Dv) (hd : DvOk d) (k : Nat) :
    ACall Tryd.prog 65 [devAV d] k [] (devAV (resS d)) [] := by
  have hcs := And.intro (Copied_spec d hd.h0 hd.h1) True.intro
  obtain ⟨a0, a1, act, cap, wr_, cutAt, torn0, off⟩ := d
  simp only [devAV, devM, bAV, resS] at *
  refine ACall.of_body mixed Tryd.func65 rfl (by kernel_rfl) Tryd.ntmps65 (by kernel_rfl) rfl (by simp) (by simp) (by simp) fun σ N hp hpn hk hkn hfree => ?_
  repeat (first | apply go_nil | apply go_kreg | apply go_kreg0 | apply go_kreg1 | (apply go_kregT; · (first | (simp [addT, CF, CFy, Ind, DisjF]; done) | (simp only [addT, CF, CFy, Ind]; repeat' (first | exact trivial | apply And.intro | exact Or.inl (by decide +kernel) | (refine Or.inr ⟨?_, ?_⟩ <;> (simp; try omega)))))) | apply go_then | apply go_then_exit | apply go_then_ret | apply go_blk | apply go_blk_ret | apply go_blk_here | (apply go_blk_there; · rfl) | apply go_seq | (apply go_region; · (simp only [List.length_cons, List.length_nil, Nat.reduceAdd, Nat.add_assoc]; rfl)) | apply go_skip | apply go_block | apply go_scope | apply go_label | apply go_exit | apply go_ret | (apply go_mut; (· assumption); · (simp (disch := omega) [go_sem, *, -List.reduceReplicate]; first | exact ⟨rfl, rfl⟩ | (simp [go_sem, *]; exact ⟨rfl, rfl⟩))) | (apply go_mutP; (· assumption); · (simp (disch := omega) [go_sem, *, -List.reduceReplicate]; try first | rfl | exact ⟨rfl, rfl⟩ | exact ⟨rfl, rfl, rfl⟩)) | (apply go_guard_in; (· rfl); · (simp (disch := omega) [go_sem, *, -List.reduceReplicate]; try first | rfl | omega)) | (apply go_guard_off; (· rfl); · (simp (disch := omega) [go_sem, *, -List.reduceReplicate]; try first | rfl | omega)) | (apply go_guard_no; (· rfl); · (simp (disch := omega) [go_sem, *, -List.reduceReplicate]; try rfl)) | ((first | apply go_move | apply go_assign | apply go_load | apply go_store | apply go_append | apply go_copy | apply go_copy0 | apply go_clear0 | apply go_slice3 | apply go_indexA); · (simp (disch := omega) [go_sem, *, -List.reduceReplicate]; try first | rfl | exact ⟨rfl, rfl⟩ | exact ⟨rfl, rfl, rfl⟩)) | ((first | apply go_loadv | apply go_append0 | apply go_beyond); · (simp (disch := omega) [go_sem, *, -List.reduceReplicate]; try first | rfl | exact ⟨rfl, rfl⟩ | exact ⟨rfl, rfl, rfl⟩)) | (apply go_appself; · (simp (disch := omega) [go_sem, *, -List.reduceReplicate]; try first | rfl | exact ⟨rfl, rfl⟩ | exact ⟨rfl, rfl, rfl⟩)) | ((first | (apply go_appendz; · rfl) | (apply go_new; · rfl) | (apply go_pure; · rfl)); · (simp (disch := omega) [go_sem, *, -List.reduceReplicate]; try first | rfl | exact ⟨rfl, rfl⟩ | exact ⟨rfl, rfl, rfl⟩)) | ((apply go_glob; · assumption); · (simp (disch := omega) [go_sem, *, -List.reduceReplicate]; try first | rfl | exact ⟨rfl, rfl⟩ | exact ⟨rfl, rfl, rfl⟩)) | (apply go_read1; (· rfl); · (simp (disch := omega) [go_sem, *, -List.reduceReplicate]; try first | rfl | exact ⟨rfl, rfl⟩ | exact ⟨rfl, rfl, rfl⟩)) | (apply go_rw1; (· rfl); · (simp (disch := omega) [go_sem, *, -List.reduceReplicate]; try first | rfl | exact ⟨rfl, rfl⟩ | exact ⟨rfl, rfl, rfl⟩)) | (apply go_new1; (· rfl); · (simp (disch := omega) [go_sem, *, -List.reduceReplicate]; try first | rfl | exact ⟨rfl, rfl⟩ | exact ⟨rfl, rfl, rfl⟩)) | (apply go_conv; · (simp (disch := omega) [go_sem, *, -List.reduceReplicate]; try first | rfl | exact ⟨rfl, rfl⟩ | exact ⟨rfl, rfl, rfl⟩)) | ((first | (apply go_new; · rfl) | (apply go_pure; · rfl)); · (simp (disch := omega) [go_sem, *, -List.reduceReplicate]; simp [go_sem, *]; try first | rfl | exact ⟨rfl, rfl⟩)) | (apply go_condT; · (simp (disch := omega) [go_sem, *, -List.reduceReplicate]; try first | rfl | omega; done)) | (apply go_condF; · (simp (disch := omega) [go_sem, *, -List.reduceReplicate]; try first | rfl | omega; done)) | (obtain ⟨hcall, hcs⟩ := hcs; refine go_callw (hcall _) (by simp (disch := omega) [go_sem, *, -List.reduceReplicate]; try rfl) (by simp (disch := omega) [go_sem, *, -List.reduceReplicate]; repeat' first | exact ALe.nil | exact AV.le_refl _ | exact AV.le_nils | exact AV.le_own _ _ | apply ALe.cons | apply AV.sub_agg) (by simp (disch := omega) [go_sem, *, -List.reduceReplicate]) ?_; clear hcall))
  refine go_result (by simp (disch := omega) [go_sem, *, -List.reduceReplicate]; rfl) (by simp (disch := omega) [go_sem]; try rfl) (fun id hid => by simp (disch := omega) only [upd_ne, wr_cons, wr_nil]; try exact hlow id hid)
theorem rRestart_spec (d : Dv) (k : Nat) :
    ACall Tryd.prog 40 [devAV d] k [] (devAV (resS d)) [] := by
  obtain ⟨a0, a1, act, cap, wr_, cutAt, torn0, off⟩ := d
  simp only [devAV, devM, bAV, resS] at *
  refine ACall.of_body mixed Tryd.func40 rfl (by kernel_rfl) Tryd.ntmps40 (by kernel_rfl) rfl (by simp) (by simp) (by simp) fun σ N hp hpn hk hkn hfree => ?_
  repeat (first | apply go_nil | apply go_kreg | apply go_kreg0 | apply go_kreg1 | (apply go_kregT; · (first | (simp [addT, CF, CFy, Ind, DisjF]; done) | (simp only [addT, CF, CFy, Ind]; repeat' (first | exact trivial | apply And.intro | exact Or.inl (by decide +kernel) | (refine Or.inr ⟨?_, ?_⟩ <;> (simp; try omega)))))) | apply go_then | apply go_then_exit | apply go_then_ret | apply go_blk | apply go_blk_ret | apply go_blk_here | (apply go_blk_there; · rfl) | apply go_seq | (apply go_region; · (simp only [List.length_cons, List.length_nil, Nat.reduceAdd, Nat.add_assoc]; rfl)) | apply go_skip | apply go_block | apply go_scope | apply go_label | apply go_exit | apply go_ret | (apply go_mut; (· assumption); · (simp (disch := omega) [go_sem, *, -List.reduceReplicate]; first | exact ⟨rfl, rfl⟩ | (simp [go_sem, *]; exact ⟨rfl, rfl⟩))) | (apply go_mutP; (· assumption); · (simp (disch := omega) [go_sem, *, -List.reduceReplicate]; try first | rfl | exact ⟨rfl, rfl⟩ | exact ⟨rfl, rfl, rfl⟩)) | (apply go_guard_in; (· rfl); · (simp (disch := omega) [go_sem, *, -List.reduceReplicate]; try first | rfl | omega)) | (apply go_guard_off; (· rfl); · (simp (disch := omega) [go_sem, *, -List.reduceReplicate]; try first | rfl | omega)) | (apply go_guard_no; (· rfl); · (simp (disch := omega) [go_sem, *, -List.reduceReplicate]; try rfl)) | ((first | apply go_move | apply go_assign | apply go_load | apply go_store | apply go_append | apply go_copy | apply go_copy0 | apply go_clear0 | apply go_slice3 | apply go_indexA); · (simp (disch := omega) [go_sem, *, -List.reduceReplicate]; try first | rfl | exact ⟨rfl, rfl⟩ | exact ⟨rfl, rfl, rfl⟩)) | ((first | apply go_loadv | apply go_append0 | apply go_beyond); · (simp (disch := omega) [go_sem, *, -List.reduceReplicate]; try first | rfl | exact ⟨rfl, rfl⟩ | exact ⟨rfl, rfl, rfl⟩)) | (apply go_appself; · (simp (disch := omega) [go_sem, *, -List.reduceReplicate]; try first | rfl | exact ⟨rfl, rfl⟩ | exact ⟨rfl, rfl, rfl⟩)) | ((first | (apply go_appendz; · rfl) | (apply go_new; · rfl) | (apply go_pure; · rfl)); · (simp (disch := omega) [go_sem, *, -List.reduceReplicate]; try first | rfl | exact ⟨rfl, rfl⟩ | exact ⟨rfl, rfl, rfl⟩)) | ((apply go_glob; · assumption); · (simp (disch := omega) [go_sem, *, -List.reduceReplicate]; try first | rfl | exact ⟨rfl, rfl⟩ | exact ⟨rfl, rfl, rfl⟩)) | (apply go_read1; (· rfl); · (simp (disch := omega) [go_sem, *, -List.reduceReplicate]; try first | rfl | exact ⟨rfl, rfl⟩ | exact ⟨rfl, rfl, rfl⟩)) | (apply go_rw1; (· rfl); · (simp (disch := omega) [go_sem, *, -List.reduceReplicate]; try first | rfl | exact ⟨rfl, rfl⟩ | exact ⟨rfl, rfl, rfl⟩)) | (apply go_new1; (· rfl); · (simp (disch := omega) [go_sem, *, -List.reduceReplicate]; try first | rfl | exact ⟨rfl, rfl⟩ | exact ⟨rfl, rfl, rfl⟩)) | (apply go_conv; · (simp (disch := omega) [go_sem, *, -List.reduceReplicate]; try first | rfl | exact ⟨rfl, rfl⟩ | exact ⟨rfl, rfl, rfl⟩)) | ((first | (apply go_new; · rfl) | (apply go_pure; · rfl)); · (simp (disch := omega) [go_sem, *, -List.reduceReplicate]; simp [go_sem, *]; try first | rfl | exact ⟨rfl, rfl⟩)) | (apply go_condT; · (simp (disch := omega) [go_sem, *, -List.reduceReplicate]; try first | rfl | omega; done)) | (apply go_condF; · (simp (disch := omega) [go_sem, *, -List.reduceReplicate]; try first | rfl | omega; done)) | (obtain ⟨hcall, hcs⟩ := hcs; refine go_callw (hcall _) (by simp (disch := omega) [go_sem, *, -List.reduceReplicate]; try rfl) (by simp (disch := omega) [go_sem, *, -List.reduceReplicate]; repeat' first | exact ALe.nil | exact AV.le_refl _ | exact AV.le_nils | exact AV.le_own _ _ | apply ALe.cons | apply AV.sub_agg) (by simp (disch := omega) [go_sem, *, -List.reduceReplicate]) ?_; clear hcall))
  refine go_result (by simp (disch := omega) [go_sem, *, -List.reduceReplicate]; rfl) (by simp (disch := omega) [go_sem]; try rfl) (fun id hid => by simp (disch := omega) only [upd_ne, wr_cons, wr_nil]; try exact hlow id hid)

theorem New_ref (c : Int) (k : Nat) :
    ACall Tryd.prog 33 [.lit (.int .i64 c)] k [] (.tup [devAV (newS c).1, .lit (.int .i64 (newS c).2)]) [] := by
  unfold newS
  by_cases h1 : c < 0
  · rw [if_pos (.inl h1)]
    simp only [devAV, devM, bAV]
    refine ACall.of_body mixed Tryd.func33 rfl (by kernel_rfl) Tryd.ntmps33 (by kernel_rfl) rfl (by simp) (by simp) (by simp) fun σ N hp hpn hk hkn hfree => ?_
    repeat (first | apply go_nil | apply go_kreg | apply go_kreg0 | apply go_kreg1 | (apply go_kregT; · (first | (simp [addT, CF, CFy, Ind, DisjF]; done) | (simp only [addT, CF, CFy, Ind]; repeat' (first | exact trivial | apply And.intro | exact Or.inl (by decide +kernel) | (refine Or.inr ⟨?_, ?_⟩ <;> (simp; try omega)))))) | apply go_then | apply go_then_exit | apply go_then_ret | apply go_blk | apply go_blk_ret | apply go_blk_here | (apply go_blk_there; · rfl) | apply go_seq | (apply go_region; · (simp only [List.length_cons, List.length_nil, Nat.reduceAdd, Nat.add_assoc]; rfl)) | apply go_skip | apply go_block | apply go_scope | apply go_label | apply go_exit | apply go_ret | (apply go_mut; (· assumption); · (simp (disch := omega) [go_sem, *, -List.reduceReplicate]; first | exact ⟨rfl, rfl⟩ | (simp [go_sem, *]; exact ⟨rfl, rfl⟩))) | (apply go_mutP; (· assumption); · (simp (disch := omega) [go_sem, *, -List.reduceReplicate]; try first | rfl | exact ⟨rfl, rfl⟩ | exact ⟨rfl, rfl, rfl⟩)) | (apply go_guard_in; (· rfl); · (simp (disch := omega) [go_sem, *, -List.reduceReplicate]; try first | rfl | omega)) | (apply go_guard_off; (· rfl); · (simp (disch := omega) [go_sem, *, -List.reduceReplicate]; try first | rfl | omega)) | (apply go_guard_no; (· rfl); · (simp (disch := omega) [go_sem, *, -List.reduceReplicate]; try rfl)) | ((first | apply go_move | apply go_assign | apply go_load | apply go_store | apply go_append | apply go_copy | apply go_copy0 | apply go_clear0 | apply go_slice3 | apply go_indexA); · (simp (disch := omega) [go_sem, *, -List.reduceReplicate]; try first | rfl | exact ⟨rfl, rfl⟩ | exact ⟨rfl, rfl, rfl⟩)) | ((first | apply go_loadv | apply go_append0 | apply go_beyond); · (simp (disch := omega) [go_sem, *, -List.reduceReplicate]; try first | rfl | exact ⟨rfl, rfl⟩ | exact ⟨rfl, rfl, rfl⟩)) | (apply go_appself; · (simp (disch := omega) [go_sem, *, -List.reduceReplicate]; try first | rfl | exact ⟨rfl, rfl⟩ | exact ⟨rfl, rfl, rfl⟩)) | ((first | (apply go_appendz; · rfl) | (apply go_new; · rfl) | (apply go_pure; · rfl)); · (simp (disch := omega) [go_sem, *, -List.reduceReplicate]; try first | rfl | exact ⟨rfl, rfl⟩ | exact ⟨rfl, rfl, rfl⟩)) | ((apply go_glob; · assumption); · (simp (disch := omega) [go_sem, *, -List.reduceReplicate]; try first | rfl | exact ⟨rfl, rfl⟩ | exact ⟨rfl, rfl, rfl⟩)) | (apply go_read1; (· rfl); · (simp (disch := omega) [go_sem, *, -List.reduceReplicate]; try first | rfl | exact ⟨rfl, rfl⟩ | exact ⟨rfl, rfl, rfl⟩)) | (apply go_rw1; (· rfl); · (simp (disch := omega) [go_sem, *, -List.reduceReplicate]; try first | rfl | exact ⟨rfl, rfl⟩ | exact ⟨rfl, rfl, rfl⟩)) | (apply go_new1; (· rfl); · (simp (disch := omega) [go_sem, *, -List.reduceReplicate]; try first | rfl | exact ⟨rfl, rfl⟩ | exact ⟨rfl, rfl, rfl⟩)) | (apply go_conv; · (simp (disch := omega) [go_sem, *, -List.reduceReplicate]; try first | rfl | exact ⟨rfl, rfl⟩ | exact ⟨rfl, rfl, rfl⟩)) | ((first | (apply go_new; · rfl) | (apply go_pure; · rfl)); · (simp (disch := omega) [go_sem, *, -List.reduceReplicate]; simp [go_sem, *]; try first | rfl | exact ⟨rfl, rfl⟩)) | (apply go_condT; · (simp (disch := omega) [go_sem, *, -List.reduceReplicate]; try first | rfl | omega; done)) | (apply go_condF; · (simp (disch := omega) [go_sem, *, -List.reduceReplicate]; try first | rfl | omega; done)) | (obtain ⟨hcall, hcs⟩ := hcs; refine go_callw (hcall _) (by simp (disch := omega) [go_sem, *, -List.reduceReplicate]; try rfl) (by simp (disch := omega) [go_sem, *, -List.reduceReplicate]; repeat' first | exact ALe.nil | exact AV.le_refl _ | exact AV.le_nils | exact AV.le_own _ _ | apply ALe.cons | apply AV.sub_agg) (by simp (disch := omega) [go_sem, *, -List.reduceReplicate]) ?_; clear hcall))
    refine go_resultI (by simp (disch := omega) [go_sem, *, -List.reduceReplicate]; rfl) (by exact AV.sub_tup (.cons (AV.sub_agg (.cons (AV.sub_agg (by repeat' first | exact ALe.nil | exact AV.le_refl _ | apply ALe.cons | ((first | apply AV.le_slices | apply AV.le_nilsE | apply AV.le_clipE); first | rfl | (simp (disch := omega) [go_sem, *, -List.reduceReplicate]; done)))) (by repeat' first | exact ALe.nil | exact AV.le_refl _ | apply ALe.cons | ((first | apply AV.le_slices | apply AV.le_nilsE | apply AV.le_clipE); first | rfl | (simp (disch := omega) [go_sem, *, -List.reduceReplicate]; done))))) (by repeat' first | exact ALe.nil | exact AV.le_refl _ | apply ALe.cons | ((first | apply AV.le_slices | apply AV.le_nilsE | apply AV.le_clipE); first | rfl | (simp (disch := omega) [go_sem, *, -List.reduceReplicate]; done))))) (by simp (disch := omega) [go_sem]; try rfl) (fun id hid => by simp (disch := omega) only [upd_ne, wr_cons, wr_nil]; try exact hlow id hid)
  · by_cases h2 : 1048576 < c
    · rw [if_pos (.inr h2)]
      simp only [devAV, devM, bAV]
      refine ACall.of_body mixed Tryd.func33 rfl (by kernel_rfl) Tryd.ntmps33 (by kernel_rfl) rfl (by simp) (by simp) (by simp) fun σ N hp hpn hk hkn hfree => ?_
      repeat (first | apply go_nil | apply go_kreg | apply go_kreg0 | apply go_kreg1 | (apply go_kregT; · (first | (simp [addT, CF, CFy, Ind, DisjF]; done) | (simp only [addT, CF, CFy, Ind]; repeat' (first | exact trivial | apply And.intro | exact Or.inl (by decide +kernel) | (refine Or.inr ⟨?_, ?_⟩ <;> (simp; try omega)))))) | apply go_then | apply go_then_exit | apply go_then_ret | apply go_blk | apply go_blk_ret | apply go_blk_here | (apply go_blk_there; · rfl) | apply go_seq | (apply go_region; · (simp only [List.length_cons, List.length_nil, Nat.reduceAdd, Nat.add_assoc]; rfl)) | apply go_skip | apply go_block | apply go_scope | apply go_label | apply go_exit | apply go_ret | (apply go_mut; (· assumption); · (simp (disch := omega) [go_sem, *, -List.reduceReplicate]; first | exact ⟨rfl, rfl⟩ | (simp [go_sem, *]; exact ⟨rfl, rfl⟩))) | (apply go_mutP; (· assumption); · (simp (disch := omega) [go_sem, *, -List.reduceReplicate]; try first | rfl | exact ⟨rfl, rfl⟩ | exact ⟨rfl, rfl, rfl⟩)) | (apply go_guard_in; (· rfl); · (simp (disch := omega) [go_sem, *, -List.reduceReplicate]; try first | rfl | omega)) | (apply go_guard_off; (· rfl); · (simp (disch := omega) [go_sem, *, -List.reduceReplicate]; try first | rfl | omega)) | (apply go_guard_no; (· rfl); · (simp (disch := omega) [go_sem, *, -List.reduceReplicate]; try rfl)) | ((first | apply go_move | apply go_assign | apply go_load | apply go_store | apply go_append | apply go_copy | apply go_copy0 | apply go_clear0 | apply go_slice3 | apply go_indexA); · (simp (disch := omega) [go_sem, *, -List.reduceReplicate]; try first | rfl | exact ⟨rfl, rfl⟩ | exact ⟨rfl, rfl, rfl⟩)) | ((first | apply go_loadv | apply go_append0 | apply go_beyond); · (simp (disch := omega) [go_sem, *, -List.reduceReplicate]; try first | rfl | exact ⟨rfl, rfl⟩ | exact ⟨rfl, rfl, rfl⟩)) | (apply go_appself; · (simp (disch := omega) [go_sem, *, -List.reduceReplicate]; try first | rfl | exact ⟨rfl, rfl⟩ | exact ⟨rfl, rfl, rfl⟩)) | ((first | (apply go_appendz; · rfl) | (apply go_new; · rfl) | (apply go_pure; · rfl)); · (simp (disch := omega) [go_sem, *, -List.reduceReplicate]; try first | rfl | exact ⟨rfl, rfl⟩ | exact ⟨rfl, rfl, rfl⟩)) | ((apply go_glob; · assumption); · (simp (disch := omega) [go_sem, *, -List.reduceReplicate]; try first | rfl | exact ⟨rfl, rfl⟩ | exact ⟨rfl, rfl, rfl⟩)) | (apply go_read1; (· rfl); · (simp (disch := omega) [go_sem, *, -List.reduceReplicate]; try first | rfl | exact ⟨rfl, rfl⟩ | exact ⟨rfl, rfl, rfl⟩)) | (apply go_rw1; (· rfl); · (simp (disch := omega) [go_sem, *, -List.reduceReplicate]; try first | rfl | exact ⟨rfl, rfl⟩ | exact ⟨rfl, rfl, rfl⟩)) | (apply go_new1; (· rfl); · (simp (disch := omega) [go_sem, *, -List.reduceReplicate]; try first | rfl | exact ⟨rfl, rfl⟩ | exact ⟨rfl, rfl, rfl⟩)) | (apply go_conv; · (simp (disch := omega) [go_sem, *, -List.reduceReplicate]; try first | rfl | exact ⟨rfl, rfl⟩ | exact ⟨rfl, rfl, rfl⟩)) | ((first | (apply go_new; · rfl) | (apply go_pure; · rfl)); · (simp (disch := omega) [go_sem, *, -List.reduceReplicate]; simp [go_sem, *]; try first | rfl | exact ⟨rfl, rfl⟩)) | (apply go_condT; · (simp (disch := omega) [go_sem, *, -List.reduceReplicate]; try first | rfl | omega; done)) | (apply go_condF; · (simp (disch := omega) [go_sem, *, -List.reduceReplicate]; try first | rfl | omega; done)) | (obtain ⟨hcall, hcs⟩ := hcs; refine go_callw (hcall _) (by simp (disch := omega) [go_sem, *, -List.reduceReplicate]; try rfl) (by simp (disch := omega) [go_sem, *, -List.reduceReplicate]; repeat' first | exact ALe.nil | exact AV.le_refl _ | exact AV.le_nils | exact AV.le_own _ _ | apply ALe.cons | apply AV.sub_agg) (by simp (disch := omega) [go_sem, *, -List.reduceReplicate]) ?_; clear hcall))
      refine go_resultI (by simp (disch := omega) [go_sem, *, -List.reduceReplicate]; rfl) (by exact AV.sub_tup (.cons (AV.sub_agg (.cons (AV.sub_agg (by repeat' first | exact ALe.nil | exact AV.le_refl _ | apply ALe.cons | ((first | apply AV.le_slices | apply AV.le_nilsE | apply AV.le_clipE); first | rfl | (simp (disch := omega) [go_sem, *, -List.reduceReplicate]; done)))) (by repeat' first | exact ALe.nil | exact AV.le_refl _ | apply ALe.cons | ((first | apply AV.le_slices | apply AV.le_nilsE | apply AV.le_clipE); first | rfl | (simp (disch := omega) [go_sem, *, -List.reduceReplicate]; done))))) (by repeat' first | exact ALe.nil | exact AV.le_refl _ | apply ALe.cons | ((first | apply AV.le_slices | apply AV.le_nilsE | apply AV.le_clipE); first | rfl | (simp (disch := omega) [go_sem, *, -List.reduceReplicate]; done))))) (by simp (disch := omega) [go_sem]; try rfl) (fun id hid => by simp (disch := omega) only [upd_ne, wr_cons, wr_nil]; try exact hlow id hid)
    · rw [if_neg (by omega)]
      simp only [devAV, devM, bAV]
      refine ACall.of_body mixed Tryd.func33 rfl (by kernel_rfl) Tryd.ntmps33 (by kernel_rfl) rfl (by simp) (by simp) (by simp) fun σ N hp hpn hk hkn hfree => ?_
      repeat (first | apply go_nil | apply go_kreg | apply go_kreg0 | apply go_kreg1 | (apply go_kregT; · (first | (simp [addT, CF, CFy, Ind, DisjF]; done) | (simp only [addT, CF, CFy, Ind]; repeat' (first | exact trivial | apply And.intro | exact Or.inl (by decide +kernel) | (refine Or.inr ⟨?_, ?_⟩ <;> (simp; try omega)))))) | apply go_then | apply go_then_exit | apply go_then_ret | apply go_blk | apply go_blk_ret | apply go_blk_here | (apply go_blk_there; · rfl) | apply go_seq | (apply go_region; · (simp only [List.length_cons, List.length_nil, Nat.reduceAdd, Nat.add_assoc]; rfl)) | apply go_skip | apply go_block | apply go_scope | apply go_label | apply go_exit | apply go_ret | (apply go_mut; (· assumption); · (simp (disch := omega) [go_sem, *, -List.reduceReplicate]; first | exact ⟨rfl, rfl⟩ | (simp [go_sem, *]; exact ⟨rfl, rfl⟩))) | (apply go_mutP; (· assumption); · (simp (disch := omega) [go_sem, *, -List.reduceReplicate]; try first | rfl | exact ⟨rfl, rfl⟩ | exact ⟨rfl, rfl, rfl⟩)) | (apply go_guard_in; (· rfl); · (simp (disch := omega) [go_sem, *, -List.reduceReplicate]; try first | rfl | omega)) | (apply go_guard_off; (· rfl); · (simp (disch := omega) [go_sem, *, -List.reduceReplicate]; try first | rfl | omega)) | (apply go_guard_no; (· rfl); · (simp (disch := omega) [go_sem, *, -List.reduceReplicate]; try rfl)) | ((first | apply go_move | apply go_assign | apply go_load | apply go_store | apply go_append | apply go_copy | apply go_copy0 | apply go_clear0 | apply go_slice3 | apply go_indexA); · (simp (disch := omega) [go_sem, *, -List.reduceReplicate]; try first | rfl | exact ⟨rfl, rfl⟩ | exact ⟨rfl, rfl, rfl⟩)) | ((first | apply go_loadv | apply go_append0 | apply go_beyond); · (simp (disch := omega) [go_sem, *, -List.reduceReplicate]; try first | rfl | exact ⟨rfl, rfl⟩ | exact ⟨rfl, rfl, rfl⟩)) | (apply go_appself; · (simp (disch := omega) [go_sem, *, -List.reduceReplicate]; try first | rfl | exact ⟨rfl, rfl⟩ | exact ⟨rfl, rfl, rfl⟩)) | ((first | (apply go_appendz; · rfl) | (apply go_new; · rfl) | (apply go_pure; · rfl)); · (simp (disch := omega) [go_sem, *, -List.reduceReplicate]; try first | rfl | exact ⟨rfl, rfl⟩ | exact ⟨rfl, rfl, rfl⟩)) | ((apply go_glob; · assumption); · (simp (disch := omega) [go_sem, *, -List.reduceReplicate]; try first | rfl | exact ⟨rfl, rfl⟩ | exact ⟨rfl, rfl, rfl⟩)) | (apply go_read1; (· rfl); · (simp (disch := omega) [go_sem, *, -List.reduceReplicate]; try first | rfl | exact ⟨rfl, rfl⟩ | exact ⟨rfl, rfl, rfl⟩)) | (apply go_rw1; (· rfl); · (simp (disch := omega) [go_sem, *, -List.reduceReplicate]; try first | rfl | exact ⟨rfl, rfl⟩ | exact ⟨rfl, rfl, rfl⟩)) | (apply go_new1; (· rfl); · (simp (disch := omega) [go_sem, *, -List.reduceReplicate]; try first | rfl | exact ⟨rfl, rfl⟩ | exact ⟨rfl, rfl, rfl⟩)) | (apply go_conv; · (simp (disch := omega) [go_sem, *, -List.reduceReplicate]; try first | rfl | exact ⟨rfl, rfl⟩ | exact ⟨rfl, rfl, rfl⟩)) | ((first | (apply go_new; · rfl) | (apply go_pure; · rfl)); · (simp (disch := omega) [go_sem, *, -List.reduceReplicate]; simp [go_sem, *]; try first | rfl | exact ⟨rfl, rfl⟩)) | (apply go_condT; · (simp (disch := omega) [go_sem, *, -List.reduceReplicate]; try first | rfl | omega; done)) | (apply go_condF; · (simp (disch := omega) [go_sem, *, -List.reduceReplicate]; try first | rfl | omega; done)) | (obtain ⟨hcall, hcs⟩ := hcs; refine go_callw (hcall _) (by simp (disch := omega) [go_sem, *, -List.reduceReplicate]; try rfl) (by simp (disch := omega) [go_sem, *, -List.reduceReplicate]; repeat' first | exact ALe.nil | exact AV.le_refl _ | exact AV.le_nils | exact AV.le_own _ _ | apply ALe.cons | apply AV.sub_agg) (by simp (disch := omega) [go_sem, *, -List.reduceReplicate]) ?_; clear hcall))
      refine go_resultI (by simp (disch := omega) [go_sem, *, -List.reduceReplicate]; rfl) (by exact AV.sub_tup (.cons (AV.sub_agg (.cons (AV.sub_agg (by repeat' first | exact ALe.nil | exact AV.le_refl _ | apply ALe.cons | ((first | apply AV.le_slices | apply AV.le_nilsE | apply AV.le_clipE); first | rfl | (simp (disch := omega) [go_sem, *, -List.reduceReplicate]; done)))) (by repeat' first | exact ALe.nil | exact AV.le_refl _ | apply ALe.cons | ((first | apply AV.le_slices | apply AV.le_nilsE | apply AV.le_clipE); first | rfl | (simp (disch := omega) [go_sem, *, -List.reduceReplicate]; done))))) (by repeat' first | exact ALe.nil | exact AV.le_refl _ | apply ALe.cons | ((first | apply AV.le_slices | apply AV.le_nilsE | apply AV.le_clipE); first | rfl | (simp (disch := omega) [go_sem, *, -List.reduceReplicate]; done))))) (by simp (disch := omega) [go_sem]; try rfl) (fun id hid => by simp (disch := omega) only [upd_ne, wr_cons, wr_nil]; try exact hlow id hid)
end Go.Proofs.YtaelnglalpiemaaDoor

/- Devices: the specified write; equality. -/
namespace Go.Proofs.YtaelnglalpiemaaDoor
open Go.Ab
attribute [local irreducible] Go.Ab.tyAV Go.Ab.aw Go.Ab.aops Go.Ab.kReg Go.Ab.aThen Go.Ab.aBlk Go.Ab.acond Go.Ab.aguard Go.Ab.astep Go.Ab.AStepX Go.Ab.aRet

/-- Which area is written, and what stands in front. -/
def Comb (d : Dv) (rep : Bool) (i : Nat) (old : List UInt8) : Prop :=
  (d.act = 0 ∧ rep = false ∧ i = 0 ∧ old = d.a0) ∨ (d.act = 1 ∧ rep = false ∧ i = 1 ∧ old = d.a1) ∨ (d.act = 0 ∧ rep = true ∧ i = 1 ∧ old = []) ∨ (d.act = 1 ∧ rep = true ∧ i = 0 ∧ old = [])
theorem Comb.of (d : Dv) (rep : Bool) (h : d.act = 0 ∨ d.act = 1) : ∃ i old, Comb d rep i old := by
  rcases h with h | h <;> cases rep
  · exact ⟨0, d.a0, .inl ⟨h, rfl, rfl, rfl⟩⟩
  · exact ⟨1, [], .inr (.inr (.inl ⟨h, rfl, rfl, rfl⟩))⟩
  · exact ⟨1, d.a1, .inr (.inl ⟨h, rfl, rfl, rfl⟩)⟩
  · exact ⟨0, [], .inr (.inr (.inr ⟨h, rfl, rfl, rfl⟩))⟩
theorem and10 : bits .and .i64 0 1 = 0 := by decide
theorem and11 : bits .and .i64 1 1 = 1 := by decide

theorem rw_off (d : Dv) (b : List UInt8) (rep : Bool) (i : Nat) (old : List UInt8) (hcm : Comb d rep i old) (hoff : d.off = true) (k : Nat) :
    ACall Tryd.prog 66 [devAV d, .slice none (b.map byteAV), .lit (.bool rep)] k [] (.tup [devAV d, .lit (.int .i64 27)]) [] := by
  obtain ⟨a0, a1, act, cap, wr_, cutAt, torn, off⟩ := d
  have e0 := and10
  have e1 := and11
  simp only at hoff
  subst hoff
  rcases hcm with ⟨h1, h2, h3, h4⟩ | ⟨h1, h2, h3, h4⟩ | ⟨h1, h2, h3, h4⟩ | ⟨h1, h2, h3, h4⟩
  all_goals
    simp only at h1 h4
    subst h1; subst h2; subst h3; subst h4
    simp only [devAV, devM, bAV]
    refine ACall.of_body mixed Tryd.func66 rfl (by kernel_rfl) Tryd.ntmps66 (by kernel_rfl) rfl (by simp) (by simp) (by simp) fun σ N hp hpn hk hkn hfree => ?_
    repeat (first | apply go_nil | apply go_kreg | apply go_kreg0 | apply go_kreg1 | (apply go_kregT; · (first | (simp [addT, CF, CFy, Ind, DisjF]; done) | (simp only [addT, CF, CFy, Ind]; repeat' (first | exact trivial | apply And.intro | exact Or.inl (by decide +kernel) | (refine Or.inr ⟨?_, ?_⟩ <;> (simp; try omega)))))) | apply go_then | apply go_then_exit | apply go_then_ret | apply go_blk | apply go_blk_ret | apply go_blk_here | (apply go_blk_there; · rfl) | apply go_seq | (apply go_region; · (simp only [List.length_cons, List.length_nil, Nat.reduceAdd, Nat.add_assoc]; rfl)) | apply go_skip | apply go_block | apply go_scope | apply go_label | apply go_exit | apply go_ret | (apply go_mut; (· assumption); · (simp (disch := omega) [go_sem, *, -List.reduceReplicate]; first | exact ⟨rfl, rfl⟩ | (simp [go_sem, *]; exact ⟨rfl, rfl⟩))) | (apply go_mutP; (· assumption); · (simp (disch := omega) [go_sem, *, -List.reduceReplicate]; try first | rfl | exact ⟨rfl, rfl⟩ | exact ⟨rfl, rfl, rfl⟩)) | (apply go_guard_in; (· rfl); · (simp (disch := omega) [go_sem, *, -List.reduceReplicate]; try first | rfl | omega)) | (apply go_guard_off; (· rfl); · (simp (disch := omega) [go_sem, *, -List.reduceReplicate]; try first | rfl | omega)) | (apply go_guard_no; (· rfl); · (simp (disch := omega) [go_sem, *, -List.reduceReplicate]; try rfl)) | ((first | apply go_move | apply go_assign | apply go_load | apply go_store | apply go_append | apply go_copy | apply go_copy0 | apply go_clear0 | apply go_slice3 | apply go_indexA); · (simp (disch := omega) [go_sem, *, -List.reduceReplicate]; try first | rfl | exact ⟨rfl, rfl⟩ | exact ⟨rfl, rfl, rfl⟩)) | ((first | apply go_loadv | apply go_append0 | apply go_beyond); · (simp (disch := omega) [go_sem, *, -List.reduceReplicate]; try first | rfl | exact ⟨rfl, rfl⟩ | exact ⟨rfl, rfl, rfl⟩)) | (apply go_appself; · (simp (disch := omega) [go_sem, *, -List.reduceReplicate]; try first | rfl | exact ⟨rfl, rfl⟩ | exact ⟨rfl, rfl, rfl⟩)) | ((first | (apply go_appendz; · rfl) | (apply go_new; · rfl) | (apply go_pure; · rfl)); · (simp (disch := omega) [go_sem, *, -List.reduceReplicate]; try first | rfl | exact ⟨rfl, rfl⟩ | exact ⟨rfl, rfl, rfl⟩)) | ((apply go_glob; · assumption); · (simp (disch := omega) [go_sem, *, -List.reduceReplicate]; try first | rfl | exact ⟨rfl, rfl⟩ | exact ⟨rfl, rfl, rfl⟩)) | (apply go_read1; (· rfl); · (simp (disch := omega) [go_sem, *, -List.reduceReplicate]; try first | rfl | exact ⟨rfl, rfl⟩ | exact ⟨rfl, rfl, rfl⟩)) | (apply go_rw1; (· rfl); · (simp (disch := omega) [go_sem, *, -List.reduceReplicate]; try first | rfl | exact ⟨rfl, rfl⟩ | exact ⟨rfl, rfl, rfl⟩)) | (apply go_new1; (· rfl); · (simp (disch := omega) [go_sem, *, -List.reduceReplicate]; try first | rfl | exact ⟨rfl, rfl⟩ | exact ⟨rfl, rfl, rfl⟩)) | (apply go_conv; · (simp (disch := omega) [go_sem, *, -List.reduceReplicate]; try first | rfl | exact ⟨rfl, rfl⟩ | exact ⟨rfl, rfl, rfl⟩)) | ((first | (apply go_new; · rfl) | (apply go_pure; · rfl)); · (simp (disch := omega) [go_sem, *, -List.reduceReplicate]; simp [go_sem, *]; try first | rfl | exact ⟨rfl, rfl⟩)) | (apply go_condT; · (simp (disch := omega) [go_sem, *, -List.reduceReplicate]; try first | rfl | omega; done)) | (apply go_condF; · (simp (disch := omega) [go_sem, *, -List.reduceReplicate]; try first | rfl | omega; done)) | (obtain ⟨hcall, hcs⟩ := hcs; refine go_callw (hcall _) (by simp (disch := omega) [go_sem, *, -List.reduceReplicate]; try rfl) (by simp (disch := omega) [go_sem, *, -List.reduceReplicate]; repeat' first | exact ALe.nil | exact AV.le_refl _ | exact AV.le_nils | exact AV.le_own _ _ | apply ALe.cons | apply AV.sub_agg) (by simp (disch := omega) [go_sem, *, -List.reduceReplicate]) ?_; clear hcall))
    refine go_resultI (by simp (disch := omega) [go_sem, *, -List.reduceReplicate]; rfl) (by exact AV.sub_tup (.cons (AV.sub_agg (.cons (AV.sub_agg (by repeat' first | exact ALe.nil | exact AV.le_refl _ | apply ALe.cons | ((first | apply AV.le_slices | apply AV.le_nilsE | apply AV.le_clipE); first | rfl | (simp (disch := omega) [go_sem, *, -List.reduceReplicate]; done)))) (by repeat' first | exact ALe.nil | exact AV.le_refl _ | apply ALe.cons | ((first | apply AV.le_slices | apply AV.le_nilsE | apply AV.le_clipE); first | rfl | (simp (disch := omega) [go_sem, *, -List.reduceReplicate]; done))))) (by repeat' first | exact ALe.nil | exact AV.le_refl _ | apply ALe.cons | ((first | apply AV.le_slices | apply AV.le_nilsE | apply AV.le_clipE); first | rfl | (simp (disch := omega) [go_sem, *, -List.reduceReplicate]; done))))) (by simp (disch := omega) [go_sem]; try rfl) (fun id hid => by simp (disch := omega) only [upd_ne, wr_cons, wr_nil]; try exact hlow id hid)
theorem rw_full (d : Dv) (b : List UInt8) (rep : Bool) (i : Nat) (old : List UInt8) (hcm : Comb d rep i old) (hoff : d.off = false) (hc : d.cap < old.length + b.length) (hcm0 : 0 ≤ d.cap) (hcm1 : d.cap ≤ 10000000) (hol : old.length ≤ 1000000) (k : Nat) :
    ACall Tryd.prog 66 [devAV d, .slice none (b.map byteAV), .lit (.bool rep)] k [] (.tup [devAV d, .lit (.int .i64 26)]) [] := by
  obtain ⟨a0, a1, act, cap, wr_, cutAt, torn, off⟩ := d
  have e0 := and10
  have e1 := and11
  simp only at hoff hc hcm0 hcm1
  subst hoff
  rcases hcm with ⟨h1, h2, h3, h4⟩ | ⟨h1, h2, h3, h4⟩ | ⟨h1, h2, h3, h4⟩ | ⟨h1, h2, h3, h4⟩
  all_goals
    simp only at h1 h4
    subst h1; subst h2; subst h3; subst h4
    try simp only [List.length_nil, Int.natCast_zero, Int.zero_add] at hc
    simp only [devAV, devM, bAV]
    refine ACall.of_body mixed Tryd.func66 rfl (by kernel_rfl) Tryd.ntmps66 (by kernel_rfl) rfl (by simp) (by simp) (by simp) fun σ N hp hpn hk hkn hfree => ?_
    repeat (first | apply go_nil | apply go_kreg | apply go_kreg0 | apply go_kreg1 | (apply go_kregT; · (first | (simp [addT, CF, CFy, Ind, DisjF]; done) | (simp only [addT, CF, CFy, Ind]; repeat' (first | exact trivial | apply And.intro | exact Or.inl (by decide +kernel) | (refine Or.inr ⟨?_, ?_⟩ <;> (simp; try omega)))))) | apply go_then | apply go_then_exit | apply go_then_ret | apply go_blk | apply go_blk_ret | apply go_blk_here | (apply go_blk_there; · rfl) | apply go_seq | (apply go_region; · (simp only [List.length_cons, List.length_nil, Nat.reduceAdd, Nat.add_assoc]; rfl)) | apply go_skip | apply go_block | apply go_scope | apply go_label | apply go_exit | apply go_ret | (apply go_mut; (· assumption); · (simp (disch := omega) [go_sem, *, -List.reduceReplicate]; first | exact ⟨rfl, rfl⟩ | (simp [go_sem, *]; exact ⟨rfl, rfl⟩))) | (apply go_mutP; (· assumption); · (simp (disch := omega) [go_sem, *, -List.reduceReplicate]; try first | rfl | exact ⟨rfl, rfl⟩ | exact ⟨rfl, rfl, rfl⟩)) | (apply go_guard_in; (· rfl); · (simp (disch := omega) [go_sem, *, -List.reduceReplicate]; try first | rfl | omega)) | (apply go_guard_off; (· rfl); · (simp (disch := omega) [go_sem, *, -List.reduceReplicate]; try first | rfl | omega)) | (apply go_guard_no; (· rfl); · (simp (disch := omega) [go_sem, *, -List.reduceReplicate]; try rfl)) | ((first | apply go_move | apply go_assign | apply go_load | apply go_store | apply go_append | apply go_copy | apply go_copy0 | apply go_clear0 | apply go_slice3 | apply go_indexA); · (simp (disch := omega) [go_sem, *, -List.reduceReplicate]; try first | rfl | exact ⟨rfl, rfl⟩ | exact ⟨rfl, rfl, rfl⟩)) | ((first | apply go_loadv | apply go_append0 | apply go_beyond); · (simp (disch := omega) [go_sem, *, -List.reduceReplicate]; try first | rfl | exact ⟨rfl, rfl⟩ | exact ⟨rfl, rfl, rfl⟩)) | (apply go_appself; · (simp (disch := omega) [go_sem, *, -List.reduceReplicate]; try first | rfl | exact ⟨rfl, rfl⟩ | exact ⟨rfl, rfl, rfl⟩)) | ((first | (apply go_appendz; · rfl) | (apply go_new; · rfl) | (apply go_pure; · rfl)); · (simp (disch := omega) [go_sem, *, -List.reduceReplicate]; try first | rfl | exact ⟨rfl, rfl⟩ | exact ⟨rfl, rfl, rfl⟩)) | ((apply go_glob; · assumption); · (simp (disch := omega) [go_sem, *, -List.reduceReplicate]; try first | rfl | exact ⟨rfl, rfl⟩ | exact ⟨rfl, rfl, rfl⟩)) | (apply go_read1; (· rfl); · (simp (disch := omega) [go_sem, *, -List.reduceReplicate]; try first | rfl | exact ⟨rfl, rfl⟩ | exact ⟨rfl, rfl, rfl⟩)) | (apply go_rw1; (· rfl); · (simp (disch := omega) [go_sem, *, -List.reduceReplicate]; try first | rfl | exact ⟨rfl, rfl⟩ | exact ⟨rfl, rfl, rfl⟩)) | (apply go_new1; (· rfl); · (simp (disch := omega) [go_sem, *, -List.reduceReplicate]; try first | rfl | exact ⟨rfl, rfl⟩ | exact ⟨rfl, rfl, rfl⟩)) | (apply go_conv; · (simp (disch := omega) [go_sem, *, -List.reduceReplicate]; try first | rfl | exact ⟨rfl, rfl⟩ | exact ⟨rfl, rfl, rfl⟩)) | ((first | (apply go_new; · rfl) | (apply go_pure; · rfl)); · (simp (disch := omega) [go_sem, *, -List.reduceReplicate]; simp [go_sem, *]; try first | rfl | exact ⟨rfl, rfl⟩)) | (apply go_condT; · (simp (disch := omega) [go_sem, *, -List.reduceReplicate]; try first | rfl | omega; done)) | (apply go_condF; · (simp (disch := omega) [go_sem, *, -List.reduceReplicate]; try first | rfl | omega; done)) | (obtain ⟨hcall, hcs⟩ := hcs; refine go_callw (hcall _) (by simp (disch := omega) [go_sem, *, -List.reduceReplicate]; try rfl) (by simp (disch := omega) [go_sem, *, -List.reduceReplicate]; repeat' first | exact ALe.nil | exact AV.le_refl _ | exact AV.le_nils | exact AV.le_own _ _ | apply ALe.cons | apply AV.sub_agg) (by simp (disch := omega) [go_sem, *, -List.reduceReplicate]) ?_; clear hcall))
    refine go_resultI (by simp (disch := omega) [go_sem, *, -List.reduceReplicate]; rfl) (by exact AV.sub_tup (.cons (AV.sub_agg (.cons (AV.sub_agg (by repeat' first | exact ALe.nil | exact AV.le_refl _ | apply ALe.cons | ((first | apply AV.le_slices | apply AV.le_nilsE | apply AV.le_clipE); first | rfl | (simp (disch := omega) [go_sem, *, -List.reduceReplicate]; done)))) (by repeat' first | exact ALe.nil | exact AV.le_refl _ | apply ALe.cons | ((first | apply AV.le_slices | apply AV.le_nilsE | apply AV.le_clipE); first | rfl | (simp (disch := omega) [go_sem, *, -List.reduceReplicate]; done))))) (by repeat' first | exact ALe.nil | exact AV.le_refl _ | apply ALe.cons | ((first | apply AV.le_slices | apply AV.le_nilsE | apply AV.le_clipE); first | rfl | (simp (disch := omega) [go_sem, *, -List.reduceReplicate]; done))))) (by simp (disch := omega) [go_sem]; try rfl) (fun id hid => by simp (disch := omega) only [upd_ne, wr_cons, wr_nil]; try exact hlow id hid)
set_option maxHeartbeats 4000000 in
theorem rw_cut (d : Dv) (b : List UInt8) (rep : Bool) (i : Nat) (old : List UInt8) (hcm : Comb d rep i old) (hoff : d.off = false) (hc : ¬ d.cap < old.length + b.length) (hcm0 : 0 ≤ d.cap) (hcm1 : d.cap ≤ 10000000) (hol : old.length ≤ 1000000)
    (hw0 : 0 ≤ d.wr) (hw1 : d.wr ≤ 1000000) (hcut : d.cutAt = d.wr + 1) (bq nw : List UInt8) (q : Nat) (hq : (if (b.length : Int) < if d.torn < 0 then 0 else d.torn then (b.length : Int) else if d.torn < 0 then 0 else d.torn) = (q : Int)) (hql : q ≤ b.length) (hbq : (b.map byteAV).take q = bq.map byteAV) (hbl : bq.length = q) (hnw : old.map byteAV ++ bq.map byteAV = nw.map byteAV) (hnl : nw.length ≤ 11000000) (k : Nat) :
    ACall Tryd.prog 66 [devAV d, .slice none (b.map byteAV), .lit (.bool rep)] k [] (.tup [devAV { d.put i nw with wr := d.wr + 1, off := true }, .lit (.int .i64 27)]) [] := by
  obtain ⟨a0, a1, act, cap, wr_, cutAt, torn, off⟩ := d
  have e0 := and10
  have e1 := and11
  simp only at hoff hc hcm0 hcm1 hw0 hw1 hcut hq
  subst hoff
  subst hcut
  rcases hcm with ⟨h1, h2, h3, h4⟩ | ⟨h1, h2, h3, h4⟩ | ⟨h1, h2, h3, h4⟩ | ⟨h1, h2, h3, h4⟩
  all_goals
    simp only at h1 h4
    subst h1; subst h2; subst h3; subst h4
    try simp only [List.length_nil, Int.natCast_zero, Int.zero_add] at hc
    try simp only [List.map_nil, List.nil_append] at hnw
    simp only [devAV, devM, bAV, Dv.put, Nat.one_ne_zero, ite_true, ite_false, if_true, if_false]
    refine ACall.of_body mixed Tryd.func66 rfl (by kernel_rfl) Tryd.ntmps66 (by kernel_rfl) rfl (by simp) (by simp) (by simp) fun σ N hp hpn hk hkn hfree => ?_
    repeat (first | apply go_nil | apply go_kreg | apply go_kreg0 | apply go_kreg1 | (apply go_kregT; · (first | (simp [addT, CF, CFy, Ind, DisjF]; done) | (simp only [addT, CF, CFy, Ind]; repeat' (first | exact trivial | apply And.intro | exact Or.inl (by decide +kernel) | (refine Or.inr ⟨?_, ?_⟩ <;> (simp; try omega)))))) | apply go_then | apply go_then_exit | apply go_then_ret | apply go_blk | apply go_blk_ret | apply go_blk_here | (apply go_blk_there; · rfl) | apply go_seq | (apply go_region; · (simp only [List.length_cons, List.length_nil, Nat.reduceAdd, Nat.add_assoc]; rfl)) | apply go_skip | apply go_block | apply go_scope | apply go_label | apply go_exit | apply go_ret | (apply go_mut; (· assumption); · (simp (disch := omega) [go_sem, *, -List.reduceReplicate]; first | exact ⟨rfl, rfl⟩ | (simp [go_sem, *]; exact ⟨rfl, rfl⟩))) | (apply go_mutP; (· assumption); · (simp (disch := omega) [go_sem, *, -List.reduceReplicate]; try first | rfl | exact ⟨rfl, rfl⟩ | exact ⟨rfl, rfl, rfl⟩)) | (apply go_guard_in; (· rfl); · (simp (disch := omega) [go_sem, *, -List.reduceReplicate]; try first | rfl | omega)) | (apply go_guard_off; (· rfl); · (simp (disch := omega) [go_sem, *, -List.reduceReplicate]; try first | rfl | omega)) | (apply go_guard_no; (· rfl); · (simp (disch := omega) [go_sem, *, -List.reduceReplicate]; try rfl)) | ((first | apply go_move | apply go_assign | apply go_load | apply go_store | apply go_append | apply go_copy | apply go_copy0 | apply go_clear0 | apply go_slice3 | apply go_indexA); · (simp (disch := omega) [go_sem, *, -List.reduceReplicate]; try first | rfl | exact ⟨rfl, rfl⟩ | exact ⟨rfl, rfl, rfl⟩)) | ((first | apply go_loadv | apply go_append0 | apply go_beyond); · (simp (disch := omega) [go_sem, *, -List.reduceReplicate]; try first | rfl | exact ⟨rfl, rfl⟩ | exact ⟨rfl, rfl, rfl⟩)) | (apply go_appself; · (simp (disch := omega) [go_sem, *, -List.reduceReplicate]; try first | rfl | exact ⟨rfl, rfl⟩ | exact ⟨rfl, rfl, rfl⟩)) | ((first | (apply go_appendz; · rfl) | (apply go_new; · rfl) | (apply go_pure; · rfl)); · (simp (disch := omega) [go_sem, *, -List.reduceReplicate]; try first | rfl | exact ⟨rfl, rfl⟩ | exact ⟨rfl, rfl, rfl⟩)) | ((apply go_glob; · assumption); · (simp (disch := omega) [go_sem, *, -List.reduceReplicate]; try first | rfl | exact ⟨rfl, rfl⟩ | exact ⟨rfl, rfl, rfl⟩)) | (apply go_read1; (· rfl); · (simp (disch := omega) [go_sem, *, -List.reduceReplicate]; try first | rfl | exact ⟨rfl, rfl⟩ | exact ⟨rfl, rfl, rfl⟩)) | (apply go_rw1; (· rfl); · (simp (disch := omega) [go_sem, *, -List.reduceReplicate]; try first | rfl | exact ⟨rfl, rfl⟩ | exact ⟨rfl, rfl, rfl⟩)) | (apply go_new1; (· rfl); · (simp (disch := omega) [go_sem, *, -List.reduceReplicate]; try first | rfl | exact ⟨rfl, rfl⟩ | exact ⟨rfl, rfl, rfl⟩)) | (apply go_conv; · (simp (disch := omega) [go_sem, *, -List.reduceReplicate]; try first | rfl | exact ⟨rfl, rfl⟩ | exact ⟨rfl, rfl, rfl⟩)) | ((first | (apply go_new; · rfl) | (apply go_pure; · rfl)); · (simp (disch := omega) [go_sem, *, -List.reduceReplicate]; simp [go_sem, *]; try first | rfl | exact ⟨rfl, rfl⟩)) | (apply go_condT; · (simp (disch := omega) [go_sem, *, -List.reduceReplicate]; try first | rfl | omega; done)) | (apply go_condF; · (simp (disch := omega) [go_sem, *, -List.reduceReplicate]; try first | rfl | omega; done)) | (obtain ⟨hcall, hcs⟩ := hcs; refine go_callw (hcall _) (by simp (disch := omega) [go_sem, *, -List.reduceReplicate]; try rfl) (by simp (disch := omega) [go_sem, *, -List.reduceReplicate]; repeat' first | exact ALe.nil | exact AV.le_refl _ | exact AV.le_nils | exact AV.le_own _ _ | apply ALe.cons | apply AV.sub_agg) (by simp (disch := omega) [go_sem, *, -List.reduceReplicate]) ?_; clear hcall))
    refine go_resultI (by simp (disch := omega) [go_sem, *, -List.reduceReplicate]; rfl) (by exact AV.sub_tup (.cons (AV.sub_agg (.cons (AV.sub_agg (by repeat' first | exact ALe.nil | exact AV.le_refl _ | apply ALe.cons | ((first | apply AV.le_slices | apply AV.le_nilsE | apply AV.le_clipE); first | rfl | (simp (disch := omega) [go_sem, *, -List.reduceReplicate]; done)))) (by repeat' first | exact ALe.nil | exact AV.le_refl _ | apply ALe.cons | ((first | apply AV.le_slices | apply AV.le_nilsE | apply AV.le_clipE); first | rfl | (simp (disch := omega) [go_sem, *, -List.reduceReplicate]; done))))) (by repeat' first | exact ALe.nil | exact AV.le_refl _ | apply ALe.cons | ((first | apply AV.le_slices | apply AV.le_nilsE | apply AV.le_clipE); first | rfl | (simp (disch := omega) [go_sem, *, -List.reduceReplicate]; done))))) (by simp (disch := omega) [go_sem]; try rfl) (fun id hid => by simp (disch := omega) only [upd_ne, wr_cons, wr_nil]; try exact hlow id hid)
set_option maxHeartbeats 4000000 in
theorem rw_ok (d : Dv) (b : List UInt8) (rep : Bool) (i : Nat) (old : List UInt8) (hcm : Comb d rep i old) (hoff : d.off = false) (hc : ¬ d.cap < old.length + b.length) (hcm0 : 0 ≤ d.cap) (hcm1 : d.cap ≤ 10000000) (hol : old.length ≤ 1000000)
    (hw0 : 0 ≤ d.wr) (hw1 : d.wr ≤ 1000000) (hcut : ¬ d.wr + 1 = d.cutAt) (nw : List UInt8) (hnw : nw = old ++ b) (hnl : nw.length ≤ 11000000) (k : Nat) :
    ACall Tryd.prog 66 [devAV d, .slice none (b.map byteAV), .lit (.bool rep)] k [] (.tup [devAV { d.put i nw with wr := d.wr + 1, act := i }, .lit (.int .i64 0)]) [] := by
  obtain ⟨a0, a1, act, cap, wr_, cutAt, torn, off⟩ := d
  have e0 := and10
  have e1 := and11
  simp only at hoff hc hcm0 hcm1 hw0 hw1 hcut
  subst hoff
  have hcb : (wr_ + 1 == cutAt) = false := by rw [beq_eq_false_iff_ne]; exact hcut
  rcases hcm with ⟨h1, h2, h3, h4⟩ | ⟨h1, h2, h3, h4⟩ | ⟨h1, h2, h3, h4⟩ | ⟨h1, h2, h3, h4⟩
  all_goals
    simp only at h1 h4
    subst h1; subst h2; subst h3; subst h4
    try simp only [List.length_nil, Int.natCast_zero, Int.zero_add] at hc
    first
      | (simp only [List.nil_append] at hnw; subst hnw)
      | (have hm : old.map byteAV ++ b.map byteAV = nw.map byteAV := by rw [hnw, List.map_append])
    try clear hnw
    simp only [devAV, devM, bAV, Dv.put, Nat.one_ne_zero, ite_true, ite_false, if_true, if_false, Int.natCast_zero, Int.natCast_one]
    refine ACall.of_body mixed Tryd.func66 rfl (by kernel_rfl) Tryd.ntmps66 (by kernel_rfl) rfl (by simp) (by simp) (by simp) fun σ N hp hpn hk hkn hfree => ?_
    repeat (first | apply go_nil | apply go_kreg | apply go_kreg0 | apply go_kreg1 | (apply go_kregT; · (first | (simp [addT, CF, CFy, Ind, DisjF]; done) | (simp only [addT, CF, CFy, Ind]; repeat' (first | exact trivial | apply And.intro | exact Or.inl (by decide +kernel) | (refine Or.inr ⟨?_, ?_⟩ <;> (simp; try omega)))))) | apply go_then | apply go_then_exit | apply go_then_ret | apply go_blk | apply go_blk_ret | apply go_blk_here | (apply go_blk_there; · rfl) | apply go_seq | (apply go_region; · (simp only [List.length_cons, List.length_nil, Nat.reduceAdd, Nat.add_assoc]; rfl)) | apply go_skip | apply go_block | apply go_scope | apply go_label | apply go_exit | apply go_ret | (apply go_mut; (· assumption); · (simp (disch := omega) [go_sem, *, -List.reduceReplicate]; first | exact ⟨rfl, rfl⟩ | (simp [go_sem, *]; exact ⟨rfl, rfl⟩))) | (apply go_mutP; (· assumption); · (simp (disch := omega) [go_sem, *, -List.reduceReplicate]; try first | rfl | exact ⟨rfl, rfl⟩ | exact ⟨rfl, rfl, rfl⟩)) | (apply go_guard_in; (· rfl); · (simp (disch := omega) [go_sem, *, -List.reduceReplicate]; try first | rfl | omega)) | (apply go_guard_off; (· rfl); · (simp (disch := omega) [go_sem, *, -List.reduceReplicate]; try first | rfl | omega)) | (apply go_guard_no; (· rfl); · (simp (disch := omega) [go_sem, *, -List.reduceReplicate]; try rfl)) | ((first | apply go_move | apply go_assign | apply go_load | apply go_store | apply go_append | apply go_copy | apply go_copy0 | apply go_clear0 | apply go_slice3 | apply go_indexA); · (simp (disch := omega) [go_sem, *, -List.reduceReplicate]; try first | rfl | exact ⟨rfl, rfl⟩ | exact ⟨rfl, rfl, rfl⟩)) | ((first | apply go_loadv | apply go_append0 | apply go_beyond); · (simp (disch := omega) [go_sem, *, -List.reduceReplicate]; try first | rfl | exact ⟨rfl, rfl⟩ | exact ⟨rfl, rfl, rfl⟩)) | (apply go_appself; · (simp (disch := omega) [go_sem, *, -List.reduceReplicate]; try first | rfl | exact ⟨rfl, rfl⟩ | exact ⟨rfl, rfl, rfl⟩)) | ((first | (apply go_appendz; · rfl) | (apply go_new; · rfl) | (apply go_pure; · rfl)); · (simp (disch := omega) [go_sem, *, -List.reduceReplicate]; try first | rfl | exact ⟨rfl, rfl⟩ | exact ⟨rfl, rfl, rfl⟩)) | ((apply go_glob; · assumption); · (simp (disch := omega) [go_sem, *, -List.reduceReplicate]; try first | rfl | exact ⟨rfl, rfl⟩ | exact ⟨rfl, rfl, rfl⟩)) | (apply go_read1; (· rfl); · (simp (disch := omega) [go_sem, *, -List.reduceReplicate]; try first | rfl | exact ⟨rfl, rfl⟩ | exact ⟨rfl, rfl, rfl⟩)) | (apply go_rw1; (· rfl); · (simp (disch := omega) [go_sem, *, -List.reduceReplicate]; try first | rfl | exact ⟨rfl, rfl⟩ | exact ⟨rfl, rfl, rfl⟩)) | (apply go_new1; (· rfl); · (simp (disch := omega) [go_sem, *, -List.reduceReplicate]; try first | rfl | exact ⟨rfl, rfl⟩ | exact ⟨rfl, rfl, rfl⟩)) | (apply go_conv; · (simp (disch := omega) [go_sem, *, -List.reduceReplicate]; try first | rfl | exact ⟨rfl, rfl⟩ | exact ⟨rfl, rfl, rfl⟩)) | ((first | (apply go_new; · rfl) | (apply go_pure; · rfl)); · (simp (disch := omega) [go_sem, *, -List.reduceReplicate]; simp [go_sem, *]; try first | rfl | exact ⟨rfl, rfl⟩)) | (apply go_condT; · (simp (disch := omega) [go_sem, *, -List.reduceReplicate]; try first | rfl | omega; done)) | (apply go_condF; · (simp (disch := omega) [go_sem, *, -List.reduceReplicate]; try first | rfl | omega; done)) | (obtain ⟨hcall, hcs⟩ := hcs; refine go_callw (hcall _) (by simp (disch := omega) [go_sem, *, -List.reduceReplicate]; try rfl) (by simp (disch := omega) [go_sem, *, -List.reduceReplicate]; repeat' first | exact ALe.nil | exact AV.le_refl _ | exact AV.le_nils | exact AV.le_own _ _ | apply ALe.cons | apply AV.sub_agg) (by simp (disch := omega) [go_sem, *, -List.reduceReplicate]) ?_; clear hcall))
    refine go_resultI (by simp (disch := omega) [go_sem, *, -List.reduceReplicate]; rfl) (by exact AV.sub_tup (.cons (AV.sub_agg (.cons (AV.sub_agg (by repeat' first | exact ALe.nil | exact AV.le_refl _ | apply ALe.cons | ((first | apply AV.le_slices | apply AV.le_nilsE | apply AV.le_clipE); first | rfl | (simp (disch := omega) [go_sem, *, -List.reduceReplicate]; done)))) (by repeat' first | exact ALe.nil | exact AV.le_refl _ | apply ALe.cons | ((first | apply AV.le_slices | apply AV.le_nilsE | apply AV.le_clipE); first | rfl | (simp (disch := omega) [go_sem, *, -List.reduceReplicate]; done))))) (by repeat' first | exact ALe.nil | exact AV.le_refl _ | apply ALe.cons | ((first | apply AV.le_slices | apply AV.le_nilsE | apply AV.le_clipE); first | rfl | (simp (disch := omega) [go_sem, *, -List.reduceReplicate]; done))))) (by simp (disch := omega) [go_sem]; try rfl) (fun id hid => by simp (disch := omega) only [upd_ne, wr_cons, wr_nil]; try exact hlow id hid)

def wrS (d : Dv) (b : List UInt8) (rep : Bool) : Dv × Nat := if rep = true then repS d b else appS d b
theorem rWrite_spec (d : Dv) (b : List UInt8) (rep : Bool) (hd : DvA d) (hcap : 0 ≤ d.cap) (hb : b.length ≤ 1000000) (k : Nat) :
    ACall Tryd.prog 66 [devAV d, .slice none (b.map byteAV), .lit (.bool rep)] k [] (.tup [devAV (wrS d b rep).1, .lit (.int .i64 (wrS d b rep).2)]) [] := by
  obtain ⟨i, old, hcm⟩ := Comb.of d rep hd.act
  have h0 := hd.h0
  have h1 := hd.h1
  have h2 := hd.cap
  have hol : old.length ≤ 1000000 := by
    rcases hcm with ⟨_, _, _, h4⟩ | ⟨_, _, _, h4⟩ | ⟨_, _, _, h4⟩ | ⟨_, _, _, h4⟩ <;> rw [h4] <;> first | omega | simp
  have key : wrS d b rep = writeS d i old.length b ∧ (d.area i).take old.length = old := by
    rcases hcm with ⟨g1, g2, g3, g4⟩ | ⟨g1, g2, g3, g4⟩ | ⟨g1, g2, g3, g4⟩ | ⟨g1, g2, g3, g4⟩ <;> subst g2 <;> subst g3 <;> subst g4 <;> simp [wrS, appS, repS, Dv.data, Dv.area, g1]
  rw [key.1]
  unfold writeS
  cases hoff : d.off with
  | true => rw [if_pos rfl]; exact rw_off d b rep i old hcm hoff k
  | false =>
    rw [if_neg (by simp)]
    by_cases hc : d.cap < old.length + b.length
    · rw [if_pos hc]; exact rw_full d b rep i old hcm hoff hc hcap h2 hol k
    · rw [if_neg hc, key.2]
      by_cases hcut : d.wr + 1 = d.cutAt
      · rw [if_pos hcut]
        have hq := cutN_le d.torn b.length
        exact rw_cut d b rep i old hcm hoff hc hcap h2 hol hd.w0 hd.w1 hcut.symm (b.take (cutN d.torn b.length)) _ _ (cutN_eq _ _) hq (by rw [List.map_take]) (by rw [List.length_take]; omega) (by rw [List.map_append]) (by simp only [List.length_append, List.length_take]; omega) k
      · rw [if_neg hcut]
        exact rw_ok d b rep i old hcm hoff hc hcap h2 hol hd.w0 hd.w1 hcut _ rfl (by simp only [List.length_append]; omega) k
end Go.Proofs.YtaelnglalpiemaaDoor

/- Devices: equality. -/
namespace Go.Proofs.YtaelnglalpiemaaDoor
open Go.Ab
attribute [local irreducible] Go.Ab.tyAV Go.Ab.aw Go.Ab.aops Go.Ab.kReg Go.Ab.aThen Go.Ab.aBlk Go.Ab.acond Go.Ab.aguard Go.Ab.astep Go.Ab.AStepX Go.Ab.aRet

@[go_sem] theorem devAV_sz (d : Dv) : (devAV d).sz = 8 := rfl
@[go_sem] theorem devAV_isAgg (d : Dv) : (devAV d).isAgg = true := rfl
@[go_sem] theorem devAV_cell (d : Dv) : (devAV d).cell = true := rfl
@[go_sem] theorem devAV_ren (f : Nat → Option Nat) (d : Dv) : (devAV d).ren f = devAV d := by
  simp only [devAV, devM, bAV, AV.ren, AV.renl, renl_bytes, Option.bind_none]
@[go_sem] theorem renl_devs (f : Nat → Option Nat) (l : List Dv) : AV.renl f (l.map devAV) = l.map devAV := by
  rw [AV.renl_map, List.map_map]; exact List.map_congr_left fun t _ => devAV_ren f t

@[go_sem] theorem bAV_sz (b : List UInt8) : (bAV b).sz = 1 := rfl
@[go_sem] theorem bAV_isAgg (b : List UInt8) : (bAV b).isAgg = false := rfl
@[go_sem] theorem all_bs1 (l : List (List UInt8)) : (l.map bAV).all (fun x => x.sz == 1) = true := by
  rw [List.all_eq_true]; intro x hx; obtain ⟨b, _, rfl⟩ := List.mem_map.1 hx; rfl
@[go_sem] theorem bAV_cell (b : List UInt8) : (bAV b).cell = true := rfl
@[go_sem] theorem bAV_ren (f : Nat → Option Nat) (b : List UInt8) : (bAV b).ren f = bAV b := by
  simp only [bAV, AV.ren, renl_bytes, Option.bind_none]
@[go_sem] theorem renl_bs (f : Nat → Option Nat) (l : List (List UInt8)) : AV.renl f (l.map bAV) = l.map bAV := by
  rw [AV.renl_map, List.map_map]; exact List.map_congr_left fun t _ => bAV_ren f t

theorem SameDev_spec (d : Dv) (h0 : d.a0.length ≤ 100000000) (h1 : d.a1.length ≤ 100000000) (k : Nat) :
    ACall Tryd.prog 44 [devAV d, devAV d] k [] (.lit (.bool true)) [] := by
  have c1 := Same_spec d.a0 d.a0 h0
  have c2 := Same_spec d.a1 d.a1 h1
  simp only [decide_true] at c1 c2
  have hcs := And.intro c1 (And.intro c2 True.intro)
  clear c1 c2
  obtain ⟨a0, a1, act, cap, wr_, cutAt, torn, off⟩ := d
  simp only [devAV, devM, bAV] at *
  refine ACall.of_body mixed Tryd.func44 rfl (by kernel_rfl) Tryd.ntmps44 (by kernel_rfl) rfl (by simp) (by simp) (by simp) fun σ N hp hpn hk hkn hfree => ?_
  repeat (first | apply go_nil | apply go_kreg | apply go_kreg0 | apply go_kreg1 | (apply go_kregT; · (first | (simp [addT, CF, CFy, Ind, DisjF]; done) | (simp only [addT, CF, CFy, Ind]; repeat' (first | exact trivial | apply And.intro | exact Or.inl (by decide +kernel) | (refine Or.inr ⟨?_, ?_⟩ <;> (simp; try omega)))))) | apply go_then | apply go_then_exit | apply go_then_ret | apply go_blk | apply go_blk_ret | apply go_blk_here | (apply go_blk_there; · rfl) | apply go_seq | (apply go_region; · (simp only [List.length_cons, List.length_nil, Nat.reduceAdd, Nat.add_assoc]; rfl)) | apply go_skip | apply go_block | apply go_scope | apply go_label | apply go_exit | apply go_ret | (apply go_mut; (· assumption); · (simp (disch := omega) [go_sem, *, -List.reduceReplicate]; first | exact ⟨rfl, rfl⟩ | (simp [go_sem, *]; exact ⟨rfl, rfl⟩))) | (apply go_mutP; (· assumption); · (simp (disch := omega) [go_sem, *, -List.reduceReplicate]; try first | rfl | exact ⟨rfl, rfl⟩ | exact ⟨rfl, rfl, rfl⟩)) | (apply go_guard_in; (· rfl); · (simp (disch := omega) [go_sem, *, -List.reduceReplicate]; try first | rfl | omega)) | (apply go_guard_off; (· rfl); · (simp (disch := omega) [go_sem, *, -List.reduceReplicate]; try first | rfl | omega)) | (apply go_guard_no; (· rfl); · (simp (disch := omega) [go_sem, *, -List.reduceReplicate]; try rfl)) | ((first | apply go_move | apply go_assign | apply go_load | apply go_store | apply go_append | apply go_copy | apply go_copy0 | apply go_clear0 | apply go_slice3 | apply go_indexA); · (simp (disch := omega) [go_sem, *, -List.reduceReplicate]; try first | rfl | exact ⟨rfl, rfl⟩ | exact ⟨rfl, rfl, rfl⟩)) | ((first | apply go_loadv | apply go_append0 | apply go_beyond); · (simp (disch := omega) [go_sem, *, -List.reduceReplicate]; try first | rfl | exact ⟨rfl, rfl⟩ | exact ⟨rfl, rfl, rfl⟩)) | (apply go_appself; · (simp (disch := omega) [go_sem, *, -List.reduceReplicate]; try first | rfl | exact ⟨rfl, rfl⟩ | exact ⟨rfl, rfl, rfl⟩)) | ((first | (apply go_appendz; · rfl) | (apply go_new; · rfl) | (apply go_pure; · rfl)); · (simp (disch := omega) [go_sem, *, -List.reduceReplicate]; try first | rfl | exact ⟨rfl, rfl⟩ | exact ⟨rfl, rfl, rfl⟩)) | ((apply go_glob; · assumption); · (simp (disch := omega) [go_sem, *, -List.reduceReplicate]; try first | rfl | exact ⟨rfl, rfl⟩ | exact ⟨rfl, rfl, rfl⟩)) | (apply go_read1; (· rfl); · (simp (disch := omega) [go_sem, *, -List.reduceReplicate]; try first | rfl | exact ⟨rfl, rfl⟩ | exact ⟨rfl, rfl, rfl⟩)) | (apply go_rw1; (· rfl); · (simp (disch := omega) [go_sem, *, -List.reduceReplicate]; try first | rfl | exact ⟨rfl, rfl⟩ | exact ⟨rfl, rfl, rfl⟩)) | (apply go_new1; (· rfl); · (simp (disch := omega) [go_sem, *, -List.reduceReplicate]; try first | rfl | exact ⟨rfl, rfl⟩ | exact ⟨rfl, rfl, rfl⟩)) | (apply go_conv; · (simp (disch := omega) [go_sem, *, -List.reduceReplicate]; try first | rfl | exact ⟨rfl, rfl⟩ | exact ⟨rfl, rfl, rfl⟩)) | ((first | (apply go_new; · rfl) | (apply go_pure; · rfl)); · (simp (disch := omega) [go_sem, *, -List.reduceReplicate]; simp [go_sem, *]; try first | rfl | exact ⟨rfl, rfl⟩)) | (apply go_condT; · (simp (disch := omega) [go_sem, *, -List.reduceReplicate]; try first | rfl | omega; done)) | (apply go_condF; · (simp (disch := omega) [go_sem, *, -List.reduceReplicate]; try first | rfl | omega; done)) | (obtain ⟨hcall, hcs⟩ := hcs; refine go_callw (hcall _) (by simp (disch := omega) [go_sem, *, -List.reduceReplicate]; try rfl) (by simp (disch := omega) [go_sem, *, -List.reduceReplicate]; repeat' first | exact ALe.nil | exact AV.le_refl _ | exact AV.le_nils | exact AV.le_own _ _ | apply ALe.cons | apply AV.sub_agg) (by simp (disch := omega) [go_sem, *, -List.reduceReplicate]) ?_; clear hcall))
  refine go_result (by simp (disch := omega) [go_sem, *, -List.reduceReplicate]; rfl) (by simp (disch := omega) [go_sem]; try rfl) (fun id hid => by simp (disch := omega) only [upd_ne, wr_cons, wr_nil]; try exact hlow id hid)

end Go.Proofs.YtaelnglalpiemaaDoor

/- Journals: Records, of the program and of the reference. -/
namespace Go.Proofs.YtaelnglalpiemaaDoor
open Go.Ab
attribute [local irreducible] Go.Ab.tyAV Go.Ab.aw Go.Ab.aops Go.Ab.kReg Go.Ab.aThen Go.Ab.aBlk Go.Ab.acond Go.Ab.aguard Go.Ab.astep Go.Ab.AStepX Go.Ab.aRet
attribute [local irreducible] shaG

theorem bAV_def (b : List UInt8) : bAV b = .slice none (b.map byteAV) := rfl
section
variable [W : W32]
theorem Records_spec (data : List UInt8) (hl : data.length ≤ 1000000) (g k : Nat) :
    ACall Tryd.prog 29 [.slice none (data.map byteAV)] k [(g, shaG)] (.tup [.slice none ((recS data).1.map bAV), .lit (.int .i64 ((recS data).2 : Nat))]) [] := by
  generalize hR : recS data = R
  obtain ⟨R1, R2⟩ := R
  simp only
  refine ACall.of_body mixed Tryd.func29 rfl (by kernel_rfl) Tryd.ntmps29 (by kernel_rfl) rfl (by simp) (by simp) (by simp) fun σ N hp hpn hk hkn hfree => ?_
  have hd := hp _ (List.mem_singleton.2 rfl); have hdn := hpn _ (List.mem_singleton.2 rfl); simp only at hd hdn; clear hp hpn
  refine Wk ?_
  refine ALoop.nilrow 6 25 1 (by simp (disch := omega) [go_sem, *, -List.reduceReplicate]) ?_
  refine go_loopB (N) mixed (by kernel_rfl) [2, 3, 6, 7, 8, 10, 11, 12, 13, 14, 15, 16, 17, 18, 19, 20, 21, 22] [] (fun m_ s_ σ_ n_ => ∃ (u : Nat) (r : Nat) (acc : List (List UInt8)), m_ = data.length - u ∧ s_ 6 = .slice (some r) (acc.map bAV) ∧ σ_ (N) = .box 25 (.slice none (data.map byteAV)) ∧ σ_ (N+3) = .box 3 (.lit (.int .i64 u)) ∧ σ_ (r) = .row 25 1 acc.length ∧ (N + 4 ≤ r) ∧ (r < n_) ∧ (u ≤ data.length) ∧ (acc.length ≤ u) ∧ ((acc ++ (recS (data.drop u)).1, u + (recS (data.drop u)).2) = (R1, R2))) ⟨_, 0, _, [], rfl, WF, WF, WF, WF, WC, WC, WC, WC, WC⟩ ?_
  intro m_1 s_1 σ_1 n_1 hs_1 hf_1 hn_1 hI_1
  obtain ⟨u, r, acc, hm_1, h1_6, e1_0, e1_1, e1_2, hNr, hrn, hu, hal, hacc⟩ := hI_1
  have h1_4 := (hs_1.at 4 (by decide)).trans WE
  have h1_5 := (hs_1.at 5 (by decide)).trans WE
  have k1_0 := (hf_1.at (g) (by omega) WQ).trans WE
  have hlow : ∀ id, id < N → σ_1 id = σ id := fun id hid => (hf_1.at id (by omega) WQ).trans WH
  cases hx : nextS (data.drop u) with
  | none =>
    rw [recS_none hx] at hacc
    simp only [List.append_nil, Nat.add_zero, Prod.mk.injEq] at hacc
    obtain ⟨rfl, rfl⟩ := hacc
    have c1 := jnext_none data _ u hu hl rfl hx N (N+3) g
    unfold dataBox usedBox at c1
    have hcs := And.intro c1 True.intro
    clear c1 hx hR
    exact WL
  | some x =>
    have hxl := nextS_len hx
    rw [recS_some hx, List.drop_drop] at hacc
    rw [List.length_drop] at hxl
    have c1 := jnext_some data _ x u hu hl rfl hx N (N+3) g
    unfold dataBox usedBox at c1
    have hcs := And.intro (fun k => c1 k (by omega)) True.intro
    have hbx := (bAV_def x).symm
    have hb24 : (acc.length + 1) * 24 ≤ 140737488355328 := by omega
    have hb1 : acc.length ≤ 140737488355327 := by omega
    have hacc2 : (acc ++ [x] ++ (recS (data.drop (u + (6 + x.length)))).1, u + (6 + x.length) + (recS (data.drop (u + (6 + x.length)))).2) = (R1, R2) := by
      rw [← hacc]; simp [Nat.add_assoc]
    clear c1 hx hR hacc
    refine Wk ?_
    exact ⟨WS, WG, WN, _, (show data.length - (u + (6 + x.length)) < m_1 by omega), u + (6 + x.length), r, acc ++ [x], rfl, WF, WF, WF, WF, WC, WC, WC, WC, WC⟩
end
end Go.Proofs.YtaelnglalpiemaaDoor

/- Journals: Records of the reference; equal lists. -/
namespace Go.Proofs.YtaelnglalpiemaaDoor
open Go.Ab
attribute [local irreducible] Go.Ab.tyAV Go.Ab.aw Go.Ab.aops Go.Ab.kReg Go.Ab.aThen Go.Ab.aBlk Go.Ab.acond Go.Ab.aguard Go.Ab.astep Go.Ab.AStepX Go.Ab.aRet

theorem drop_two {d : List UInt8} {u : Nat} {x y : UInt8} {t : List UInt8} (h : d.drop u = x :: y :: t) (hu : u < d.length) (hu1 : u + 1 < d.length) : d[u] = x ∧ d[u + 1] = y := by
  have h1 : (d.drop u)[0]? = some x := by rw [h]; rfl
  have h2 : (d.drop u)[1]? = some y := by rw [h]; rfl
  rw [List.getElem?_drop] at h1 h2
  simp only [Nat.add_zero] at h1
  rw [List.getElem?_eq_getElem hu] at h1
  rw [List.getElem?_eq_getElem hu1] at h2
  injection h1 with h1
  injection h2 with h2
  exact ⟨h1, h2⟩
theorem num2_eq (x y : UInt8) (t : List UInt8) : ((num2 (x :: y :: t) : Nat) : Int) = 256 * (x.toNat : Int) + (y.toNat : Int) := by
  show ((256 * x.toNat + y.toNat : Nat) : Int) = _
  omega
theorem SameLists_refl (L : List (List UInt8)) (hl : L.length ≤ 1000000) (hb : ∀ r ∈ L, r.length ≤ 1000000) (k : Nat) :
    ACall Tryd.prog 31 [.slice none (L.map bAV), .slice none (L.map bAV)] k [] (.lit (.bool true)) [] := by
  refine ACall.of_body mixed Tryd.func31 rfl (by kernel_rfl) Tryd.ntmps31 (by kernel_rfl) rfl (by simp) (by simp) (by simp) fun σ N hp hpn hk hkn hfree => ?_
  refine Wk ?_
  refine go_loopF mixed (by kernel_rfl) [4, 5, 11, 12, 13, 14, 15, 16, 17, 18, 19, 20, 21, 22, 23, 24, 25, 26] [] (fun m_ s_ σ_ n_ => ∃ (u : Nat), m_ = L.length - u ∧ s_ 5 = .lit (.int .i64 u) ∧ (u ≤ L.length)) ⟨_, 0, rfl, WF, WC⟩ ?_
  intro m_1 s_1 σ_1 n_1 hs_1 hf_1 hn_1 hI_1
  obtain ⟨u, hm_1, h1_5, hu⟩ := hI_1
  have h1_0 := (hs_1.at 0 (by decide)).trans WE
  have h1_1 := (hs_1.at 1 (by decide)).trans WE
  have hlow : ∀ id, id < N → σ_1 id = σ id := fun id hid => (hf_1.at id (by omega) WQ).trans WH
  by_cases hul : u = L.length
  · subst hul
    exact W0
  · have hu1 : u < L.length := by omega
    obtain ⟨z, hz⟩ : ∃ z, L[u] = z := ⟨_, rfl⟩
    have hzb := bAV_def z
    have c1 := Same_spec z z (by rw [← hz]; have := hb _ (List.getElem_mem hu1); omega)
    rw [decide_eq_true rfl] at c1
    have hcs := And.intro c1 True.intro
    clear c1
    refine Wk ?_
    exact ⟨WS, WG, WN, _, (show L.length - (u + 1) < m_1 by omega), u + 1, rfl, WF, WC⟩

section
variable [W : W32]
set_option maxHeartbeats 1000000 in
theorem rRecords_spec (data : List UInt8) (hl : data.length ≤ 1000000) (k : Nat) :
    ACall Tryd.prog 30 [.slice none (data.map byteAV)] k [] (.tup [.slice none ((recS data).1.map bAV), .lit (.int .i64 ((recS data).2 : Nat))]) [] := by
  generalize hR : recS data = R
  obtain ⟨R1, R2⟩ := R
  simp only
  refine ACall.of_body mixed Tryd.func30 rfl (by kernel_rfl) Tryd.ntmps30 (by kernel_rfl) rfl (by simp) (by simp) (by simp) fun σ N hp hpn hk hkn hfree => ?_
  refine Wk ?_
  refine ALoop.nilrow 4 25 1 (by simp (disch := omega) [go_sem, *, -List.reduceReplicate]) ?_
  refine go_loopB (N) mixed (by kernel_rfl) (4 :: 5 :: 6 :: 7 :: 8 :: 9 :: 10 :: 11 :: 12 :: 13 :: 14 :: 15 :: 16 :: 17 :: 18 :: 19 :: 20 :: 21 :: 22 :: 23 :: 24 :: 25 :: 26 :: 27 :: 28 :: 29 :: 30 :: 31 :: 32 :: 33 :: 34 :: 35 :: 36 :: 37 :: 38 :: 39 :: 40 :: 41 :: 42 :: 43 :: 44 :: 45 :: 46 :: 47 :: 48 :: 49 :: 50 :: 51 :: 52 :: 53 :: 54 :: 55 :: 56 :: 57 :: 58 :: 59 :: 60 :: 61 :: 62 :: 63 :: 64 :: 65 :: 66 :: 67 :: 68 :: []) [] (fun m_ s_ σ_ n_ => ∃ (u : Nat) (r : Nat) (acc : List (List UInt8)), m_ = data.length - u ∧ s_ 5 = .lit (.int .i64 u) ∧ s_ 4 = .slice (some r) (acc.map bAV) ∧ σ_ (r) = .row 25 1 acc.length ∧ (N ≤ r) ∧ (r < n_) ∧ (u ≤ data.length) ∧ (acc.length ≤ u) ∧ ((acc ++ (recS (data.drop u)).1, u + (recS (data.drop u)).2) = (R1, R2))) ⟨_, 0, _, [], rfl, WF, WF, WF, WC, WC, WC, WC, WC⟩ ?_
  intro m_2 s_2 σ_2 n_2 hs_2 hf_2 hn_2 hI_2
  obtain ⟨u, r, acc, hm_2, h2_5, h2_4, e2_0, hNr, hrn, hu, hal, hacc⟩ := hI_2
  have h2_0 := (hs_2.at 0 (by decide)).trans WE
  have h2_2 := (hs_2.at 2 (by decide)).trans WE
  have h2_3 := (hs_2.at 3 (by decide)).trans WE
  have hlow : ∀ id, id < N → σ_2 id = σ id := fun id hid => (hf_2.at id (by omega) WQ).trans (by first | exact hlow id hid | exact WH)
  have hbl : (data.drop u).length = data.length - u := List.length_drop ..
  have hle : ((data.length : Int) - (u : Int)) = ((data.length - u : Nat) : Int) := by omega
  by_cases h6 : (data.drop u).length < 6
  · have hx : nextS (data.drop u) = none := by unfold nextS; rw [if_pos h6]
    rw [recS_none hx] at hacc
    simp only [List.append_nil, Nat.add_zero, Prod.mk.injEq] at hacc
    obtain ⟨rfl, rfl⟩ := hacc
    have h6i : ¬ (6 : Int) ≤ (data.length : Int) - (u : Int) := by omega
    clear hR hx
    exact WL
  · obtain ⟨x, y, t, ht, htl⟩ := two_of h6
    have hu1 : u < data.length := by omega
    have hu2 : u + 1 < data.length := by omega
    obtain ⟨hx0, hx1⟩ := drop_two ht hu1 hu2
    have hnum := num2_eq x y t
    have hn65 := num2_lt x y t
    have hxx : nextS (data.drop u) = if num2 (x :: y :: t) = 0 ∨ 4096 < num2 (x :: y :: t) ∨ t.length + 2 < 6 + num2 (x :: y :: t) then none
        else if (shaT ((t.drop 4).take (num2 (x :: y :: t)))).1.take 4 = t.take 4 then some ((t.drop 4).take (num2 (x :: y :: t))) else none := by
      unfold nextS; rw [if_neg h6, ht]; rfl
    have htl2 : t.length + 2 = data.length - u := by rw [← hbl, ht]; rfl
    generalize hn : num2 (x :: y :: t) = n at *
    have hnum2 : 256 * (x.toNat : Int) + (y.toNat : Int) = (n : Int) := hnum.symm
    have hxl := x.toNat_lt
    have hyl := y.toNat_lt
    have h6i : (6 : Int) ≤ (data.length : Int) - (u : Int) := by omega
    have hdrop : ∀ m, (data.drop (u + (2 + m))) = t.drop m := by
      intro m
      rw [← List.drop_drop, ht, ← List.drop_drop]; rfl
    clear hnum hle
    by_cases hbad : n = 0 ∨ 4096 < n ∨ t.length + 2 < 6 + n
    · rw [if_pos hbad] at hxx
      rw [recS_none hxx] at hacc
      simp only [List.append_nil, Nat.add_zero, Prod.mk.injEq] at hacc
      obtain ⟨rfl, rfl⟩ := hacc
      clear hR hxx hdrop ht htl hbl
      by_cases h0 : n = 0
      · subst h0
        clear hbad
        exact WL
      · have h0b : ((n : Int) == 0) = false := by rw [beq_eq_false_iff_ne]; omega
        by_cases h1 : 4096 < n
        · have h1i : (4096 : Int) < n := by omega
          clear hbad
          exact WL
        · have h1i : ¬ (4096 : Int) < n := by omega
          have h2 : (data.length : Int) - u - 6 < n := by omega
          clear hbad
          exact WL
    · rw [if_neg hbad] at hxx
      have h0b : ((n : Int) == 0) = false := by rw [beq_eq_false_iff_ne]; omega
      have h1i : ¬ (4096 : Int) < n := by omega
      have h2 : ¬ (data.length : Int) - u - 6 < n := by omega
      obtain ⟨x', hx'⟩ : ∃ r, (t.drop 4).take n = r := ⟨_, rfl⟩
      have hxl' : x'.length = n := by rw [← hx', List.length_take, List.length_drop]; omega
      obtain ⟨q, hq⟩ : ∃ q, t.take 4 = q := ⟨_, rfl⟩
      have hql : q.length = 4 := by rw [← hq, List.length_take]; omega
      rw [hx', hq] at hxx
      have hrb : List.drop ((u : Int) + 6).toNat (List.take ((u : Int) + 6 + (n : Int)).toNat (data.map byteAV)) = x'.map byteAV := by
        rw [show ((u : Int) + 6).toNat = u + (2 + 4) by omega, show ((u : Int) + 6 + (n : Int)).toNat = u + (2 + 4) + n by omega, List.drop_take, ← List.map_drop, ← List.map_take, hdrop 4, ← hx']
        congr 2; omega
      have hqb : List.drop ((u : Int) + 2).toNat (List.take ((u : Int) + 6).toNat (data.map byteAV)) = q.map byteAV := by
        rw [show ((u : Int) + 2).toNat = u + (2 + 0) by omega, show ((u : Int) + 6).toNat = u + (2 + 0) + 4 by omega, List.drop_take, ← List.map_drop, ← List.map_take, hdrop 0, ← hq]
        congr 2; omega
      have c1 := Sha_spec x' (by omega)
      generalize shaT x' = T at *
      have hs1 := tagAV_sz T
      have hs2 := tagAV_cell T
      obtain ⟨T, hT⟩ := T
      simp only [tagAV] at c1 hxx hs1 hs2
      have hTb : (T.map byteAV).take 4 = (T.take 4).map byteAV := by rw [List.map_take]
      have hTl : (T.take 4).length = 4 := by rw [List.length_take]; omega
      have c2 := Same_spec (T.take 4) q (by omega)
      generalize T.take 4 = S at *
      by_cases hsq : S = q
      · rw [if_pos hsq] at hxx
        rw [recS_some hxx, List.drop_drop] at hacc
        have hbx := (bAV_def x').symm
        have hb24 : (acc.length + 1) * 24 ≤ 140737488355328 := by omega
        have hb1 : acc.length ≤ 140737488355327 := by omega
        have hacc2 : (acc ++ [x'] ++ (recS (data.drop (u + 6 + n))).1, u + 6 + n + (recS (data.drop (u + 6 + n))).2) = (R1, R2) := by
          rw [← hacc, hxl']; simp [Nat.add_assoc]
        rw [decide_eq_true hsq] at c2
        have hcs := And.intro c1 (And.intro c2 True.intro)
        clear c1 c2 hR hxx hdrop ht htl hbl hacc
        refine Wk ?_
        exact ⟨WS, WG, WN, _, (show data.length - (u + 6 + n) < m_2 by omega), u + 6 + n, r, acc ++ [x'], rfl, WF, WF, WF, WC, WC, WC, WC, WC⟩
      · rw [if_neg hsq] at hxx
        rw [recS_none hxx] at hacc
        simp only [List.append_nil, Nat.add_zero, Prod.mk.injEq] at hacc
        obtain ⟨rfl, rfl⟩ := hacc
        rw [decide_eq_false hsq] at c2
        have hcs := And.intro c1 (And.intro c2 True.intro)
        clear c1 c2 hR hxx hdrop ht htl hbl
        exact WL
end
end Go.Proofs.YtaelnglalpiemaaDoor

/- Journals: Append, Replace, Restart. -/
namespace Go.Proofs.YtaelnglalpiemaaDoor
open Go.Ab
attribute [local irreducible] Go.Ab.tyAV Go.Ab.aw Go.Ab.aops Go.Ab.kReg Go.Ab.aThen Go.Ab.aBlk Go.Ab.acond Go.Ab.aguard Go.Ab.astep Go.Ab.AStepX Go.Ab.aRet
attribute [local irreducible] shaG

section
variable [W : W32]
def jAppS (d : Dv) (r : List UInt8) : Dv × Nat := if (frS r).2 = 0 then appS d (frS r).1 else (d, (frS r).2)
def frE : List (List UInt8) → Nat
  | [] => 0
  | r :: l => if (frS r).2 = 0 then frE l else (frS r).2
def jRepS (d : Dv) (l : List (List UInt8)) : Dv × Nat := if frE l = 0 then repS d (frsB l) else (d, frE l)
def trimS (d : Dv) : Dv := d.put d.act.toNat (d.data.take (recS d.data).2)
def jResS (d : Dv) : Dv := trimS (resS d)
theorem frS_len (r : List UInt8) : (frS r).1.length ≤ 4102 := by
  have := frB_len r
  unfold frS
  split
  · simp
  · split
    · simp
    · simp only; omega
theorem frS_ok {r : List UInt8} (h : (frS r).2 = 0) : (frS r).1 = frB r := by
  unfold frS at *
  split at h
  · simp at h
  · rename_i h0
    rw [if_neg h0]
    split at h
    · simp at h
    · rename_i h1
      rw [if_neg h1]
theorem jAppend_spec (d : Dv) (r : List UInt8) (hd : DvA d) (g k : Nat) :
    ACall Tryd.prog 35 [devAV d, .slice none (r.map byteAV)] k [(g, shaG)] (.tup [devAV (jAppS d r).1, .lit (.int .i64 (jAppS d r).2)]) [] := by
  have c1 := Frame_spec r g
  have h0 := hd.h0
  have h1 := hd.h1
  have hl := frS_len r
  unfold jAppS
  generalize frS r = F at *
  obtain ⟨f, e⟩ := F
  simp only [frAV] at *
  by_cases he : e = 0
  · subst he
    rw [if_pos rfl]
    have c2 := Append_spec d f hd (by omega)
    generalize appS d f = X at *
    obtain ⟨x, e2⟩ := X
    simp only at c2 ⊢
    refine ACall.of_body mixed Tryd.func35 rfl (by kernel_rfl) Tryd.ntmps35 (by kernel_rfl) rfl (by simp) (by simp) (by simp) fun σ N hp hpn hk hkn hfree => ?_
    have hd := hp _ (List.mem_singleton.2 rfl); have hdn := hpn _ (List.mem_singleton.2 rfl); simp only at hd hdn; clear hp hpn
    have hcs := And.intro c1 (And.intro c2 True.intro)
    clear c1 c2
    exact W0
  · rw [if_neg he]
    have c2 := Copied_spec d h0 h1
    have he1 : ((e : Int) != 0) = true := by simp; omega
    simp only
    refine ACall.of_body mixed Tryd.func35 rfl (by kernel_rfl) Tryd.ntmps35 (by kernel_rfl) rfl (by simp) (by simp) (by simp) fun σ N hp hpn hk hkn hfree => ?_
    have hd := hp _ (List.mem_singleton.2 rfl); have hdn := hpn _ (List.mem_singleton.2 rfl); simp only at hd hdn; clear hp hpn
    have hcs := And.intro c1 (And.intro c2 True.intro)
    clear c1 c2
    exact W0
theorem rAppend_spec (d : Dv) (r : List UInt8) (hd : DvA d) (hcap : 0 ≤ d.cap) (k : Nat) :
    ACall Tryd.prog 41 [devAV d, .slice none (r.map byteAV)] k [] (.tup [devAV (jAppS d r).1, .lit (.int .i64 (jAppS d r).2)]) [] := by
  have c1 := rFrame_spec r
  have hl := frS_len r
  unfold jAppS
  generalize frS r = F at *
  obtain ⟨f, e⟩ := F
  simp only [frAV] at *
  by_cases he : e = 0
  · subst he
    rw [if_pos rfl]
    have c2 := rWrite_spec d f false hd hcap (by omega)
    rw [show wrS d f false = appS d f from rfl] at c2
    generalize appS d f = X at *
    obtain ⟨x, e2⟩ := X
    simp only at c2 ⊢
    refine ACall.of_body mixed Tryd.func41 rfl (by kernel_rfl) Tryd.ntmps41 (by kernel_rfl) rfl (by simp) (by simp) (by simp) fun σ N hp hpn hk hkn hfree => ?_
    have hcs := And.intro c1 (And.intro c2 True.intro)
    clear c1 c2
    exact W0
  · rw [if_neg he]
    have he1 : ((e : Int) != 0) = true := by simp; omega
    simp only
    refine ACall.of_body mixed Tryd.func41 rfl (by kernel_rfl) Tryd.ntmps41 (by kernel_rfl) rfl (by simp) (by simp) (by simp) fun σ N hp hpn hk hkn hfree => ?_
    have hcs := And.intro c1 True.intro
    clear c1
    exact W0
theorem frE_drop {l : List (List UInt8)} {u : Nat} (h : u < l.length) : frE (l.drop u) = if (frS l[u]).2 = 0 then frE (l.drop (u + 1)) else (frS l[u]).2 := by
  rw [List.drop_eq_getElem_cons h, frE]
theorem frsB_drop {l : List (List UInt8)} {u : Nat} (h : u < l.length) : frsB (l.drop u) = frB l[u] ++ frsB (l.drop (u + 1)) := by
  rw [List.drop_eq_getElem_cons h, frsB, List.flatMap_cons, frsB]
theorem jReplace_spec (d : Dv) (l : List (List UInt8)) (hdv : DvA d) (hl : l.length ≤ 100) (g k : Nat) :
    ACall Tryd.prog 42 [devAV d, .slice none (l.map bAV)] k [(g, shaG)] (.tup [devAV (jRepS d l).1, .lit (.int .i64 (jRepS d l).2)]) [] := by
  have h0 := hdv.h0
  have h1 := hdv.h1
  have hJ : jRepS d l = jRepS d l := rfl
  generalize hR : jRepS d l = R at *
  obtain ⟨x, e⟩ := R
  unfold jRepS at hR
  simp only
  clear hJ
  refine ACall.of_body mixed Tryd.func42 rfl (by kernel_rfl) Tryd.ntmps42 (by kernel_rfl) rfl (by simp) (by simp) (by simp) fun σ N hp hpn hk hkn hfree => ?_
  have hd := hp _ (List.mem_singleton.2 rfl); have hdn := hpn _ (List.mem_singleton.2 rfl); simp only at hd hdn; clear hp hpn
  refine Wk ?_
  refine ALoop.nilrow 6 5 1 (by simp (disch := omega) [go_sem, *, -List.reduceReplicate]) ?_
  refine go_loopB (N+3) mixed (by kernel_rfl) [5, 6, 8, 9, 10, 13, 14, 15, 16, 17, 18, 19, 20, 21, 22, 23, 24, 25, 26, 27, 28, 29, 30] [] (fun m_ s_ σ_ n_ => ∃ (u : Nat) (r : Nat) (acc : List UInt8), m_ = l.length - u ∧ s_ 13 = .lit (.int .i64 u) ∧ s_ 6 = .slice (some r) (acc.map byteAV) ∧ σ_ (r) = .row 5 1 acc.length ∧ (N + 3 ≤ r) ∧ (r < n_) ∧ (u ≤ l.length) ∧ (acc.length ≤ 4102 * u) ∧ (frE l = frE (l.drop u)) ∧ (frsB l = acc ++ frsB (l.drop u))) ⟨_, 0, _, [], rfl, WF, WF, WF, WC, WC, WC, WC, WC, WC⟩ ?_
  intro m_1 s_1 σ_1 n_1 hs_1 hf_1 hn_1 hI_1
  obtain ⟨u, r, acc, hm_1, h1_13, h1_6, e1_0, hNr, hrn, hu, hal, hE, hB⟩ := hI_1
  have h1_2 := (hs_1.at 2 (by decide)).trans WE
  have h1_4 := (hs_1.at 4 (by decide)).trans WE
  have h1_11 := (hs_1.at 11 (by decide)).trans WE
  have h1_12 := (hs_1.at 12 (by decide)).trans WE
  have k1_0 := (hf_1.at (g) (by omega) WQ).trans WE
  have k1_1 := (hf_1.at (N) (by omega) WQ).trans WE
  have k1_2 := (hf_1.at (N+1) (by omega) WQ).trans WE
  have hlow : ∀ id, id < N → σ_1 id = σ id := fun id hid => (hf_1.at id (by omega) WQ).trans WH
  by_cases hul : u = l.length
  · subst hul
    rw [List.drop_length] at hE hB
    rw [show frsB ([] : List (List UInt8)) = [] from rfl, List.append_nil] at hB
    rw [hE, hB, if_pos (by rfl)] at hR
    have c2 := Replace_spec d acc hdv (by omega)
    rw [hR] at c2
    simp only at c2
    have hcs := And.intro c2 True.intro
    clear c2 hR hE hB
    exact W0
  · have hu1 : u < l.length := by omega
    rw [frE_drop hu1] at hE
    rw [frsB_drop hu1] at hB
    obtain ⟨z, hz⟩ : ∃ z, l[u] = z := ⟨_, rfl⟩
    rw [hz] at hE hB
    have hzb := bAV_def z
    have c1 := Frame_spec z g
    have hzl := frS_len z
    have hok : (frS z).2 = 0 → (frS z).1 = frB z := frS_ok
    generalize frS z = F at *
    obtain ⟨f, e1⟩ := F
    simp only [frAV] at *
    by_cases he : e1 = 0
    · subst he
      have hf := hok rfl
      rw [← hf] at hB
      rw [if_pos rfl] at hE
      have hB2 : frsB l = acc ++ f ++ frsB (l.drop (u + 1)) := by rw [hB, List.append_assoc]
      have hb1 : acc.length + f.length ≤ 140737488355328 := by omega
      have hcs := And.intro c1 True.intro
      clear c1 hB hok hf hR
      refine Wk ?_
      exact ⟨WS, WG, WN, _, (show l.length - (u + 1) < m_1 by omega), u + 1, r, acc ++ f, rfl, WF, WF, WF, WC, WC, WC, WC, WC, WC⟩
    · rw [if_neg he] at hE
      rw [hE, if_neg he] at hR
      injection hR with hR1 hR2
      subst hR1
      subst hR2
      have c2 := Copied_spec d h0 h1
      have he1 : ((e1 : Int) != 0) = true := by simp; omega
      have hcs := And.intro c1 (And.intro c2 True.intro)
      clear c1 c2 hok hE hB
      exact W0
theorem rReplace_spec (d : Dv) (l : List (List UInt8)) (hd : DvA d) (hcap : 0 ≤ d.cap) (hl : l.length ≤ 100) (k : Nat) :
    ACall Tryd.prog 43 [devAV d, .slice none (l.map bAV)] k [] (.tup [devAV (jRepS d l).1, .lit (.int .i64 (jRepS d l).2)]) [] := by
  have hJ : jRepS d l = jRepS d l := rfl
  generalize hR : jRepS d l = R at *
  obtain ⟨x, e⟩ := R
  unfold jRepS at hR
  simp only
  clear hJ
  refine ACall.of_body mixed Tryd.func43 rfl (by kernel_rfl) Tryd.ntmps43 (by kernel_rfl) rfl (by simp) (by simp) (by simp) fun σ N hp hpn hk hkn hfree => ?_
  refine Wk ?_
  refine ALoop.nilrow 6 5 1 (by simp (disch := omega) [go_sem, *, -List.reduceReplicate]) ?_
  refine go_loopB (N+3) mixed (by kernel_rfl) [5, 6, 7, 8, 9, 10, 11, 12, 13, 14, 15, 16, 17, 18, 19, 20, 21, 22, 23, 24, 25, 26, 27, 28, 29, 30] [] (fun m_ s_ σ_ n_ => ∃ (u : Nat) (r : Nat) (acc : List UInt8), m_ = l.length - u ∧ s_ 7 = .lit (.int .i64 u) ∧ s_ 6 = .slice (some r) (acc.map byteAV) ∧ σ_ (r) = .row 5 1 acc.length ∧ (N + 3 ≤ r) ∧ (r < n_) ∧ (u ≤ l.length) ∧ (acc.length ≤ 4102 * u) ∧ (frE l = frE (l.drop u)) ∧ (frsB l = acc ++ frsB (l.drop u))) ⟨_, 0, _, [], rfl, WF, WF, WF, WC, WC, WC, WC, WC, WC⟩ ?_
  intro m_2 s_2 σ_2 n_2 hs_2 hf_2 hn_2 hI_2
  obtain ⟨u, r, acc, hm_2, h2_7, h2_6, e2_0, hNr, hrn, hu, hal, hE, hB⟩ := hI_2
  have h2_1 := (hs_2.at 1 (by decide)).trans WE
  have h2_2 := (hs_2.at 2 (by decide)).trans WE
  have h2_4 := (hs_2.at 4 (by decide)).trans WE
  have k2_0 := (hf_2.at (N) (by omega) WQ).trans WE
  have k2_1 := (hf_2.at (N+1) (by omega) WQ).trans WE
  have hlow : ∀ id, id < N → σ_2 id = σ id := fun id hid => (hf_2.at id (by omega) WQ).trans (by first | exact hlow id hid | exact WH)
  by_cases hul : u = l.length
  · subst hul
    rw [List.drop_length] at hE hB
    rw [show frsB ([] : List (List UInt8)) = [] from rfl, List.append_nil] at hB
    rw [hE, hB, if_pos (by rfl)] at hR
    have c2 := rWrite_spec d acc true hd hcap (by omega)
    rw [show wrS d acc true = repS d acc from rfl, hR] at c2
    simp only at c2
    have hcs := And.intro c2 True.intro
    clear c2 hR hE hB
    exact W0
  · have hu1 : u < l.length := by omega
    rw [frE_drop hu1] at hE
    rw [frsB_drop hu1] at hB
    obtain ⟨z, hz⟩ : ∃ z, l[u] = z := ⟨_, rfl⟩
    rw [hz] at hE hB
    have hzb := bAV_def z
    have c1 := rFrame_spec z
    have hzl := frS_len z
    have hok : (frS z).2 = 0 → (frS z).1 = frB z := frS_ok
    generalize frS z = F at *
    obtain ⟨f, e1⟩ := F
    simp only [frAV] at *
    by_cases he : e1 = 0
    · subst he
      have hf := hok rfl
      rw [← hf] at hB
      rw [if_pos rfl] at hE
      have hB2 : frsB l = acc ++ f ++ frsB (l.drop (u + 1)) := by rw [hB, List.append_assoc]
      have hb1 : acc.length + f.length ≤ 140737488355328 := by omega
      have hcs := And.intro c1 True.intro
      clear c1 hB hok hf hR
      refine Wk ?_
      exact ⟨WS, WG, WN, _, (show l.length - (u + 1) < m_2 by omega), u + 1, r, acc ++ f, rfl, WF, WF, WF, WC, WC, WC, WC, WC, WC⟩
    · rw [if_neg he] at hE
      rw [hE, if_neg he] at hR
      injection hR with hR1 hR2
      subst hR1
      subst hR2
      have he1 : ((e1 : Int) != 0) = true := by simp; omega
      have hcs := And.intro c1 True.intro
      clear c1 hok hE hB
      exact W0
end
end Go.Proofs.YtaelnglalpiemaaDoor

/- The deck's Bytes as a row of one's own. -/
namespace Go.Proofs.YtaelnglalpiemaaDoor
open Go.Ab
attribute [local irreducible] Go.Ab.tyAV Go.Ab.aw Go.Ab.aops Go.Ab.kReg Go.Ab.aThen Go.Ab.aBlk Go.Ab.acond Go.Ab.aguard Go.Ab.astep Go.Ab.AStepX Go.Ab.aRet

theorem Bytes_row (l : List Int) (i n : Nat) (h : Dk l i) (hn : n ≤ 100000) (d k : Nat) :
    ACall Tryd.prog 52 [.ptr d [] 0, .lit (.int .i64 n)] k [(d, deckBox l i)] (.slice (some k) ((bytesD l i n).1.map byteAV)) [(d, deckBox l (bytesD l i n).2), (k, .row 5 1 (bytesD l i n).1.length)] := by
  have c1 := Next_spec l i (n + 1) h (by omega) (by omega)
  have d1 := nextD_dk (n + 1) h
  have b1 := nextD_lt l i (n + 1) (by omega)
  have hn1 : ((n + 1 : Nat) : Int) = (n : Int) + 1 := by omega
  unfold bytesD
  rw [hn1] at c1
  generalize nextD l i (n + 1) = X at *
  obtain ⟨K, j⟩ := X
  simp only at c1 d1 b1 ⊢
  clear h hn1
  have hcs := And.intro (c1 d) True.intro
  generalize hR : bytesK l K j = R
  obtain ⟨R1, R2⟩ := R
  simp only
  refine ACall.of_body mixed Tryd.func52 rfl (by kernel_rfl) Tryd.ntmps52 (by kernel_rfl) rfl (by simp) (by simp) (by simp) fun σ N hp hpn hk hkn hfree => ?_
  have hd := hp _ (List.mem_singleton.2 rfl); have hdn := hpn _ (List.mem_singleton.2 rfl); simp only at hd hdn; clear hp hpn
  clear c1
  refine Wk ?_
  refine ALoop.nilrow 5 5 1 (by simp (disch := omega) [go_sem, *, -List.reduceReplicate]) ?_
  refine go_loopB (N) mixed (by kernel_rfl) [5, 6, 11, 12, 13, 14, 15, 16, 17, 18, 19, 20] [d] (fun m_ s_ σ_ n_ => ∃ (f : Nat) (j' : Nat) (r : Nat) (acc : List UInt8), m_ = f ∧ s_ 6 = .lit (.int .i64 f) ∧ s_ 5 = .slice (some r) (acc.map byteAV) ∧ σ_ (d) = deckBox l j' ∧ σ_ (r) = .row 5 1 acc.length ∧ (N ≤ r) ∧ (r < n_) ∧ (f + acc.length ≤ 100000) ∧ (Dk l j') ∧ ((acc ++ (bytesK l f j').1, (bytesK l f j').2) = (R1, R2))) ⟨_, K, j, _, [], rfl, WF, WF, WF, WF, WC, WC, WC, WC, WC⟩ ?_
  intro m_1 s_1 σ_1 n_1 hs_1 hf_1 hn_1 hI_1
  obtain ⟨f, j', r, acc, hm_1, h1_6, h1_5, e1_0, e1_1, hNr, hrn, hfl, hdj, hacc⟩ := hI_1
  have h1_0 := (hs_1.at 0 (by decide)).trans WE
  have h1_4 := (hs_1.at 4 (by decide)).trans WE
  have hlow : ∀ id, id < N → id ≠ d → σ_1 id = σ id := fun id hid hdd => (hf_1.at id (by omega) WQ).trans WH
  have hne : ¬ r = d := by omega
  have hne2 : ¬ d = r := by omega
  cases f with
  | zero =>
    simp only [bytesK, List.append_nil, Prod.mk.injEq] at hacc
    obtain ⟨rfl, rfl⟩ := hacc
    refine Wk ?_
    refine go_result1W (E := .none) (r0 := r) [(d, deckBox l j')] (by simp (disch := omega) [go_sem, *, -List.reduceReplicate]; rfl) (by omega) (by simp (disch := omega) [go_sem]; try rfl) (fun id hid => by simp only [wr_cons, wr_nil]; try (by_cases hdd : id = d; (· (subst hdd; simp (disch := omega) [go_sem, *])); (· (simp (disch := omega) only [upd_ne]; try (first | exact hlow id hid hdd | exact hlow id hid))))) (by simp) (by simp (disch := omega) [go_sem, *, -List.reduceReplicate]; rfl) (by simp (disch := omega) [go_sem, *])
  | succ f =>
    have c1 := Next_spec l j' 256 hdj (by omega) (by omega)
    have d1 := nextD_dk 256 hdj
    have b1 := nextD_lt l j' 256 (by omega)
    rw [bytesK] at hacc
    generalize nextD l j' 256 = X at *
    obtain ⟨x, j2⟩ := X
    simp only at c1 d1 b1 hacc
    have hw : IntKind.u8.wrap (x : Int) = x := by rw [IntKind.wrap_u8]; omega
    have hbx : AV.lit (.int .u8 (x : Int)) = byteAV (UInt8.ofNat x) := by simp [byteAV, Nat.mod_eq_of_lt b1]
    have hcs := And.intro (c1 d) True.intro
    clear c1 hdj
    refine Wk ?_
    exact ⟨WS, WG, WN, _, (show (f) < m_1 by omega), f, j2, r, acc ++ [UInt8.ofNat x], rfl, WF, WF, WF, WF, WC, WC, WC, WC, WC⟩
theorem Bytes_ex (l : List Int) (i n : Nat) (h : Dk l i) (hn : n ≤ 100000) : ∃ (b : List UInt8) (j : Nat), b.length ≤ n ∧ Dk l j ∧ ∀ d k, ACall Tryd.prog 52 [.ptr d [] 0, .lit (.int .i64 n)] k [(d, deckBox l i)] (.slice (some k) (b.map byteAV)) [(d, deckBox l j), (k, .row 5 1 b.length)] :=
  ⟨_, _, bytesD_len l i n, bytesD_dk n h, fun d k => Bytes_row l i n h hn d k⟩
end Go.Proofs.YtaelnglalpiemaaDoor

/- Journals: Restart; the records of the deck. -/
namespace Go.Proofs.YtaelnglalpiemaaDoor
open Go.Ab
attribute [local irreducible] Go.Ab.tyAV Go.Ab.aw Go.Ab.aops Go.Ab.kReg Go.Ab.aThen Go.Ab.aBlk Go.Ab.acond Go.Ab.aguard Go.Ab.astep Go.Ab.AStepX Go.Ab.aRet
attribute [local irreducible] shaG

section
variable [W : W32]
theorem jRestart_spec (d : Dv) (hdv : DvA d) (g k : Nat) :
    ACall Tryd.prog 37 [devAV d] k [(g, shaG)] (devAV (jResS d)) [] := by
  have h0 := hdv.h0
  have h1 := hdv.h1
  have c1 := Restart_spec d hdv.toDvOk
  have hact := hdv.act
  unfold jResS trimS
  obtain ⟨a0, a1, act, cap, wr_, cutAt, torn, off⟩ := d
  simp only at h0 h1 hact
  rcases hact with rfl | rfl
  · have c2 := Records_spec a0 (by omega) g
    have hle := recS_le a0
    simp only [resS, Dv.data, Dv.area, Dv.put, Int.toNat_zero, if_true]
    generalize recS a0 = R at *
    obtain ⟨R1, n⟩ := R
    simp only [devAV, devM, bAV, resS] at *
    have ht : (a0.map byteAV).take n = (a0.take n).map byteAV := by rw [List.map_take]
    have hng : ¬ (a0.length : Int) < n := by omega
    generalize a0.take n = a0' at *
    refine ACall.of_body mixed Tryd.func37 rfl (by kernel_rfl) Tryd.ntmps37 (by kernel_rfl) rfl (by simp) (by simp) (by simp) fun σ N hp hpn hk hkn hfree => ?_
    have hd := hp _ (List.mem_singleton.2 rfl); have hdn := hpn _ (List.mem_singleton.2 rfl); simp only at hd hdn; clear hp hpn
    have hcs := And.intro c1 (And.intro c2 True.intro)
    clear c1 c2
    repeat (first | apply go_nil | apply go_kreg | apply go_kreg0 | apply go_kreg1 | (apply go_kregT; · (first | (simp [addT, CF, CFy, Ind, DisjF]; done) | (simp only [addT, CF, CFy, Ind]; repeat' (first | exact trivial | apply And.intro | exact Or.inl (by decide +kernel) | (refine Or.inr ⟨?_, ?_⟩ <;> (simp; try omega)))))) | apply go_then | apply go_then_exit | apply go_then_ret | apply go_blk | apply go_blk_ret | apply go_blk_here | (apply go_blk_there; · rfl) | apply go_seq | (apply go_region; · (simp only [List.length_cons, List.length_nil, Nat.reduceAdd, Nat.add_assoc]; rfl)) | apply go_skip | apply go_block | apply go_scope | apply go_label | apply go_exit | apply go_ret | (apply go_mut; (· assumption); · (simp (disch := omega) [go_sem, *, -List.reduceReplicate]; first | exact ⟨rfl, rfl⟩ | (simp [go_sem, *]; exact ⟨rfl, rfl⟩))) | (apply go_mutP; (· assumption); · (simp (disch := omega) [go_sem, *, -List.reduceReplicate]; try first | rfl | exact ⟨rfl, rfl⟩ | exact ⟨rfl, rfl, rfl⟩)) | (apply go_guard_in; (· rfl); · (simp (disch := omega) [go_sem, *, -List.reduceReplicate]; try first | rfl | omega)) | (apply go_guard_off; (· rfl); · (simp (disch := omega) [go_sem, *, -List.reduceReplicate]; try first | rfl | omega)) | (apply go_guard_no; (· rfl); · (simp (disch := omega) [go_sem, *, -List.reduceReplicate]; try rfl)) | ((first | apply go_move | apply go_assign | apply go_load | apply go_store | apply go_append | apply go_copy | apply go_copy0 | apply go_clear0 | apply go_slice3 | apply go_indexA); · (simp (disch := omega) [go_sem, *, -List.reduceReplicate]; try first | rfl | exact ⟨rfl, rfl⟩ | exact ⟨rfl, rfl, rfl⟩)) | ((first | apply go_loadv | apply go_append0 | apply go_beyond); · (simp (disch := omega) [go_sem, *, -List.reduceReplicate]; try first | rfl | exact ⟨rfl, rfl⟩ | exact ⟨rfl, rfl, rfl⟩)) | (apply go_appself; · (simp (disch := omega) [go_sem, *, -List.reduceReplicate]; try first | rfl | exact ⟨rfl, rfl⟩ | exact ⟨rfl, rfl, rfl⟩)) | ((first | (apply go_appendz; · rfl) | (apply go_new; · rfl) | (apply go_pure; · rfl)); · (simp (disch := omega) [go_sem, *, -List.reduceReplicate]; try first | rfl | exact ⟨rfl, rfl⟩ | exact ⟨rfl, rfl, rfl⟩)) | ((apply go_glob; · assumption); · (simp (disch := omega) [go_sem, *, -List.reduceReplicate]; try first | rfl | exact ⟨rfl, rfl⟩ | exact ⟨rfl, rfl, rfl⟩)) | (apply go_read1; (· rfl); · (simp (disch := omega) [go_sem, *, -List.reduceReplicate]; try first | rfl | exact ⟨rfl, rfl⟩ | exact ⟨rfl, rfl, rfl⟩)) | (apply go_rw1; (· rfl); · (simp (disch := omega) [go_sem, *, -List.reduceReplicate]; try first | rfl | exact ⟨rfl, rfl⟩ | exact ⟨rfl, rfl, rfl⟩)) | (apply go_new1; (· rfl); · (simp (disch := omega) [go_sem, *, -List.reduceReplicate]; try first | rfl | exact ⟨rfl, rfl⟩ | exact ⟨rfl, rfl, rfl⟩)) | (apply go_conv; · (simp (disch := omega) [go_sem, *, -List.reduceReplicate]; try first | rfl | exact ⟨rfl, rfl⟩ | exact ⟨rfl, rfl, rfl⟩)) | ((first | (apply go_new; · rfl) | (apply go_pure; · rfl)); · (simp (disch := omega) [go_sem, *, -List.reduceReplicate]; simp [go_sem, *]; try first | rfl | exact ⟨rfl, rfl⟩)) | (apply go_condT; · (simp (disch := omega) [go_sem, *, -List.reduceReplicate]; try first | rfl | omega; done)) | (apply go_condF; · (simp (disch := omega) [go_sem, *, -List.reduceReplicate]; try first | rfl | omega; done)) | (obtain ⟨hcall, hcs⟩ := hcs; refine go_callw (hcall _) (by simp (disch := omega) [go_sem, *, -List.reduceReplicate]; try rfl) (by simp (disch := omega) [go_sem, *, -List.reduceReplicate]; repeat' first | exact ALe.nil | exact AV.le_refl _ | exact AV.le_nils | exact AV.le_own _ _ | apply ALe.cons | apply AV.sub_agg) (by simp (disch := omega) [go_sem, *, -List.reduceReplicate]) ?_; clear hcall))
    refine go_resultI (by simp (disch := omega) [go_sem, *, -List.reduceReplicate]; rfl) (by exact (AV.sub_agg (.cons (AV.sub_agg (by repeat' first | exact ALe.nil | exact AV.le_refl _ | apply ALe.cons | ((first | apply AV.le_slices | apply AV.le_nilsE | apply AV.le_clipE); first | rfl | (simp (disch := omega) [go_sem, *, -List.reduceReplicate]; done)))) (by repeat' first | exact ALe.nil | exact AV.le_refl _ | apply ALe.cons | ((first | apply AV.le_slices | apply AV.le_nilsE | apply AV.le_clipE); first | rfl | (simp (disch := omega) [go_sem, *, -List.reduceReplicate]; done)))))) (by simp (disch := omega) [go_sem]; try rfl) (fun id hid => by simp (disch := omega) only [upd_ne, wr_cons, wr_nil]; try exact hlow id hid)
  · have c2 := Records_spec a1 (by omega) g
    have hle := recS_le a1
    simp only [resS, Dv.data, Dv.area, Dv.put, show (1 : Int).toNat = 1 from rfl, if_false, Nat.one_ne_zero]
    generalize recS a1 = R at *
    obtain ⟨R1, n⟩ := R
    simp only [devAV, devM, bAV, resS] at *
    have ht : (a1.map byteAV).take n = (a1.take n).map byteAV := by rw [List.map_take]
    have hng : ¬ (a1.length : Int) < n := by omega
    generalize a1.take n = a1' at *
    refine ACall.of_body mixed Tryd.func37 rfl (by kernel_rfl) Tryd.ntmps37 (by kernel_rfl) rfl (by simp) (by simp) (by simp) fun σ N hp hpn hk hkn hfree => ?_
    have hd := hp _ (List.mem_singleton.2 rfl); have hdn := hpn _ (List.mem_singleton.2 rfl); simp only at hd hdn; clear hp hpn
    have hcs := And.intro c1 (And.intro c2 True.intro)
    clear c1 c2
    repeat (first | apply go_nil | apply go_kreg | apply go_kreg0 | apply go_kreg1 | (apply go_kregT; · (first | (simp [addT, CF, CFy, Ind, DisjF]; done) | (simp only [addT, CF, CFy, Ind]; repeat' (first | exact trivial | apply And.intro | exact Or.inl (by decide +kernel) | (refine Or.inr ⟨?_, ?_⟩ <;> (simp; try omega)))))) | apply go_then | apply go_then_exit | apply go_then_ret | apply go_blk | apply go_blk_ret | apply go_blk_here | (apply go_blk_there; · rfl) | apply go_seq | (apply go_region; · (simp only [List.length_cons, List.length_nil, Nat.reduceAdd, Nat.add_assoc]; rfl)) | apply go_skip | apply go_block | apply go_scope | apply go_label | apply go_exit | apply go_ret | (apply go_mut; (· assumption); · (simp (disch := omega) [go_sem, *, -List.reduceReplicate]; first | exact ⟨rfl, rfl⟩ | (simp [go_sem, *]; exact ⟨rfl, rfl⟩))) | (apply go_mutP; (· assumption); · (simp (disch := omega) [go_sem, *, -List.reduceReplicate]; try first | rfl | exact ⟨rfl, rfl⟩ | exact ⟨rfl, rfl, rfl⟩)) | (apply go_guard_in; (· rfl); · (simp (disch := omega) [go_sem, *, -List.reduceReplicate]; try first | rfl | omega)) | (apply go_guard_off; (· rfl); · (simp (disch := omega) [go_sem, *, -List.reduceReplicate]; try first | rfl | omega)) | (apply go_guard_no; (· rfl); · (simp (disch := omega) [go_sem, *, -List.reduceReplicate]; try rfl)) | ((first | apply go_move | apply go_assign | apply go_load | apply go_store | apply go_append | apply go_copy | apply go_copy0 | apply go_clear0 | apply go_slice3 | apply go_indexA); · (simp (disch := omega) [go_sem, *, -List.reduceReplicate]; try first | rfl | exact ⟨rfl, rfl⟩ | exact ⟨rfl, rfl, rfl⟩)) | ((first | apply go_loadv | apply go_append0 | apply go_beyond); · (simp (disch := omega) [go_sem, *, -List.reduceReplicate]; try first | rfl | exact ⟨rfl, rfl⟩ | exact ⟨rfl, rfl, rfl⟩)) | (apply go_appself; · (simp (disch := omega) [go_sem, *, -List.reduceReplicate]; try first | rfl | exact ⟨rfl, rfl⟩ | exact ⟨rfl, rfl, rfl⟩)) | ((first | (apply go_appendz; · rfl) | (apply go_new; · rfl) | (apply go_pure; · rfl)); · (simp (disch := omega) [go_sem, *, -List.reduceReplicate]; try first | rfl | exact ⟨rfl, rfl⟩ | exact ⟨rfl, rfl, rfl⟩)) | ((apply go_glob; · assumption); · (simp (disch := omega) [go_sem, *, -List.reduceReplicate]; try first | rfl | exact ⟨rfl, rfl⟩ | exact ⟨rfl, rfl, rfl⟩)) | (apply go_read1; (· rfl); · (simp (disch := omega) [go_sem, *, -List.reduceReplicate]; try first | rfl | exact ⟨rfl, rfl⟩ | exact ⟨rfl, rfl, rfl⟩)) | (apply go_rw1; (· rfl); · (simp (disch := omega) [go_sem, *, -List.reduceReplicate]; try first | rfl | exact ⟨rfl, rfl⟩ | exact ⟨rfl, rfl, rfl⟩)) | (apply go_new1; (· rfl); · (simp (disch := omega) [go_sem, *, -List.reduceReplicate]; try first | rfl | exact ⟨rfl, rfl⟩ | exact ⟨rfl, rfl, rfl⟩)) | (apply go_conv; · (simp (disch := omega) [go_sem, *, -List.reduceReplicate]; try first | rfl | exact ⟨rfl, rfl⟩ | exact ⟨rfl, rfl, rfl⟩)) | ((first | (apply go_new; · rfl) | (apply go_pure; · rfl)); · (simp (disch := omega) [go_sem, *, -List.reduceReplicate]; simp [go_sem, *]; try first | rfl | exact ⟨rfl, rfl⟩)) | (apply go_condT; · (simp (disch := omega) [go_sem, *, -List.reduceReplicate]; try first | rfl | omega; done)) | (apply go_condF; · (simp (disch := omega) [go_sem, *, -List.reduceReplicate]; try first | rfl | omega; done)) | (obtain ⟨hcall, hcs⟩ := hcs; refine go_callw (hcall _) (by simp (disch := omega) [go_sem, *, -List.reduceReplicate]; try rfl) (by simp (disch := omega) [go_sem, *, -List.reduceReplicate]; repeat' first | exact ALe.nil | exact AV.le_refl _ | exact AV.le_nils | exact AV.le_own _ _ | apply ALe.cons | apply AV.sub_agg) (by simp (disch := omega) [go_sem, *, -List.reduceReplicate]) ?_; clear hcall))
    refine go_resultI (by simp (disch := omega) [go_sem, *, -List.reduceReplicate]; rfl) (by exact (AV.sub_agg (.cons (AV.sub_agg (by repeat' first | exact ALe.nil | exact AV.le_refl _ | apply ALe.cons | ((first | apply AV.le_slices | apply AV.le_nilsE | apply AV.le_clipE); first | rfl | (simp (disch := omega) [go_sem, *, -List.reduceReplicate]; done)))) (by repeat' first | exact ALe.nil | exact AV.le_refl _ | apply ALe.cons | ((first | apply AV.le_slices | apply AV.le_nilsE | apply AV.le_clipE); first | rfl | (simp (disch := omega) [go_sem, *, -List.reduceReplicate]; done)))))) (by simp (disch := omega) [go_sem]; try rfl) (fun id hid => by simp (disch := omega) only [upd_ne, wr_cons, wr_nil]; try exact hlow id hid)
theorem rRestartJ_spec (d : Dv) (hdv : DvA d) (k : Nat) :
    ACall Tryd.prog 45 [devAV d] k [] (devAV (jResS d)) [] := by
  have h0 := hdv.h0
  have h1 := hdv.h1
  have c1 := rRestart_spec d
  have hrs : DvA (resS d) := ⟨⟨h0, h1, hdv.w0, hdv.w1⟩, hdv.act, hdv.cap⟩
  have c2 := rData_spec (resS d) hrs
  have hact := hdv.act
  unfold jResS trimS
  obtain ⟨a0, a1, act, cap, wr_, cutAt, torn, off⟩ := d
  simp only at h0 h1 hact
  rcases hact with rfl | rfl
  · have c3 := rRecords_spec a0 (by omega)
    have hle := recS_le a0
    simp only [resS, Dv.data, Dv.area, Dv.put, Int.toNat_zero, if_true] at *
    generalize recS a0 = R at *
    obtain ⟨R1, n⟩ := R
    simp only [devAV, devM, bAV, resS] at *
    have ht : (a0.map byteAV).take n = (a0.take n).map byteAV := by rw [List.map_take]
    have hng : ¬ (a0.length : Int) < n := by omega
    have hlt : (a0.take n).length = n := by rw [List.length_take]; omega
    generalize a0.take n = a0' at *
    have h10 := and10
    refine ACall.of_body mixed Tryd.func45 rfl (by kernel_rfl) Tryd.ntmps45 (by kernel_rfl) rfl (by simp) (by simp) (by simp) fun σ N hp hpn hk hkn hfree => ?_
    have hcs := And.intro c1 (And.intro c2 (And.intro c3 (And.intro c2 True.intro)))
    clear c1 c2 c3
    repeat (first | apply go_nil | apply go_kreg | apply go_kreg0 | apply go_kreg1 | (apply go_kregT; · (first | (simp [addT, CF, CFy, Ind, DisjF]; done) | (simp only [addT, CF, CFy, Ind]; repeat' (first | exact trivial | apply And.intro | exact Or.inl (by decide +kernel) | (refine Or.inr ⟨?_, ?_⟩ <;> (simp; try omega)))))) | apply go_then | apply go_then_exit | apply go_then_ret | apply go_blk | apply go_blk_ret | apply go_blk_here | (apply go_blk_there; · rfl) | apply go_seq | (apply go_region; · (simp only [List.length_cons, List.length_nil, Nat.reduceAdd, Nat.add_assoc]; rfl)) | apply go_skip | apply go_block | apply go_scope | apply go_label | apply go_exit | apply go_ret | (apply go_mut; (· assumption); · (simp (disch := omega) [go_sem, *, -List.reduceReplicate]; first | exact ⟨rfl, rfl⟩ | (simp [go_sem, *]; exact ⟨rfl, rfl⟩))) | (apply go_mutP; (· assumption); · (simp (disch := omega) [go_sem, *, -List.reduceReplicate]; try first | rfl | exact ⟨rfl, rfl⟩ | exact ⟨rfl, rfl, rfl⟩)) | (apply go_guard_in; (· rfl); · (simp (disch := omega) [go_sem, *, -List.reduceReplicate]; try first | rfl | omega)) | (apply go_guard_off; (· rfl); · (simp (disch := omega) [go_sem, *, -List.reduceReplicate]; try first | rfl | omega)) | (apply go_guard_no; (· rfl); · (simp (disch := omega) [go_sem, *, -List.reduceReplicate]; try rfl)) | ((first | apply go_move | apply go_assign | apply go_load | apply go_store | apply go_append | apply go_copy | apply go_copy0 | apply go_clear0 | apply go_slice3 | apply go_indexA); · (simp (disch := omega) [go_sem, *, -List.reduceReplicate]; try first | rfl | exact ⟨rfl, rfl⟩ | exact ⟨rfl, rfl, rfl⟩)) | ((first | apply go_loadv | apply go_append0 | apply go_beyond); · (simp (disch := omega) [go_sem, *, -List.reduceReplicate]; try first | rfl | exact ⟨rfl, rfl⟩ | exact ⟨rfl, rfl, rfl⟩)) | (apply go_appself; · (simp (disch := omega) [go_sem, *, -List.reduceReplicate]; try first | rfl | exact ⟨rfl, rfl⟩ | exact ⟨rfl, rfl, rfl⟩)) | ((first | (apply go_appendz; · rfl) | (apply go_new; · rfl) | (apply go_pure; · rfl)); · (simp (disch := omega) [go_sem, *, -List.reduceReplicate]; try first | rfl | exact ⟨rfl, rfl⟩ | exact ⟨rfl, rfl, rfl⟩)) | ((apply go_glob; · assumption); · (simp (disch := omega) [go_sem, *, -List.reduceReplicate]; try first | rfl | exact ⟨rfl, rfl⟩ | exact ⟨rfl, rfl, rfl⟩)) | (apply go_read1; (· rfl); · (simp (disch := omega) [go_sem, *, -List.reduceReplicate]; try first | rfl | exact ⟨rfl, rfl⟩ | exact ⟨rfl, rfl, rfl⟩)) | (apply go_rw1; (· rfl); · (simp (disch := omega) [go_sem, *, -List.reduceReplicate]; try first | rfl | exact ⟨rfl, rfl⟩ | exact ⟨rfl, rfl, rfl⟩)) | (apply go_new1; (· rfl); · (simp (disch := omega) [go_sem, *, -List.reduceReplicate]; try first | rfl | exact ⟨rfl, rfl⟩ | exact ⟨rfl, rfl, rfl⟩)) | (apply go_conv; · (simp (disch := omega) [go_sem, *, -List.reduceReplicate]; try first | rfl | exact ⟨rfl, rfl⟩ | exact ⟨rfl, rfl, rfl⟩)) | ((first | (apply go_new; · rfl) | (apply go_pure; · rfl)); · (simp (disch := omega) [go_sem, *, -List.reduceReplicate]; simp [go_sem, *]; try first | rfl | exact ⟨rfl, rfl⟩)) | (apply go_condT; · (simp (disch := omega) [go_sem, *, -List.reduceReplicate]; try first | rfl | omega; done)) | (apply go_condF; · (simp (disch := omega) [go_sem, *, -List.reduceReplicate]; try first | rfl | omega; done)) | (obtain ⟨hcall, hcs⟩ := hcs; refine go_callw (hcall _) (by simp (disch := omega) [go_sem, *, -List.reduceReplicate]; try rfl) (by simp (disch := omega) [go_sem, *, -List.reduceReplicate]; repeat' first | exact ALe.nil | exact AV.le_refl _ | exact AV.le_nils | exact AV.le_own _ _ | apply ALe.cons | apply AV.sub_agg) (by simp (disch := omega) [go_sem, *, -List.reduceReplicate]) ?_; clear hcall))
    refine go_resultI (by simp (disch := omega) [go_sem, *, -List.reduceReplicate]; rfl) (by exact (AV.sub_agg (.cons (AV.sub_agg (by repeat' first | exact ALe.nil | exact AV.le_refl _ | apply ALe.cons | ((first | apply AV.le_slices | apply AV.le_nilsE | apply AV.le_clipE); first | rfl | (simp (disch := omega) [go_sem, *, -List.reduceReplicate]; done)))) (by repeat' first | exact ALe.nil | exact AV.le_refl _ | apply ALe.cons | ((first | apply AV.le_slices | apply AV.le_nilsE | apply AV.le_clipE); first | rfl | (simp (disch := omega) [go_sem, *, -List.reduceReplicate]; done)))))) (by simp (disch := omega) [go_sem]; try rfl) (fun id hid => by simp (disch := omega) only [upd_ne, wr_cons, wr_nil]; try exact hlow id hid)
  · have c3 := rRecords_spec a1 (by omega)
    have hle := recS_le a1
    simp only [resS, Dv.data, Dv.area, Dv.put, show (1 : Int).toNat = 1 from rfl, if_false, Nat.one_ne_zero] at *
    generalize recS a1 = R at *
    obtain ⟨R1, n⟩ := R
    simp only [devAV, devM, bAV, resS] at *
    have ht : (a1.map byteAV).take n = (a1.take n).map byteAV := by rw [List.map_take]
    have hng : ¬ (a1.length : Int) < n := by omega
    have hlt : (a1.take n).length = n := by rw [List.length_take]; omega
    generalize a1.take n = a1' at *
    have h11 := and11
    refine ACall.of_body mixed Tryd.func45 rfl (by kernel_rfl) Tryd.ntmps45 (by kernel_rfl) rfl (by simp) (by simp) (by simp) fun σ N hp hpn hk hkn hfree => ?_
    have hcs := And.intro c1 (And.intro c2 (And.intro c3 (And.intro c2 True.intro)))
    clear c1 c2 c3
    repeat (first | apply go_nil | apply go_kreg | apply go_kreg0 | apply go_kreg1 | (apply go_kregT; · (first | (simp [addT, CF, CFy, Ind, DisjF]; done) | (simp only [addT, CF, CFy, Ind]; repeat' (first | exact trivial | apply And.intro | exact Or.inl (by decide +kernel) | (refine Or.inr ⟨?_, ?_⟩ <;> (simp; try omega)))))) | apply go_then | apply go_then_exit | apply go_then_ret | apply go_blk | apply go_blk_ret | apply go_blk_here | (apply go_blk_there; · rfl) | apply go_seq | (apply go_region; · (simp only [List.length_cons, List.length_nil, Nat.reduceAdd, Nat.add_assoc]; rfl)) | apply go_skip | apply go_block | apply go_scope | apply go_label | apply go_exit | apply go_ret | (apply go_mut; (· assumption); · (simp (disch := omega) [go_sem, *, -List.reduceReplicate]; first | exact ⟨rfl, rfl⟩ | (simp [go_sem, *]; exact ⟨rfl, rfl⟩))) | (apply go_mutP; (· assumption); · (simp (disch := omega) [go_sem, *, -List.reduceReplicate]; try first | rfl | exact ⟨rfl, rfl⟩ | exact ⟨rfl, rfl, rfl⟩)) | (apply go_guard_in; (· rfl); · (simp (disch := omega) [go_sem, *, -List.reduceReplicate]; try first | rfl | omega)) | (apply go_guard_off; (· rfl); · (simp (disch := omega) [go_sem, *, -List.reduceReplicate]; try first | rfl | omega)) | (apply go_guard_no; (· rfl); · (simp (disch := omega) [go_sem, *, -List.reduceReplicate]; try rfl)) | ((first | apply go_move | apply go_assign | apply go_load | apply go_store | apply go_append | apply go_copy | apply go_copy0 | apply go_clear0 | apply go_slice3 | apply go_indexA); · (simp (disch := omega) [go_sem, *, -List.reduceReplicate]; try first | rfl | exact ⟨rfl, rfl⟩ | exact ⟨rfl, rfl, rfl⟩)) | ((first | apply go_loadv | apply go_append0 | apply go_beyond); · (simp (disch := omega) [go_sem, *, -List.reduceReplicate]; try first | rfl | exact ⟨rfl, rfl⟩ | exact ⟨rfl, rfl, rfl⟩)) | (apply go_appself; · (simp (disch := omega) [go_sem, *, -List.reduceReplicate]; try first | rfl | exact ⟨rfl, rfl⟩ | exact ⟨rfl, rfl, rfl⟩)) | ((first | (apply go_appendz; · rfl) | (apply go_new; · rfl) | (apply go_pure; · rfl)); · (simp (disch := omega) [go_sem, *, -List.reduceReplicate]; try first | rfl | exact ⟨rfl, rfl⟩ | exact ⟨rfl, rfl, rfl⟩)) | ((apply go_glob; · assumption); · (simp (disch := omega) [go_sem, *, -List.reduceReplicate]; try first | rfl | exact ⟨rfl, rfl⟩ | exact ⟨rfl, rfl, rfl⟩)) | (apply go_read1; (· rfl); · (simp (disch := omega) [go_sem, *, -List.reduceReplicate]; try first | rfl | exact ⟨rfl, rfl⟩ | exact ⟨rfl, rfl, rfl⟩)) | (apply go_rw1; (· rfl); · (simp (disch := omega) [go_sem, *, -List.reduceReplicate]; try first | rfl | exact ⟨rfl, rfl⟩ | exact ⟨rfl, rfl, rfl⟩)) | (apply go_new1; (· rfl); · (simp (disch := omega) [go_sem, *, -List.reduceReplicate]; try first | rfl | exact ⟨rfl, rfl⟩ | exact ⟨rfl, rfl, rfl⟩)) | (apply go_conv; · (simp (disch := omega) [go_sem, *, -List.reduceReplicate]; try first | rfl | exact ⟨rfl, rfl⟩ | exact ⟨rfl, rfl, rfl⟩)) | ((first | (apply go_new; · rfl) | (apply go_pure; · rfl)); · (simp (disch := omega) [go_sem, *, -List.reduceReplicate]; simp [go_sem, *]; try first | rfl | exact ⟨rfl, rfl⟩)) | (apply go_condT; · (simp (disch := omega) [go_sem, *, -List.reduceReplicate]; try first | rfl | omega; done)) | (apply go_condF; · (simp (disch := omega) [go_sem, *, -List.reduceReplicate]; try first | rfl | omega; done)) | (obtain ⟨hcall, hcs⟩ := hcs; refine go_callw (hcall _) (by simp (disch := omega) [go_sem, *, -List.reduceReplicate]; try rfl) (by simp (disch := omega) [go_sem, *, -List.reduceReplicate]; repeat' first | exact ALe.nil | exact AV.le_refl _ | exact AV.le_nils | exact AV.le_own _ _ | apply ALe.cons | apply AV.sub_agg) (by simp (disch := omega) [go_sem, *, -List.reduceReplicate]) ?_; clear hcall))
    refine go_resultI (by simp (disch := omega) [go_sem, *, -List.reduceReplicate]; rfl) (by exact (AV.sub_agg (.cons (AV.sub_agg (by repeat' first | exact ALe.nil | exact AV.le_refl _ | apply ALe.cons | ((first | apply AV.le_slices | apply AV.le_nilsE | apply AV.le_clipE); first | rfl | (simp (disch := omega) [go_sem, *, -List.reduceReplicate]; done)))) (by repeat' first | exact ALe.nil | exact AV.le_refl _ | apply ALe.cons | ((first | apply AV.le_slices | apply AV.le_nilsE | apply AV.le_clipE); first | rfl | (simp (disch := omega) [go_sem, *, -List.reduceReplicate]; done)))))) (by simp (disch := omega) [go_sem]; try rfl) (fun id hid => by simp (disch := omega) only [upd_ne, wr_cons, wr_nil]; try exact hlow id hid)
end
/-- The records of a deck. -/
def RecB (l : List (List UInt8)) : Prop := ∀ r ∈ l, 0 < r.length ∧ r.length ≤ 13
def recsK (l : List Int) : Nat → Nat → List (List UInt8) × Nat
  | 0, i => ([], i)
  | f + 1, i => (((bytesD l i 12).1 ++ [u8 (f + 1)]) :: (recsK l f (bytesD l i 12).2).1, (recsK l f (bytesD l i 12).2).2)
theorem recsK_len (l : List Int) : ∀ f i, (recsK l f i).1.length = f
  | 0, i => rfl
  | f + 1, i => by simp [recsK, recsK_len l f]
theorem recsK_dk {l : List Int} : ∀ f i, Dk l i → Dk l (recsK l f i).2
  | 0, i, h => h
  | f + 1, i, h => recsK_dk f _ (bytesD_dk 12 h)
theorem recsK_B (l : List Int) : ∀ f i, RecB (recsK l f i).1
  | 0, i => fun r h => by cases h
  | f + 1, i => fun r h => by
    rw [recsK] at h
    rcases List.mem_cons.1 h with rfl | h
    · have := bytesD_len l i 12
      rw [List.length_append, List.length_singleton]; omega
    · exact recsK_B l f _ r h
theorem AV.le_sliceS {xs ys : List AV} (o : Option Nat) (h : ALe xs ys) : AV.le (.slice o xs) (.slice o ys) := fun g v hr => by
  obtain ⟨h1, h2⟩ := h.at
  cases hr with
  | slice own _ vs A c size hvl hc hm hr hs hcell hown =>
    rw [h1] at hvl hc hcell hown ⊢
    exact .slice o ys vs A c size hvl hc hm (fun i y v hy hv => by obtain ⟨x, hx, hxy⟩ := h2 i y hy; exact hxy g v (hr i x v hx hv)) hs hcell hown
theorem ALe.snoc {xs : List AV} {x y : AV} (h : AV.le x y) : ALe (xs ++ [x]) (xs ++ [y]) := by
  induction xs with
  | nil => exact .cons h .nil
  | cons z r ih => exact .cons (AV.le_refl _) ih
def recsD (l : List Int) (i n : Nat) : List (List UInt8) × Nat := recsK l (nextD l i (n + 1)).1 (nextD l i (n + 1)).2
theorem u8_lit (n : Nat) (h : n < 256) : AV.lit (.int .u8 (n : Int)) = byteAV (u8 n) := by
  show _ = AV.lit (.int .u8 ((u8 n).toNat : Int))
  rw [u8_toNat n h]
theorem records_spec (l : List Int) (i n : Nat) (h : Dk l i) (hn : n ≤ 100) (d k : Nat) :
    ACall Tryd.prog 34 [.ptr d [] 0, .lit (.int .i64 n)] k [(d, deckBox l i)] (.slice none ((recsD l i n).1.map bAV)) [(d, deckBox l (recsD l i n).2)] := by
  have c1 := Next_spec l i (n + 1) h (by omega) (by omega)
  have d1 := nextD_dk (n + 1) h
  have b1 := nextD_lt l i (n + 1) (by omega)
  have hn1 : ((n + 1 : Nat) : Int) = (n : Int) + 1 := by omega
  unfold recsD
  rw [hn1] at c1
  generalize nextD l i (n + 1) = X at *
  obtain ⟨K, j⟩ := X
  simp only at c1 d1 b1 ⊢
  clear h hn1
  have hcs := And.intro (c1 d) True.intro
  generalize hR : recsK l K j = R
  obtain ⟨R1, R2⟩ := R
  simp only
  refine ACall.of_body mixed Tryd.func34 rfl (by kernel_rfl) Tryd.ntmps34 (by kernel_rfl) rfl (by simp) (by simp) (by simp) fun σ N hp hpn hk hkn hfree => ?_
  have hd := hp _ (List.mem_singleton.2 rfl); have hdn := hpn _ (List.mem_singleton.2 rfl); simp only at hd hdn; clear hp hpn
  clear c1
  refine Wk ?_
  refine ALoop.nilrow 5 25 1 (by simp (disch := omega) [go_sem, *, -List.reduceReplicate]) ?_
  refine go_loopB (N) mixed (by kernel_rfl) [5, 6, 11, 12, 13, 14, 15, 16, 17, 18, 19, 20, 21, 22, 23] [d] (fun m_ s_ σ_ n_ => ∃ (f : Nat) (j' : Nat) (r : Nat) (acc : List (List UInt8)), m_ = f ∧ s_ 6 = .lit (.int .i64 f) ∧ s_ 5 = .slice (some r) (acc.map bAV) ∧ σ_ (d) = deckBox l j' ∧ σ_ (r) = .row 25 1 acc.length ∧ (N ≤ r) ∧ (r < n_) ∧ (f + acc.length ≤ 100) ∧ (Dk l j') ∧ ((acc ++ (recsK l f j').1, (recsK l f j').2) = (R1, R2))) ⟨_, K, j, _, [], rfl, WF, WF, WF, WF, WC, WC, WC, WC, WC⟩ ?_
  intro m_1 s_1 σ_1 n_1 hs_1 hf_1 hn_1 hI_1
  obtain ⟨f, j', r, acc, hm_1, h1_6, h1_5, e1_0, e1_1, hNr, hrn, hfl, hdj, hacc⟩ := hI_1
  have h1_0 := (hs_1.at 0 (by decide)).trans WE
  have h1_4 := (hs_1.at 4 (by decide)).trans WE
  have hlow : ∀ id, id < N → id ≠ d → σ_1 id = σ id := fun id hid hdd => (hf_1.at id (by omega) WQ).trans WH
  have hne : ¬ r = d := by omega
  have hne2 : ¬ d = r := by omega
  cases f with
  | zero =>
    simp only [recsK, List.append_nil, Prod.mk.injEq] at hacc
    obtain ⟨rfl, rfl⟩ := hacc
    refine Wk ?_
    refine go_resultWI [(d, deckBox l j')] (by simp (disch := omega) [go_sem, *, -List.reduceReplicate]; rfl) (by first | exact AV.le_refl _ | ((first | apply AV.le_slices | apply AV.le_nilsE | apply AV.le_clipE); first | rfl | (simp (disch := omega) [go_sem, *, -List.reduceReplicate]; done)) | (apply AV.sub_tup; repeat' first | exact ALe.nil | exact AV.le_refl _ | apply ALe.cons | ((first | apply AV.le_slices | apply AV.le_nilsE | apply AV.le_clipE); first | rfl | (simp (disch := omega) [go_sem, *, -List.reduceReplicate]; done)))) (by first | rfl | (simp (disch := omega) [go_sem]; done) | (simp (disch := omega) [go_sem, *]; done) | simp (disch := omega) [go_sem]) (fun id hid => by simp only [wr_cons, wr_nil]; try (by_cases hdd : id = d; (· (subst hdd; simp (disch := omega) [go_sem, *])); (· (simp (disch := omega) only [upd_ne]; try (first | exact hlow id hid hdd | exact hlow id hid))))) (by simp) (by simp (disch := omega) [go_sem, *])
  | succ f =>
    have c1 := Bytes_row l j' 12 hdj (by omega)
    have d1 := bytesD_dk 12 hdj
    have l1 := bytesD_len l j' 12
    rw [recsK] at hacc
    generalize bytesD l j' 12 = X at *
    obtain ⟨b, j2⟩ := X
    simp only at c1 d1 l1 hacc
    have hw : IntKind.u8.wrap ((f : Int) + 1) = ((f + 1 : Nat) : Int) := by rw [IntKind.wrap_u8]; omega
    have hbx : AV.lit (.int .u8 ((f : Int) + 1)) = byteAV (u8 (f + 1)) := u8_lit (f + 1) (by omega)
    have hb24 : (acc.length + 1) * 24 ≤ 140737488355328 := by omega
    have hb1 : acc.length ≤ 140737488355327 := by omega
    have hcs := And.intro (c1 d) True.intro
    clear c1 hdj hR
    repeat (first | apply go_nil | apply go_kreg | apply go_kreg0 | apply go_kreg1 | (apply go_kregT; · (first | (simp [addT, CF, CFy, Ind, DisjF]; done) | (simp only [addT, CF, CFy, Ind]; repeat' (first | exact trivial | apply And.intro | exact Or.inl (by decide +kernel) | (refine Or.inr ⟨?_, ?_⟩ <;> (simp; try omega)))))) | apply go_then | apply go_then_exit | apply go_then_ret | apply go_blk | apply go_blk_ret | apply go_blk_here | (apply go_blk_there; · rfl) | apply go_seq | apply go_skip | apply go_block | apply go_scope | apply go_label | apply go_exit | apply go_ret | (apply go_mut; (· assumption); · (simp (disch := omega) [go_sem, *, -List.reduceReplicate]; first | exact ⟨rfl, rfl⟩ | (simp [go_sem, *]; exact ⟨rfl, rfl⟩))) | (apply go_mutP; (· assumption); · (simp (disch := omega) [go_sem, *, -List.reduceReplicate]; try first | rfl | exact ⟨rfl, rfl⟩ | exact ⟨rfl, rfl, rfl⟩)) | (apply go_guard_in; (· rfl); · (simp (disch := omega) [go_sem, *, -List.reduceReplicate]; try first | rfl | omega)) | (apply go_guard_off; (· rfl); · (simp (disch := omega) [go_sem, *, -List.reduceReplicate]; try first | rfl | omega)) | (apply go_guard_no; (· rfl); · (simp (disch := omega) [go_sem, *, -List.reduceReplicate]; try rfl)) | ((first | apply go_move | apply go_assign | apply go_load | apply go_store | apply go_append | apply go_copy | apply go_copy0 | apply go_clear0 | apply go_slice3 | apply go_indexA); · (simp (disch := omega) [go_sem, *, -List.reduceReplicate]; try first | rfl | exact ⟨rfl, rfl⟩ | exact ⟨rfl, rfl, rfl⟩)) | ((first | apply go_loadv | apply go_append0 | apply go_beyond); · (simp (disch := omega) [go_sem, *, -List.reduceReplicate]; try first | rfl | exact ⟨rfl, rfl⟩ | exact ⟨rfl, rfl, rfl⟩)) | (apply go_appself; · (simp (disch := omega) [go_sem, *, -List.reduceReplicate]; try first | rfl | exact ⟨rfl, rfl⟩ | exact ⟨rfl, rfl, rfl⟩)) | ((first | (apply go_appendz; · rfl) | (apply go_new; · rfl) | (apply go_pure; · rfl)); · (simp (disch := omega) [go_sem, *, -List.reduceReplicate]; try first | rfl | exact ⟨rfl, rfl⟩ | exact ⟨rfl, rfl, rfl⟩)) | ((apply go_glob; · assumption); · (simp (disch := omega) [go_sem, *, -List.reduceReplicate]; try first | rfl | exact ⟨rfl, rfl⟩ | exact ⟨rfl, rfl, rfl⟩)) | (apply go_read1; (· rfl); · (simp (disch := omega) [go_sem, *, -List.reduceReplicate]; try first | rfl | exact ⟨rfl, rfl⟩ | exact ⟨rfl, rfl, rfl⟩)) | (apply go_rw1; (· rfl); · (simp (disch := omega) [go_sem, *, -List.reduceReplicate]; try first | rfl | exact ⟨rfl, rfl⟩ | exact ⟨rfl, rfl, rfl⟩)) | (apply go_new1; (· rfl); · (simp (disch := omega) [go_sem, *, -List.reduceReplicate]; try first | rfl | exact ⟨rfl, rfl⟩ | exact ⟨rfl, rfl, rfl⟩)) | (apply go_conv; · (simp (disch := omega) [go_sem, *, -List.reduceReplicate]; try first | rfl | exact ⟨rfl, rfl⟩ | exact ⟨rfl, rfl, rfl⟩)) | ((first | (apply go_new; · rfl) | (apply go_pure; · rfl)); · (simp (disch := omega) [go_sem, *, -List.reduceReplicate]; simp [go_sem, *]; try first | rfl | exact ⟨rfl, rfl⟩)) | (apply go_condT; · (simp (disch := omega) [go_sem, *, -List.reduceReplicate]; try first | rfl | omega; done)) | (apply go_condF; · (simp (disch := omega) [go_sem, *, -List.reduceReplicate]; try first | rfl | omega; done)) | (obtain ⟨hcall, hcs⟩ := hcs; refine go_callw (hcall _) (by simp (disch := omega) [go_sem, *, -List.reduceReplicate]; try rfl) (by simp (disch := omega) [go_sem, *, -List.reduceReplicate]; repeat' first | exact ALe.nil | exact AV.le_refl _ | exact AV.le_nils | exact AV.le_own _ _ | apply ALe.cons | apply AV.sub_agg) (by simp (disch := omega) [go_sem, *, -List.reduceReplicate]) ?_; clear hcall))
    iterate 2 ((apply go_region; (· (simp only [List.length_cons, List.length_nil, Nat.reduceAdd, Nat.add_assoc]; rfl))); repeat (first | apply go_nil | apply go_kreg | apply go_kreg0 | apply go_kreg1 | (apply go_kregT; · (first | (simp [addT, CF, CFy, Ind, DisjF]; done) | (simp only [addT, CF, CFy, Ind]; repeat' (first | exact trivial | apply And.intro | exact Or.inl (by decide +kernel) | (refine Or.inr ⟨?_, ?_⟩ <;> (simp; try omega)))))) | apply go_then | apply go_then_exit | apply go_then_ret | apply go_blk | apply go_blk_ret | apply go_blk_here | (apply go_blk_there; · rfl) | apply go_seq | apply go_skip | apply go_block | apply go_scope | apply go_label | apply go_exit | apply go_ret | (apply go_mut; (· assumption); · (simp (disch := omega) [go_sem, *, -List.reduceReplicate]; first | exact ⟨rfl, rfl⟩ | (simp [go_sem, *]; exact ⟨rfl, rfl⟩))) | (apply go_mutP; (· assumption); · (simp (disch := omega) [go_sem, *, -List.reduceReplicate]; try first | rfl | exact ⟨rfl, rfl⟩ | exact ⟨rfl, rfl, rfl⟩)) | (apply go_guard_in; (· rfl); · (simp (disch := omega) [go_sem, *, -List.reduceReplicate]; try first | rfl | omega)) | (apply go_guard_off; (· rfl); · (simp (disch := omega) [go_sem, *, -List.reduceReplicate]; try first | rfl | omega)) | (apply go_guard_no; (· rfl); · (simp (disch := omega) [go_sem, *, -List.reduceReplicate]; try rfl)) | ((first | apply go_move | apply go_assign | apply go_load | apply go_store | apply go_append | apply go_copy | apply go_copy0 | apply go_clear0 | apply go_slice3 | apply go_indexA); · (simp (disch := omega) [go_sem, *, -List.reduceReplicate]; try first | rfl | exact ⟨rfl, rfl⟩ | exact ⟨rfl, rfl, rfl⟩)) | ((first | apply go_loadv | apply go_append0 | apply go_beyond); · (simp (disch := omega) [go_sem, *, -List.reduceReplicate]; try first | rfl | exact ⟨rfl, rfl⟩ | exact ⟨rfl, rfl, rfl⟩)) | (apply go_appself; · (simp (disch := omega) [go_sem, *, -List.reduceReplicate]; try first | rfl | exact ⟨rfl, rfl⟩ | exact ⟨rfl, rfl, rfl⟩)) | ((first | (apply go_appendz; · rfl) | (apply go_new; · rfl) | (apply go_pure; · rfl)); · (simp (disch := omega) [go_sem, *, -List.reduceReplicate]; try first | rfl | exact ⟨rfl, rfl⟩ | exact ⟨rfl, rfl, rfl⟩)) | ((apply go_glob; · assumption); · (simp (disch := omega) [go_sem, *, -List.reduceReplicate]; try first | rfl | exact ⟨rfl, rfl⟩ | exact ⟨rfl, rfl, rfl⟩)) | (apply go_read1; (· rfl); · (simp (disch := omega) [go_sem, *, -List.reduceReplicate]; try first | rfl | exact ⟨rfl, rfl⟩ | exact ⟨rfl, rfl, rfl⟩)) | (apply go_rw1; (· rfl); · (simp (disch := omega) [go_sem, *, -List.reduceReplicate]; try first | rfl | exact ⟨rfl, rfl⟩ | exact ⟨rfl, rfl, rfl⟩)) | (apply go_new1; (· rfl); · (simp (disch := omega) [go_sem, *, -List.reduceReplicate]; try first | rfl | exact ⟨rfl, rfl⟩ | exact ⟨rfl, rfl, rfl⟩)) | (apply go_conv; · (simp (disch := omega) [go_sem, *, -List.reduceReplicate]; try first | rfl | exact ⟨rfl, rfl⟩ | exact ⟨rfl, rfl, rfl⟩)) | ((first | (apply go_new; · rfl) | (apply go_pure; · rfl)); · (simp (disch := omega) [go_sem, *, -List.reduceReplicate]; simp [go_sem, *]; try first | rfl | exact ⟨rfl, rfl⟩)) | (apply go_condT; · (simp (disch := omega) [go_sem, *, -List.reduceReplicate]; try first | rfl | omega; done)) | (apply go_condF; · (simp (disch := omega) [go_sem, *, -List.reduceReplicate]; try first | rfl | omega; done)) | (obtain ⟨hcall, hcs⟩ := hcs; refine go_callw (hcall _) (by simp (disch := omega) [go_sem, *, -List.reduceReplicate]; try rfl) (by simp (disch := omega) [go_sem, *, -List.reduceReplicate]; repeat' first | exact ALe.nil | exact AV.le_refl _ | exact AV.le_nils | exact AV.le_own _ _ | apply ALe.cons | apply AV.sub_agg) (by simp (disch := omega) [go_sem, *, -List.reduceReplicate]) ?_; clear hcall)))
    refine go_less (y := .slice (some r) (acc.map bAV ++ [bAV (b ++ [u8 (f + 1)])])) 5 (x := .slice (some r) (acc.map bAV ++ [.slice (some (n_1 + 2 + 2)) (b.map byteAV ++ [byteAV (u8 (f + 1))])])) (by simp (disch := omega) [go_sem, *, -List.reduceReplicate]) (AV.le_sliceS _ (ALe.snoc (AV.le_slices (by simp)))) ?_
    refine Wk ?_
    exact ⟨WS, WG, WN, _, (show (f) < m_1 by omega), f, j2, r, acc ++ [b ++ [u8 (f + 1)]], rfl, WF, WF, WF, WF, WC, WC, WC, WC, WC⟩
end Go.Proofs.YtaelnglalpiemaaDoor

/- Journals: devices that were made; the example of the chapter. -/
namespace Go.Proofs.YtaelnglalpiemaaDoor
open Go.Ab
attribute [local irreducible] Go.Ab.tyAV Go.Ab.aw Go.Ab.aops Go.Ab.kReg Go.Ab.aThen Go.Ab.aBlk Go.Ab.acond Go.Ab.aguard Go.Ab.astep Go.Ab.AStepX Go.Ab.aRet
attribute [local irreducible] shaG

structure DvC (d : Dv) (m w : Nat) : Prop where
  act : d.act = 0 ∨ d.act = 1
  cap0 : 0 ≤ d.cap
  cap : d.cap ≤ 10000000
  l0 : d.a0.length ≤ m
  l1 : d.a1.length ≤ m
  w0 : 0 ≤ d.wr
  w1 : d.wr ≤ w
theorem DvC.A {d : Dv} {m w : Nat} (h : DvC d m w) (hm : m ≤ 1000000) (hw : w ≤ 1000000) : DvA d := by
  obtain ⟨h1, h2, h3, h4, h5, h6, h7⟩ := h
  exact ⟨⟨by omega, by omega, h6, by omega⟩, h1, h3⟩
theorem DvC.more {d : Dv} {m w m' w' : Nat} (h : DvC d m w) (hm : m ≤ m') (hw : w ≤ w') : DvC d m' w' := by
  obtain ⟨h1, h2, h3, h4, h5, h6, h7⟩ := h
  exact ⟨h1, h2, h3, by omega, by omega, h6, by omega⟩
theorem DvC.data {d : Dv} {m w : Nat} (h : DvC d m w) : d.data.length ≤ m := by
  have h1 := h.l0
  have h2 := h.l1
  unfold Dv.data Dv.area
  split <;> assumption
theorem writeS_C {d : Dv} {m w i kept : Nat} {b : List UInt8} (h : DvC d m w) (hi : i = 0 ∨ i = 1) (hk : kept ≤ (d.area i).length) : DvC (writeS d i kept b).1 (m + b.length) (w + 1) := by
  obtain ⟨h1, h2, h3, h4, h5, h6, h7⟩ := h
  have hc := cutN_le d.torn b.length
  unfold writeS
  split
  · exact ⟨h1, h2, h3, by simp only; omega, by simp only; omega, h6, by simp only; omega⟩
  · split
    · exact ⟨h1, h2, h3, by simp only; omega, by simp only; omega, h6, by simp only; omega⟩
    · split
      · rcases hi with rfl | rfl <;> (simp only [Dv.area, Dv.put, if_true, if_false, Nat.one_ne_zero] at *; refine ⟨h1, h2, h3, ?_, ?_, ?_, ?_⟩ <;> simp only [List.length_append, List.length_take] <;> omega)
      · rcases hi with rfl | rfl <;> (simp only [Dv.area, Dv.put, if_true, if_false, Nat.one_ne_zero] at *; refine ⟨?_, h2, h3, ?_, ?_, ?_, ?_⟩ <;> simp only [List.length_append, List.length_take] <;> omega)
theorem appS_C {d : Dv} {m w : Nat} {b : List UInt8} (h : DvC d m w) : DvC (appS d b).1 (m + b.length) (w + 1) := by
  unfold appS; rcases h.act with e | e <;> (simp only [Dv.data, e]; exact writeS_C h (by omega) (Nat.le_refl _))
theorem repS_C {d : Dv} {m w : Nat} {b : List UInt8} (h : DvC d m w) : DvC (repS d b).1 (m + b.length) (w + 1) := by
  unfold repS; rcases h.act with e | e <;> rw [e] <;> exact writeS_C h (by omega) (by omega)
theorem cutS_C {d : Dv} {m w : Nat} {x : Int} (h : DvC d m w) : DvC (cutS d x) m w := ⟨h.act, h.cap0, h.cap, h.l0, h.l1, h.w0, h.w1⟩
theorem resS_C {d : Dv} {m w : Nat} (h : DvC d m w) : DvC (resS d) m w := ⟨h.act, h.cap0, h.cap, h.l0, h.l1, h.w0, h.w1⟩
theorem new_C {c : Nat} (h : c ≤ 1048576) : DvC (newS c).1 0 0 := by
  rw [newS, if_neg (by omega)]
  exact ⟨.inl rfl, by simp only; omega, by simp only; omega, by simp, by simp, by simp, by simp⟩

section
variable [W : W32]
theorem jAppS_C {d : Dv} {m w : Nat} {r : List UInt8} (h : DvC d m w) : DvC (jAppS d r).1 (m + 4102) (w + 1) := by
  have := frS_len r
  unfold jAppS
  split
  · exact (appS_C h).more (by omega) (Nat.le_refl _)
  · exact h.more (by omega) (by omega)
theorem trimS_C {d : Dv} {m w : Nat} (h : DvC d m w) : DvC (trimS d) m w := by
  obtain ⟨h1, h2, h3, h4, h5, h6, h7⟩ := h
  have h0 : (d.data.take (recS d.data).2).length ≤ m := by
    rw [List.length_take]
    have := DvC.data ⟨h1, h2, h3, h4, h5, h6, h7⟩
    omega
  unfold trimS Dv.put
  split
  · exact ⟨h1, h2, h3, h0, h5, h6, h7⟩
  · exact ⟨h1, h2, h3, h4, h0, h6, h7⟩
theorem jResS_C {d : Dv} {m w : Nat} (h : DvC d m w) : DvC (jResS d) m w := trimS_C (resS_C h)
theorem frsB_lenR {l : List (List UInt8)} (h : RecB l) : (frsB l).length ≤ 19 * l.length := by
  have := frsB_len l 13 (fun r hr => (h r hr).2)
  omega

set_option maxHeartbeats 4000000 in
theorem made19_ex (l : List Int) (hl : l.length ≤ 9223372036854775807) : ∃ (x : Dv) (j : Nat), DvC x 41020 10 ∧ Dk l j ∧
    ∀ k, ACall Tryd.prog 26 [.slice none (l.map intAV)] k [] (.tup [devAV x, .ptr k [] 0]) [(k, deckBox l j)] := by
  have d0 : Dk l 0 := ⟨hl, Nat.zero_le _⟩
  have c1 := New_spec l
  have c2 := Next_spec l 0 200 d0 (by omega) (by omega)
  have d2 := nextD_dk 200 d0
  have b2 := nextD_lt l 0 200 (by omega)
  generalize nextD l 0 200 = X at *
  obtain ⟨c, i1⟩ := X
  simp only at c2 d2 b2
  have c3 := New_ref ((80 + c : Nat) : Int)
  have hB := new_C (c := 80 + c) (by omega)
  have c4 := records_spec l i1 6 d2 (by omega)
  have d4 : Dk l (recsD l i1 6).2 := recsK_dk _ _ (nextD_dk _ d2)
  have l4 : (recsD l i1 6).1.length ≤ 6 := by
    unfold recsD; rw [recsK_len]; have := nextD_lt l i1 (6 + 1) (by omega); omega
  have hcast : ((80 + c : Nat) : Int) = 80 + (c : Int) := by omega
  rw [hcast] at c3 hB
  generalize newS (80 + (c : Int)) = X at *
  obtain ⟨x0, e0⟩ := X
  simp only at c3 hB
  generalize recsD l i1 6 = X at *
  obtain ⟨L, i2⟩ := X
  simp only at c4 d4 l4
  -- the device after all appends
  let step : Dv → List UInt8 → Dv := fun x r => (jAppS x r).1
  have hmade : ∀ u, u ≤ L.length → DvC ((L.take u).foldl step x0) (4102 * u) u := by
    intro u
    induction u with
    | zero => intro _; simpa using hB
    | succ u ih =>
      intro hu
      have ih := ih (by omega)
      rw [List.take_succ_eq_append_getElem (by omega), List.foldl_append]
      exact (jAppS_C ih).more (by omega) (by omega)
  have hX := hmade L.length (Nat.le_refl _)
  rw [List.take_length] at hX
  have c5 := Next_spec l i2 3 d4 (by omega) (by omega)
  have d5 := nextD_dk 3 d4
  have b5 := nextD_lt l i2 3 (by omega)
  generalize hv5 : nextD l i2 3 = X at *
  obtain ⟨v, i3⟩ := X
  simp only at c5 d5 b5
  have c6 := Next_spec l i3 12 d5 (by omega) (by omega)
  have d6 := nextD_dk 12 d5
  generalize nextD l i3 12 = X at *
  obtain ⟨t, i4⟩ := X
  simp only at c6 d6
  generalize hx1 : L.foldl step x0 = x1 at *
  have h1A := hX.A (by omega) (by omega)
  have c7 := rCut_spec x1 (t : Int) h1A.toDvOk
  have hCA := cutS_C (x := (t : Int)) hX
  generalize cutS x1 (t : Int) = xc at *
  have c8 := rAppend_spec xc [1, 2, 3, 4] (hCA.A (by omega) (by omega)) hCA.cap0
  have hDA := jAppS_C (r := [1, 2, 3, 4]) hCA
  have hb4 : ((((List.replicate 4 (AV.lit (.int .u8 0))).set 0 (.lit (.int .u8 1))).set 1 (.lit (.int .u8 2))).set 2 (.lit (.int .u8 3))).set 3 (.lit (.int .u8 4)) = ([1, 2, 3, 4] : List UInt8).map byteAV := rfl
  have hb4l : ([1, 2, 3, 4] : List UInt8).length = 4 := rfl
  generalize ([1, 2, 3, 4] : List UInt8) = b4 at *
  generalize jAppS xc b4 = X at *
  obtain ⟨x2, e2⟩ := X
  simp only at c8 hDA
  refine ⟨if v = 0 then x2 else x1, if v = 0 then i4 else i3, ?_, ?_, fun k => ?_⟩
  · split
    · exact hDA.more (by omega) (by omega)
    · exact hX.more (by omega) (by omega)
  · split <;> assumption
  refine ACall.of_body mixed Tryd.func26 rfl (by kernel_rfl) Tryd.ntmps26 (by kernel_rfl) rfl (by simp) (by simp) (by simp) fun σ N hp hpn hk hkn hfree => ?_
  have hcs := And.intro c1 (And.intro (c2 (N + 2 + 1)) (And.intro c3 (And.intro (c4 (N + 2 + 1)) True.intro)))
  clear c1 c2 c3 c4 d0 d2 hX hCA hDA
  refine Wk ?_
  refine go_loopF mixed (by kernel_rfl) [8, 20, 21, 22, 23, 24, 25, 26, 27, 28, 29, 30, 31, 32, 33, 34] [N+5+7] (fun m_ s_ σ_ n_ => ∃ (u : Nat) (y : Dv), m_ = L.length - u ∧ s_ 8 = .lit (.int .i64 u) ∧ σ_ (N+5+7) = .box 49 (devAV y) ∧ (u ≤ L.length) ∧ (y = (L.take u).foldl step x0)) ⟨_, 0, x0, rfl, WF, WF, WC, WC⟩ ?_
  intro m_1 s_1 σ_1 n_1 hs_1 hf_1 hn_1 hI_1
  obtain ⟨u, y, hm_1, h1_8, e1_0, hu, hy⟩ := hI_1
  have h1_2 := (hs_1.at 2 (by decide)).trans WE
  have h1_3 := (hs_1.at 3 (by decide)).trans WE
  have h1_4 := (hs_1.at 4 (by decide)).trans WE
  have h1_5 := (hs_1.at 5 (by decide)).trans WE
  have h1_7 := (hs_1.at 7 (by decide)).trans WE
  have k1_0 := (hf_1.at (N) (by omega) WQ).trans WE
  have k1_1 := (hf_1.at (N+2+1) (by omega) WQ).trans WE
  have hlow : ∀ id, id < N → σ_1 id = σ id := fun id hid => (hf_1.at id (by omega) WQ).trans WH
  by_cases hul : u = L.length
  · subst hul
    rw [List.take_length, hx1] at hy
    subst hy
    by_cases hv : v = 0
    · subst hv
      simp only [if_pos]
      have hcs := And.intro (c5 (N + 2 + 1)) (And.intro (c6 (N + 2 + 1)) (And.intro c7 (And.intro c8 True.intro)))
      clear c5 c6 c7 c8 hmade
      refine Wk ?_
      refine go_result1 (r0 := N+2+1) (by simp (disch := omega) [go_sem, *, -List.reduceReplicate]; rfl) (by omega) (by simp (disch := omega) [go_sem]; try rfl) (fun id hid => by simp (disch := omega) only [upd_ne, wr_cons, wr_nil]; try exact hlow id hid) (by simp (disch := omega) [go_sem, *, -List.reduceReplicate]; rfl) (by simp (disch := omega) [go_sem])
    · simp only [if_neg hv]
      have hvb : ((v : Int) == 0) = false := by rw [beq_eq_false_iff_ne]; omega
      have hcs := And.intro (c5 (N + 2 + 1)) True.intro
      clear c5 c6 c7 c8 hmade
      refine Wk ?_
      refine go_result1 (r0 := N+2+1) (by simp (disch := omega) [go_sem, *, -List.reduceReplicate]; rfl) (by omega) (by simp (disch := omega) [go_sem]; try rfl) (fun id hid => by simp (disch := omega) only [upd_ne, wr_cons, wr_nil]; try exact hlow id hid) (by simp (disch := omega) [go_sem, *, -List.reduceReplicate]; rfl) (by simp (disch := omega) [go_sem])
  · have hu1 : u < L.length := by omega
    have hyC := hmade u (by omega)
    rw [← hy] at hyC
    obtain ⟨z, hz⟩ : ∃ z, L[u] = z := ⟨_, rfl⟩
    have hzb := bAV_def z
    have q1 := rAppend_spec y z (hyC.A (by omega) (by omega)) hyC.cap0
    have hy2 : (jAppS y z).1 = (L.take (u + 1)).foldl step x0 := by
      rw [List.take_succ_eq_append_getElem hu1, List.foldl_append, ← hy, hz]; rfl
    generalize jAppS y z = X at *
    obtain ⟨y2, e3⟩ := X
    simp only at q1 hy2
    have hcs := And.intro q1 True.intro
    clear q1 c5 c6 c7 c8 hmade hyC
    refine Wk ?_
    exact ⟨WS, WG, WN, _, (show L.length - (u + 1) < m_1 by omega), u + 1, y2, rfl, WF, WF, WC, WC⟩
end
end Go.Proofs.YtaelnglalpiemaaDoor

/- The law JournalFrame. -/
namespace Go.Proofs.YtaelnglalpiemaaDoor
open Go.Ab
attribute [local irreducible] Go.Ab.tyAV Go.Ab.aw Go.Ab.aops Go.Ab.kReg Go.Ab.aThen Go.Ab.aBlk Go.Ab.acond Go.Ab.aguard Go.Ab.astep Go.Ab.AStepX Go.Ab.aRet
attribute [local irreducible] shaG

theorem xor8 (a b : UInt8) : ∃ z : UInt8, bits .xor .u8 (a.toNat : Int) (b.toNat : Int) = (z.toNat : Int) := by
  have h := IntKind.wrap_u8 (bits .xor .u8 (a.toNat : Int) (b.toNat : Int))
  have hw : IntKind.u8.wrap (bits .xor .u8 (a.toNat : Int) (b.toNat : Int)) = bits .xor .u8 (a.toNat : Int) (b.toNat : Int) := by
    simp only [bits, IntKind.wrap_u8]; omega
  rw [hw] at h
  refine ⟨u8 (bits .xor .u8 (a.toNat : Int) (b.toNat : Int)).toNat, ?_⟩
  rw [u8_toNat _ (by omega)]
  omega
section
variable [W : W32]
theorem awake19_spec (g k : Nat) : ACall Tryd.prog 32 [] k [(g, shaG)] (.lit (.bool true)) [] := by
  have c1 := Frame_spec [7] g
  have hok : frS [7] = (frB [7], 0) := rfl
  rw [hok] at c1
  have hlen : (frB [7]).length = 7 := frB_len [7]
  have h7 : RecOk [[7]] := by intro r hr; rw [List.mem_singleton.1 hr]; exact ⟨by decide, by decide⟩
  have e1 := recS_frs h7
  have hfs : frsB [[7]] = frB [7] := by simp [frsB]
  rw [hfs, hlen] at e1
  have e2 := recS_torn (l := []) (by intro r hr; cases hr) [7] 6 (by decide) (by decide)
  rw [show frsB [] ++ (frB [7]).take 6 = (frB [7]).take 6 from rfl, show frsB [] = [] from rfl] at e2
  have c2 := Records_spec (frB [7]) (by omega) g
  have c3 := Records_spec ((frB [7]).take 6) (by rw [List.length_take]; omega) g
  rw [e1] at c2
  rw [e2] at c3
  generalize frB [7] = b at *
  have ht : (b.map byteAV).take 6 = (b.take 6).map byteAV := by rw [List.map_take]
  have hl6 : (b.take 6).length = 6 := by rw [List.length_take]; omega
  generalize b.take 6 = b6 at *
  simp only [frAV, List.length_nil] at c1 c2 c3
  have hb1 : [AV.lit (.int .u8 7)] = ([7] : List UInt8).map byteAV := rfl
  have hb1l : ([7] : List UInt8).length = 1 := rfl
  clear e1 e2 hok hfs h7
  generalize ([7] : List UInt8) = b1 at *
  refine ACall.of_body mixed Tryd.func32 rfl (by kernel_rfl) Tryd.ntmps32 (by kernel_rfl) rfl (by simp) (by simp) (by simp) fun σ N hp hpn hk hkn hfree => ?_
  have hd := hp _ (List.mem_singleton.2 rfl); have hdn := hpn _ (List.mem_singleton.2 rfl); simp only at hd hdn; clear hp hpn
  have hcs := And.intro c1 (And.intro c2 (And.intro c3 True.intro))
  clear c1 c2 c3
  exact W0
theorem recS_bd (b : List UInt8) : (recS b).1.length ≤ b.length ∧ ∀ r ∈ (recS b).1, r.length ≤ 4096 := by
  generalize hn : b.length = n
  induction n using Nat.strongRecOn generalizing b with
  | ind n ih =>
    cases h : nextS b with
    | none => rw [recS_none h]; exact ⟨Nat.zero_le _, fun r hr => by cases hr⟩
    | some r =>
      have hl := nextS_len h
      have := ih (b.length - (6 + r.length)) (by omega) (b.drop (6 + r.length)) (by rw [List.length_drop])
      rw [recS_some h]
      refine ⟨by rw [List.length_cons]; omega, fun x hx => ?_⟩
      rcases List.mem_cons.1 hx with rfl | hx
      · exact hl.2.1
      · exact this.2 x hx
set_option maxHeartbeats 4000000 in
theorem jframe_core (raw0 raw : List UInt8) (m1 : Nat) (h1 : (if (300 : Int) < (raw0.length : Int) then (300 : Int) else (raw0.length : Int)) = (m1 : Int)) (h2 : m1 ≤ raw0.length) (h3 : m1 ≤ 300) (h4 : raw.length = m1) (h5 : (raw0.map byteAV).take m1 = raw.map byteAV)
    (rec0 rcd : List UInt8) (m2 : Nat) (i1 : (if (300 : Int) < (rec0.length : Int) then (300 : Int) else (rec0.length : Int)) = (m2 : Int)) (i2 : m2 ≤ rec0.length) (i3 : m2 ≤ 300) (i4 : rcd.length = m2) (i5 : (rec0.map byteAV).take m2 = rcd.map byteAV)
    (deck : List Int) (hd : deck.length ≤ 9223372036854775807) (at_ : Int) (xb : UInt8) (cut : Int) (nn : Nat) (hnn : nn < 65536) (g k : Nat) :
    ACall Tryd.prog 4 [.slice none (raw0.map byteAV), .slice none (rec0.map byteAV), .slice none (deck.map intAV), .lit (.int .i64 at_), byteAV xb, .lit (.int .i64 cut), .lit (.int .u16 nn)] k [(g, shaG)] (.lit (.bool true)) [] := by
  have a1 := Frame_spec rcd g
  have a2 := rFrame_spec rcd
  have q1 := frS_len rcd
  generalize frS rcd = F1 at *
  obtain ⟨p, e⟩ := F1
  simp only at q1
  have a5 := Same_spec p p (by omega)
  rw [decide_eq_true rfl] at a5
  obtain ⟨lng, hlng⟩ : ∃ lng : List UInt8, List.replicate (4095 + nn % 3) (0 : UInt8) = lng := ⟨_, rfl⟩
  have hll : lng.length ≤ 4097 := by rw [← hlng, List.length_replicate]; omega
  have a3 := Frame_spec lng g
  have a4 := rFrame_spec lng
  have q2 := frS_len lng
  generalize frS lng = F2 at *
  obtain ⟨u, f⟩ := F2
  simp only at q2
  have a6 := Same_spec u u (by omega)
  rw [decide_eq_true rfl] at a6
  simp only [frAV] at a1 a2 a3 a4
  obtain ⟨x, j, xC, xD, a7⟩ := made19_ex deck hd
  have xA := xC.A (by omega) (by omega)
  have a8 := rData_spec x xA
  have hb := xC.data
  generalize x.data = b at *
  have hlg : List.replicate ((4095 + ((nn % 3 : Nat) : Int)).toNat) (AV.lit (.int .u8 0)) = lng.map byteAV := by rw [show (4095 + ((nn % 3 : Nat) : Int)).toNat = 4095 + nn % 3 by omega, ← hlng, List.map_replicate]; rfl
  have e3 : ((nn : Int).tmod 3) = ((nn % 3 : Nat) : Int) := by rw [Int.tmod_eq_emod_of_nonneg (by omega)]; omega
  have hn3 : nn % 3 < 3 := Nat.mod_lt _ (by decide)
  generalize nn % 3 = v at *
  -- the cut
  have g3 := Int.emod_nonneg cut (show ((b.length : Int) + 1) ≠ 0 by omega)
  have g4 := Int.emod_lt_of_pos cut (show (0 : Int) < (b.length : Int) + 1 by omega)
  obtain ⟨jc, hjc⟩ := Int.eq_ofNat_of_zero_le g3
  have a9 := Within_spec cut (b.length + 1) (by omega) (by omega)
  have hjc2 : jc ≤ b.length := by omega
  rw [hjc] at a9
  have htk : (b.map byteAV).take jc = (b.take jc).map byteAV := by rw [List.map_take]
  have hbcl : (b.take jc).length ≤ 41020 := by rw [List.length_take]; omega
  generalize b.take jc = bc at *
  clear hlng g3 g4 hjc xC xA xD
  have main : ∀ (c : List UInt8), c.length ≤ 41020 → ∀ L : List (List UInt8), L = [raw, b, c, bc] → ∀ i (h : i < L.length), L[i].length ≤ 41020 := by
    intro c hc L hL i h
    subst hL
    have : ∀ z ∈ [raw, b, c, bc], z.length ≤ 41020 := by
      intro z hz
      simp only [List.mem_cons, List.not_mem_nil, or_false] at hz
      rcases hz with rfl | rfl | rfl | rfl <;> omega
    exact this _ (List.getElem_mem h)
  by_cases hb0 : b.length = 0
  · have hb00 : ((b.length : Int) == 0) = true := by rw [beq_iff_eq]; omega
    have hbe : b = [] := List.length_eq_zero_iff.1 hb0
    have hbce : bc = [] := by rw [hbe] at htk; simpa using htk
    subst hbce
    clear htk
    refine ACall.of_body mixed Tryd.func4 rfl (by kernel_rfl) Tryd.ntmps4 (by kernel_rfl) rfl (by simp) (by simp) (by simp) fun σ N hp hpn hk hkn hfree => ?_
    have hd := hp _ (List.mem_singleton.2 rfl); have hdn := hpn _ (List.mem_singleton.2 rfl); simp only at hd hdn; clear hp hpn
    have M : Mut (N + 80) := ⟨⟩
    have hcs := And.intro a1 (And.intro a2 (And.intro a3 (And.intro a4 (And.intro a5 (And.intro a6 (And.intro a7 (And.intro a8 True.intro)))))))
    clear a1 a2 a3 a4 a5 a6 a7 a8 main
    repeat (first | apply go_nil | apply go_kreg | apply go_kreg0 | apply go_kreg1 | (apply go_kregT; · (first | (simp [addT, CF, CFy, Ind, DisjF]; done) | (simp only [addT, CF, CFy, Ind]; repeat' (first | exact trivial | apply And.intro | exact Or.inl (by decide +kernel) | (refine Or.inr ⟨?_, ?_⟩ <;> (simp; try omega)))))) | apply go_then | apply go_then_exit | apply go_then_ret | apply go_blk | apply go_blk_ret | apply go_blk_here | (apply go_blk_there; · rfl) | apply go_seq | apply go_skip | apply go_block | apply go_scope | apply go_label | apply go_exit | apply go_ret | (apply go_mut; (· assumption); · (simp (disch := omega) [go_sem, *, -List.reduceReplicate]; first | exact ⟨rfl, rfl⟩ | (simp [go_sem, *]; exact ⟨rfl, rfl⟩))) | (apply go_mutP; (· assumption); · (simp (disch := omega) [go_sem, *, -List.reduceReplicate]; try first | rfl | exact ⟨rfl, rfl⟩ | exact ⟨rfl, rfl, rfl⟩)) | (apply go_guard_in; (· rfl); · (simp (disch := omega) [go_sem, *, -List.reduceReplicate]; try first | rfl | omega)) | (apply go_guard_off; (· rfl); · (simp (disch := omega) [go_sem, *, -List.reduceReplicate]; try first | rfl | omega)) | (apply go_guard_no; (· rfl); · (simp (disch := omega) [go_sem, *, -List.reduceReplicate]; try rfl)) | ((first | apply go_move | apply go_assign | apply go_load | apply go_store | apply go_append | apply go_copy | apply go_copy0 | apply go_clear0 | apply go_slice3 | apply go_indexA); · (simp (disch := omega) [go_sem, *, -List.reduceReplicate]; try first | rfl | exact ⟨rfl, rfl⟩ | exact ⟨rfl, rfl, rfl⟩)) | ((first | apply go_loadv | apply go_append0 | apply go_beyond); · (simp (disch := omega) [go_sem, *, -List.reduceReplicate]; try first | rfl | exact ⟨rfl, rfl⟩ | exact ⟨rfl, rfl, rfl⟩)) | (apply go_appself; · (simp (disch := omega) [go_sem, *, -List.reduceReplicate]; try first | rfl | exact ⟨rfl, rfl⟩ | exact ⟨rfl, rfl, rfl⟩)) | ((first | (apply go_appendz; · rfl) | (apply go_new; · rfl) | (apply go_pure; · rfl)); · (simp (disch := omega) [go_sem, *, -List.reduceReplicate]; try first | rfl | exact ⟨rfl, rfl⟩ | exact ⟨rfl, rfl, rfl⟩)) | ((apply go_glob; · assumption); · (simp (disch := omega) [go_sem, *, -List.reduceReplicate]; try first | rfl | exact ⟨rfl, rfl⟩ | exact ⟨rfl, rfl, rfl⟩)) | (apply go_read1; (· rfl); · (simp (disch := omega) [go_sem, *, -List.reduceReplicate]; try first | rfl | exact ⟨rfl, rfl⟩ | exact ⟨rfl, rfl, rfl⟩)) | (apply go_rw1; (· rfl); · (simp (disch := omega) [go_sem, *, -List.reduceReplicate]; try first | rfl | exact ⟨rfl, rfl⟩ | exact ⟨rfl, rfl, rfl⟩)) | (apply go_new1; (· rfl); · (simp (disch := omega) [go_sem, *, -List.reduceReplicate]; try first | rfl | exact ⟨rfl, rfl⟩ | exact ⟨rfl, rfl, rfl⟩)) | (apply go_conv; · (simp (disch := omega) [go_sem, *, -List.reduceReplicate]; try first | rfl | exact ⟨rfl, rfl⟩ | exact ⟨rfl, rfl, rfl⟩)) | ((first | (apply go_new; · rfl) | (apply go_pure; · rfl)); · (simp (disch := omega) [go_sem, *, -List.reduceReplicate]; simp [go_sem, *]; try first | rfl | exact ⟨rfl, rfl⟩)) | (apply go_condT; · (simp (disch := omega) [go_sem, *, -List.reduceReplicate]; try first | rfl | omega; done)) | (apply go_condF; · (simp (disch := omega) [go_sem, *, -List.reduceReplicate]; try first | rfl | omega; done)) | (obtain ⟨hcall, hcs⟩ := hcs; refine go_callw (hcall _) (by simp (disch := omega) [go_sem, *, -List.reduceReplicate]; try rfl) (by simp (disch := omega) [go_sem, *, -List.reduceReplicate]; repeat' first | exact ALe.nil | exact AV.le_refl _ | exact AV.le_nils | exact AV.le_own _ _ | apply ALe.cons | apply AV.sub_agg) (by simp (disch := omega) [go_sem, *, -List.reduceReplicate]) ?_; clear hcall))
    iterate 12 ((apply go_region; (· (simp only [List.length_cons, List.length_nil, Nat.reduceAdd, Nat.add_assoc]; rfl))); repeat (first | apply go_nil | apply go_kreg | apply go_kreg0 | apply go_kreg1 | (apply go_kregT; · (first | (simp [addT, CF, CFy, Ind, DisjF]; done) | (simp only [addT, CF, CFy, Ind]; repeat' (first | exact trivial | apply And.intro | exact Or.inl (by decide +kernel) | (refine Or.inr ⟨?_, ?_⟩ <;> (simp; try omega)))))) | apply go_then | apply go_then_exit | apply go_then_ret | apply go_blk | apply go_blk_ret | apply go_blk_here | (apply go_blk_there; · rfl) | apply go_seq | apply go_skip | apply go_block | apply go_scope | apply go_label | apply go_exit | apply go_ret | (apply go_mut; (· assumption); · (simp (disch := omega) [go_sem, *, -List.reduceReplicate]; first | exact ⟨rfl, rfl⟩ | (simp [go_sem, *]; exact ⟨rfl, rfl⟩))) | (apply go_mutP; (· assumption); · (simp (disch := omega) [go_sem, *, -List.reduceReplicate]; try first | rfl | exact ⟨rfl, rfl⟩ | exact ⟨rfl, rfl, rfl⟩)) | (apply go_guard_in; (· rfl); · (simp (disch := omega) [go_sem, *, -List.reduceReplicate]; try first | rfl | omega)) | (apply go_guard_off; (· rfl); · (simp (disch := omega) [go_sem, *, -List.reduceReplicate]; try first | rfl | omega)) | (apply go_guard_no; (· rfl); · (simp (disch := omega) [go_sem, *, -List.reduceReplicate]; try rfl)) | ((first | apply go_move | apply go_assign | apply go_load | apply go_store | apply go_append | apply go_copy | apply go_copy0 | apply go_clear0 | apply go_slice3 | apply go_indexA); · (simp (disch := omega) [go_sem, *, -List.reduceReplicate]; try first | rfl | exact ⟨rfl, rfl⟩ | exact ⟨rfl, rfl, rfl⟩)) | ((first | apply go_loadv | apply go_append0 | apply go_beyond); · (simp (disch := omega) [go_sem, *, -List.reduceReplicate]; try first | rfl | exact ⟨rfl, rfl⟩ | exact ⟨rfl, rfl, rfl⟩)) | (apply go_appself; · (simp (disch := omega) [go_sem, *, -List.reduceReplicate]; try first | rfl | exact ⟨rfl, rfl⟩ | exact ⟨rfl, rfl, rfl⟩)) | ((first | (apply go_appendz; · rfl) | (apply go_new; · rfl) | (apply go_pure; · rfl)); · (simp (disch := omega) [go_sem, *, -List.reduceReplicate]; try first | rfl | exact ⟨rfl, rfl⟩ | exact ⟨rfl, rfl, rfl⟩)) | ((apply go_glob; · assumption); · (simp (disch := omega) [go_sem, *, -List.reduceReplicate]; try first | rfl | exact ⟨rfl, rfl⟩ | exact ⟨rfl, rfl, rfl⟩)) | (apply go_read1; (· rfl); · (simp (disch := omega) [go_sem, *, -List.reduceReplicate]; try first | rfl | exact ⟨rfl, rfl⟩ | exact ⟨rfl, rfl, rfl⟩)) | (apply go_rw1; (· rfl); · (simp (disch := omega) [go_sem, *, -List.reduceReplicate]; try first | rfl | exact ⟨rfl, rfl⟩ | exact ⟨rfl, rfl, rfl⟩)) | (apply go_new1; (· rfl); · (simp (disch := omega) [go_sem, *, -List.reduceReplicate]; try first | rfl | exact ⟨rfl, rfl⟩ | exact ⟨rfl, rfl, rfl⟩)) | (apply go_conv; · (simp (disch := omega) [go_sem, *, -List.reduceReplicate]; try first | rfl | exact ⟨rfl, rfl⟩ | exact ⟨rfl, rfl, rfl⟩)) | ((first | (apply go_new; · rfl) | (apply go_pure; · rfl)); · (simp (disch := omega) [go_sem, *, -List.reduceReplicate]; simp [go_sem, *]; try first | rfl | exact ⟨rfl, rfl⟩)) | (apply go_condT; · (simp (disch := omega) [go_sem, *, -List.reduceReplicate]; try first | rfl | omega; done)) | (apply go_condF; · (simp (disch := omega) [go_sem, *, -List.reduceReplicate]; try first | rfl | omega; done)) | (obtain ⟨hcall, hcs⟩ := hcs; refine go_callw (hcall _) (by simp (disch := omega) [go_sem, *, -List.reduceReplicate]; try rfl) (by simp (disch := omega) [go_sem, *, -List.reduceReplicate]; repeat' first | exact ALe.nil | exact AV.le_refl _ | exact AV.le_nils | exact AV.le_own _ _ | apply ALe.cons | apply AV.sub_agg) (by simp (disch := omega) [go_sem, *, -List.reduceReplicate]) ?_; clear hcall)))
    refine go_freeze 27 (id := N + 80) (ver := 1) (size := 1) (e := 5) (xs := b.map byteAV) (k := b.length) (by simp (disch := omega) [go_sem, *, -List.reduceReplicate]) (by simp (disch := omega) [go_sem, *, -List.reduceReplicate]) (by simp (disch := omega) [go_sem, *, -List.reduceReplicate]) ?_
    have hcs := And.intro a9 True.intro
    clear a9 M
    refine Wk ?_
    refine go_loopF mixed (by kernel_rfl) [14, 29, 30, 31, 32, 33, 126, 127, 128, 129, 130, 131, 132, 133, 134, 135, 136, 137, 138, 139, 140, 141, 142, 143, 144, 145, 146, 147, 148, 149] [] (fun m_ s_ σ_ n_ => ∃ (i : Nat), m_ = 4 - i ∧ s_ 126 = .lit (.int .i64 i) ∧ (i ≤ 4)) ⟨_, 0, rfl, WF, WC⟩ ?_
    intro m_1 s_1 σ_1 n_1 hs_1 hf_1 hn_1 hI_1
    obtain ⟨i, hm_1, h1_126, hi⟩ := hI_1
    have h1_124 := (hs_1.at 124 (by decide)).trans WE
    have h1_125 := (hs_1.at 125 (by decide)).trans WE
    have k1_0 := (hf_1.at (g) (by omega) WQ).trans WE
    have hlow : ∀ id, id < N → σ_1 id = σ id := fun id hid => (hf_1.at id (by omega) WQ).trans WH
    have hcase : i = 4 ∨ i = 0 ∨ i = 1 ∨ i = 2 ∨ i = 3 := by omega
    rcases hcase with rfl | hcase
    · have hcs := And.intro (awake19_spec g) True.intro
      exact W0
    rcases hcase with rfl | hcase
    · have q1 := Records_spec raw (by omega) g
      have q2 := rRecords_spec raw (by omega)
      have q3 := recS_bd raw
      generalize recS raw = R at *
      obtain ⟨R1, R2⟩ := R
      simp only at q1 q2 q3
      have q4 := SameLists_refl R1 (by omega) (fun r hr => by have := q3.2 r hr; omega)
      have hcs := And.intro q1 (And.intro q2 (And.intro q4 True.intro))
      clear q1 q2 q3 q4
      refine Wk ?_
      exact ⟨WS, WG, WN, _, (show 4 - (1) < m_1 by omega), 1, rfl, WF, WC⟩
    rcases hcase with rfl | hcase
    · have q1 := Records_spec b (by omega) g
      have q2 := rRecords_spec b (by omega)
      have q3 := recS_bd b
      generalize recS b = R at *
      obtain ⟨R1, R2⟩ := R
      simp only at q1 q2 q3
      have q4 := SameLists_refl R1 (by omega) (fun r hr => by have := q3.2 r hr; omega)
      have hcs := And.intro q1 (And.intro q2 (And.intro q4 True.intro))
      clear q1 q2 q3 q4
      refine Wk ?_
      exact ⟨WS, WG, WN, _, (show 4 - (2) < m_1 by omega), 2, rfl, WF, WC⟩
    rcases hcase with rfl | hcase
    · have q1 := Records_spec b (by omega) g
      have q2 := rRecords_spec b (by omega)
      have q3 := recS_bd b
      generalize recS b = R at *
      obtain ⟨R1, R2⟩ := R
      simp only at q1 q2 q3
      have q4 := SameLists_refl R1 (by omega) (fun r hr => by have := q3.2 r hr; omega)
      have hcs := And.intro q1 (And.intro q2 (And.intro q4 True.intro))
      clear q1 q2 q3 q4
      refine Wk ?_
      exact ⟨WS, WG, WN, _, (show 4 - (3) < m_1 by omega), 3, rfl, WF, WC⟩
    subst hcase
    have q1 := Records_spec [] (by omega) g
    have q2 := rRecords_spec [] (by omega)
    have q3 := recS_bd []
    generalize recS [] = R at *
    obtain ⟨R1, R2⟩ := R
    simp only at q1 q2 q3
    have q4 := SameLists_refl R1 (by omega) (fun r hr => by have := q3.2 r hr; omega)
    have hcs := And.intro q1 (And.intro q2 (And.intro q4 True.intro))
    clear q1 q2 q3 q4
    refine Wk ?_
    exact ⟨WS, WG, WN, _, (show 4 - (4) < m_1 by omega), 4, rfl, WF, WC⟩
  · have g1 := Int.emod_nonneg at_ (show (b.length : Int) ≠ 0 by omega)
    have g2 := Int.emod_lt_of_pos at_ (show (0 : Int) < (b.length : Int) by omega)
    obtain ⟨jx, hjx⟩ := Int.eq_ofNat_of_zero_le g1
    have hjx2 : jx < b.length := by omega
    have a10 := Within_spec at_ b.length (by omega) (by omega)
    rw [hjx] at a10
    obtain ⟨z, hz⟩ := xor8 (b[jx]) xb
    have hset := set_bytes b jx z
    obtain ⟨y, hy⟩ : ∃ y, b.set jx z = y := ⟨_, rfl⟩
    have hyl : y.length = b.length := by rw [← hy]; simp
    rw [hy] at hset
    obtain ⟨w, hw⟩ : ∃ w, b[jx] = w := ⟨_, rfl⟩
    rw [hw] at hz
    have hset2 : (b.map byteAV).set jx (AV.lit (.int .u8 (z.toNat : Int))) = y.map byteAV := hset
    clear hset
    have hbpos : (0 : Int) < b.length := by omega
    have main := main y (by omega) [raw, b, y, bc] rfl
    clear hy g1 g2 hjx
    refine ACall.of_body mixed Tryd.func4 rfl (by kernel_rfl) Tryd.ntmps4 (by kernel_rfl) rfl (by simp) (by simp) (by simp) fun σ N hp hpn hk hkn hfree => ?_
    have hd := hp _ (List.mem_singleton.2 rfl); have hdn := hpn _ (List.mem_singleton.2 rfl); simp only at hd hdn; clear hp hpn
    have M : Mut (N + 80) := ⟨⟩
    have hcs := And.intro a1 (And.intro a2 (And.intro a3 (And.intro a4 (And.intro a5 (And.intro a6 (And.intro a7 (And.intro a8 (And.intro a10 True.intro))))))))
    clear a1 a2 a3 a4 a5 a6 a7 a8 a10
    repeat (first | apply go_nil | apply go_kreg | apply go_kreg0 | apply go_kreg1 | (apply go_kregT; · (first | (simp [addT, CF, CFy, Ind, DisjF]; done) | (simp only [addT, CF, CFy, Ind]; repeat' (first | exact trivial | apply And.intro | exact Or.inl (by decide +kernel) | (refine Or.inr ⟨?_, ?_⟩ <;> (simp; try omega)))))) | apply go_then | apply go_then_exit | apply go_then_ret | apply go_blk | apply go_blk_ret | apply go_blk_here | (apply go_blk_there; · rfl) | apply go_seq | apply go_skip | apply go_block | apply go_scope | apply go_label | apply go_exit | apply go_ret | (apply go_mut; (· assumption); · (simp (disch := omega) [go_sem, *, -List.reduceReplicate]; first | exact ⟨rfl, rfl⟩ | (simp [go_sem, *]; exact ⟨rfl, rfl⟩))) | (apply go_mutP; (· assumption); · (simp (disch := omega) [go_sem, *, -List.reduceReplicate]; try first | rfl | exact ⟨rfl, rfl⟩ | exact ⟨rfl, rfl, rfl⟩)) | (apply go_guard_in; (· rfl); · (simp (disch := omega) [go_sem, *, -List.reduceReplicate]; try first | rfl | omega)) | (apply go_guard_off; (· rfl); · (simp (disch := omega) [go_sem, *, -List.reduceReplicate]; try first | rfl | omega)) | (apply go_guard_no; (· rfl); · (simp (disch := omega) [go_sem, *, -List.reduceReplicate]; try rfl)) | ((first | apply go_move | apply go_assign | apply go_load | apply go_store | apply go_append | apply go_copy | apply go_copy0 | apply go_clear0 | apply go_slice3 | apply go_indexA); · (simp (disch := omega) [go_sem, *, -List.reduceReplicate]; try first | rfl | exact ⟨rfl, rfl⟩ | exact ⟨rfl, rfl, rfl⟩)) | ((first | apply go_loadv | apply go_append0 | apply go_beyond); · (simp (disch := omega) [go_sem, *, -List.reduceReplicate]; try first | rfl | exact ⟨rfl, rfl⟩ | exact ⟨rfl, rfl, rfl⟩)) | (apply go_appself; · (simp (disch := omega) [go_sem, *, -List.reduceReplicate]; try first | rfl | exact ⟨rfl, rfl⟩ | exact ⟨rfl, rfl, rfl⟩)) | ((first | (apply go_appendz; · rfl) | (apply go_new; · rfl) | (apply go_pure; · rfl)); · (simp (disch := omega) [go_sem, *, -List.reduceReplicate]; try first | rfl | exact ⟨rfl, rfl⟩ | exact ⟨rfl, rfl, rfl⟩)) | ((apply go_glob; · assumption); · (simp (disch := omega) [go_sem, *, -List.reduceReplicate]; try first | rfl | exact ⟨rfl, rfl⟩ | exact ⟨rfl, rfl, rfl⟩)) | (apply go_read1; (· rfl); · (simp (disch := omega) [go_sem, *, -List.reduceReplicate]; try first | rfl | exact ⟨rfl, rfl⟩ | exact ⟨rfl, rfl, rfl⟩)) | (apply go_rw1; (· rfl); · (simp (disch := omega) [go_sem, *, -List.reduceReplicate]; try first | rfl | exact ⟨rfl, rfl⟩ | exact ⟨rfl, rfl, rfl⟩)) | (apply go_new1; (· rfl); · (simp (disch := omega) [go_sem, *, -List.reduceReplicate]; try first | rfl | exact ⟨rfl, rfl⟩ | exact ⟨rfl, rfl, rfl⟩)) | (apply go_conv; · (simp (disch := omega) [go_sem, *, -List.reduceReplicate]; try first | rfl | exact ⟨rfl, rfl⟩ | exact ⟨rfl, rfl, rfl⟩)) | ((first | (apply go_new; · rfl) | (apply go_pure; · rfl)); · (simp (disch := omega) [go_sem, *, -List.reduceReplicate]; simp [go_sem, *]; try first | rfl | exact ⟨rfl, rfl⟩)) | (apply go_condT; · (simp (disch := omega) [go_sem, *, -List.reduceReplicate]; try first | rfl | omega; done)) | (apply go_condF; · (simp (disch := omega) [go_sem, *, -List.reduceReplicate]; try first | rfl | omega; done)) | (obtain ⟨hcall, hcs⟩ := hcs; refine go_callw (hcall _) (by simp (disch := omega) [go_sem, *, -List.reduceReplicate]; try rfl) (by simp (disch := omega) [go_sem, *, -List.reduceReplicate]; repeat' first | exact ALe.nil | exact AV.le_refl _ | exact AV.le_nils | exact AV.le_own _ _ | apply ALe.cons | apply AV.sub_agg) (by simp (disch := omega) [go_sem, *, -List.reduceReplicate]) ?_; clear hcall))
    iterate 13 ((apply go_region; (· (simp only [List.length_cons, List.length_nil, Nat.reduceAdd, Nat.add_assoc]; rfl))); repeat (first | apply go_nil | apply go_kreg | apply go_kreg0 | apply go_kreg1 | (apply go_kregT; · (first | (simp [addT, CF, CFy, Ind, DisjF]; done) | (simp only [addT, CF, CFy, Ind]; repeat' (first | exact trivial | apply And.intro | exact Or.inl (by decide +kernel) | (refine Or.inr ⟨?_, ?_⟩ <;> (simp; try omega)))))) | apply go_then | apply go_then_exit | apply go_then_ret | apply go_blk | apply go_blk_ret | apply go_blk_here | (apply go_blk_there; · rfl) | apply go_seq | apply go_skip | apply go_block | apply go_scope | apply go_label | apply go_exit | apply go_ret | (apply go_mut; (· assumption); · (simp (disch := omega) [go_sem, *, -List.reduceReplicate]; first | exact ⟨rfl, rfl⟩ | (simp [go_sem, *]; exact ⟨rfl, rfl⟩))) | (apply go_mutP; (· assumption); · (simp (disch := omega) [go_sem, *, -List.reduceReplicate]; try first | rfl | exact ⟨rfl, rfl⟩ | exact ⟨rfl, rfl, rfl⟩)) | (apply go_guard_in; (· rfl); · (simp (disch := omega) [go_sem, *, -List.reduceReplicate]; try first | rfl | omega)) | (apply go_guard_off; (· rfl); · (simp (disch := omega) [go_sem, *, -List.reduceReplicate]; try first | rfl | omega)) | (apply go_guard_no; (· rfl); · (simp (disch := omega) [go_sem, *, -List.reduceReplicate]; try rfl)) | ((first | apply go_move | apply go_assign | apply go_load | apply go_store | apply go_append | apply go_copy | apply go_copy0 | apply go_clear0 | apply go_slice3 | apply go_indexA); · (simp (disch := omega) [go_sem, *, -List.reduceReplicate]; try first | rfl | exact ⟨rfl, rfl⟩ | exact ⟨rfl, rfl, rfl⟩)) | ((first | apply go_loadv | apply go_append0 | apply go_beyond); · (simp (disch := omega) [go_sem, *, -List.reduceReplicate]; try first | rfl | exact ⟨rfl, rfl⟩ | exact ⟨rfl, rfl, rfl⟩)) | (apply go_appself; · (simp (disch := omega) [go_sem, *, -List.reduceReplicate]; try first | rfl | exact ⟨rfl, rfl⟩ | exact ⟨rfl, rfl, rfl⟩)) | ((first | (apply go_appendz; · rfl) | (apply go_new; · rfl) | (apply go_pure; · rfl)); · (simp (disch := omega) [go_sem, *, -List.reduceReplicate]; try first | rfl | exact ⟨rfl, rfl⟩ | exact ⟨rfl, rfl, rfl⟩)) | ((apply go_glob; · assumption); · (simp (disch := omega) [go_sem, *, -List.reduceReplicate]; try first | rfl | exact ⟨rfl, rfl⟩ | exact ⟨rfl, rfl, rfl⟩)) | (apply go_read1; (· rfl); · (simp (disch := omega) [go_sem, *, -List.reduceReplicate]; try first | rfl | exact ⟨rfl, rfl⟩ | exact ⟨rfl, rfl, rfl⟩)) | (apply go_rw1; (· rfl); · (simp (disch := omega) [go_sem, *, -List.reduceReplicate]; try first | rfl | exact ⟨rfl, rfl⟩ | exact ⟨rfl, rfl, rfl⟩)) | (apply go_new1; (· rfl); · (simp (disch := omega) [go_sem, *, -List.reduceReplicate]; try first | rfl | exact ⟨rfl, rfl⟩ | exact ⟨rfl, rfl, rfl⟩)) | (apply go_conv; · (simp (disch := omega) [go_sem, *, -List.reduceReplicate]; try first | rfl | exact ⟨rfl, rfl⟩ | exact ⟨rfl, rfl, rfl⟩)) | ((first | (apply go_new; · rfl) | (apply go_pure; · rfl)); · (simp (disch := omega) [go_sem, *, -List.reduceReplicate]; simp [go_sem, *]; try first | rfl | exact ⟨rfl, rfl⟩)) | (apply go_condT; · (simp (disch := omega) [go_sem, *, -List.reduceReplicate]; try first | rfl | omega; done)) | (apply go_condF; · (simp (disch := omega) [go_sem, *, -List.reduceReplicate]; try first | rfl | omega; done)) | (obtain ⟨hcall, hcs⟩ := hcs; refine go_callw (hcall _) (by simp (disch := omega) [go_sem, *, -List.reduceReplicate]; try rfl) (by simp (disch := omega) [go_sem, *, -List.reduceReplicate]; repeat' first | exact ALe.nil | exact AV.le_refl _ | exact AV.le_nils | exact AV.le_own _ _ | apply ALe.cons | apply AV.sub_agg) (by simp (disch := omega) [go_sem, *, -List.reduceReplicate]) ?_; clear hcall)))
    refine go_freeze 27 (id := N + 80) (ver := 1) (size := 1) (e := 5) (xs := y.map byteAV) (k := b.length) (by simp (disch := omega) [go_sem, *, -List.reduceReplicate]) (by simp (disch := omega) [go_sem, *, -List.reduceReplicate]) (by simp (disch := omega) [go_sem, *, -List.reduceReplicate]) ?_
    have hcs := And.intro a9 True.intro
    clear a9 M
    refine Wk ?_
    refine go_loopF mixed (by kernel_rfl) [14, 29, 30, 31, 32, 33, 126, 127, 128, 129, 130, 131, 132, 133, 134, 135, 136, 137, 138, 139, 140, 141, 142, 143, 144, 145, 146, 147, 148, 149] [] (fun m_ s_ σ_ n_ => ∃ (i : Nat), m_ = 4 - i ∧ s_ 126 = .lit (.int .i64 i) ∧ (i ≤ 4)) ⟨_, 0, rfl, WF, WC⟩ ?_
    intro m_2 s_2 σ_2 n_2 hs_2 hf_2 hn_2 hI_2
    obtain ⟨i, hm_2, h2_126, hi⟩ := hI_2
    have h2_124 := (hs_2.at 124 (by decide)).trans WE
    have h2_125 := (hs_2.at 125 (by decide)).trans WE
    have k2_0 := (hf_2.at (g) (by omega) WQ).trans WE
    have hlow : ∀ id, id < N → σ_2 id = σ id := fun id hid => (hf_2.at id (by omega) WQ).trans (by first | exact hlow id hid | exact WH)
    have hcase : i = 4 ∨ i = 0 ∨ i = 1 ∨ i = 2 ∨ i = 3 := by omega
    rcases hcase with rfl | hcase
    · have hcs := And.intro (awake19_spec g) True.intro
      exact W0
    rcases hcase with rfl | hcase
    · have q1 := Records_spec raw (by omega) g
      have q2 := rRecords_spec raw (by omega)
      have q3 := recS_bd raw
      generalize recS raw = R at *
      obtain ⟨R1, R2⟩ := R
      simp only at q1 q2 q3
      have q4 := SameLists_refl R1 (by omega) (fun r hr => by have := q3.2 r hr; omega)
      have hcs := And.intro q1 (And.intro q2 (And.intro q4 True.intro))
      clear q1 q2 q3 q4
      refine Wk ?_
      exact ⟨WS, WG, WN, _, (show 4 - (1) < m_2 by omega), 1, rfl, WF, WC⟩
    rcases hcase with rfl | hcase
    · have q1 := Records_spec b (by omega) g
      have q2 := rRecords_spec b (by omega)
      have q3 := recS_bd b
      generalize recS b = R at *
      obtain ⟨R1, R2⟩ := R
      simp only at q1 q2 q3
      have q4 := SameLists_refl R1 (by omega) (fun r hr => by have := q3.2 r hr; omega)
      have hcs := And.intro q1 (And.intro q2 (And.intro q4 True.intro))
      clear q1 q2 q3 q4
      refine Wk ?_
      exact ⟨WS, WG, WN, _, (show 4 - (2) < m_2 by omega), 2, rfl, WF, WC⟩
    rcases hcase with rfl | hcase
    · have q1 := Records_spec y (by omega) g
      have q2 := rRecords_spec y (by omega)
      have q3 := recS_bd y
      generalize recS y = R at *
      obtain ⟨R1, R2⟩ := R
      simp only at q1 q2 q3
      have q4 := SameLists_refl R1 (by omega) (fun r hr => by have := q3.2 r hr; omega)
      have hcs := And.intro q1 (And.intro q2 (And.intro q4 True.intro))
      clear q1 q2 q3 q4
      refine Wk ?_
      exact ⟨WS, WG, WN, _, (show 4 - (3) < m_2 by omega), 3, rfl, WF, WC⟩
    subst hcase
    have q1 := Records_spec bc (by omega) g
    have q2 := rRecords_spec bc (by omega)
    have q3 := recS_bd bc
    generalize recS bc = R at *
    obtain ⟨R1, R2⟩ := R
    simp only at q1 q2 q3
    have q4 := SameLists_refl R1 (by omega) (fun r hr => by have := q3.2 r hr; omega)
    have hcs := And.intro q1 (And.intro q2 (And.intro q4 True.intro))
    clear q1 q2 q3 q4
    refine Wk ?_
    exact ⟨WS, WG, WN, _, (show 4 - (4) < m_2 by omega), 4, rfl, WF, WC⟩
end
theorem JournalFrame_spec (raw rcd : List UInt8) (deck : List Int) (_ : ∀ n ∈ deck, (Lit.int .i64 n).wf = true) (hd : deck.length ≤ 9223372036854775807) (at_ x : Int) (w : (Lit.int .u8 x).wf = true) (cut n : Int) (w2 : (Lit.int .u16 n).wf = true) (g k : Nat) :
    ACall Tryd.prog 4 [.slice none (raw.map byteAV), .slice none (rcd.map byteAV), .slice none (deck.map intAV), .lit (.int .i64 at_), .lit (.int .u8 x), .lit (.int .i64 cut), .lit (.int .u16 n)] k [(g, shaG)] (.lit (.bool true)) [] := by
  obtain ⟨xb, hx, _⟩ := byte_of_wf w
  rw [hx]
  obtain ⟨m1, t1, p1, p2, p3, p4, p5⟩ := cutAt 300 raw
  obtain ⟨m2, t2, q1, q2, q3, q4, q5⟩ := cutAt 300 rcd
  have hn : 0 ≤ n ∧ n < 65536 := by
    have hw : IntKind.u16.min ≤ n ∧ n ≤ IntKind.u16.max := by simpa [Lit.wf] using w2
    have e1 : IntKind.u16.min = 0 := by decide
    have e2 : IntKind.u16.max = 65535 := by decide
    omega
  obtain ⟨nn, rfl⟩ := Int.eq_ofNat_of_zero_le hn.1
  haveI := w32
  exact jframe_core raw t1 m1 p1 p2 p3 p4 p5 rcd t2 m2 q1 q2 q3 q4 q5 deck hd at_ xb cut nn (by omega) g k
end Go.Proofs.YtaelnglalpiemaaDoor

/- The law JournalWrite. -/
namespace Go.Proofs.YtaelnglalpiemaaDoor
open Go.Ab
attribute [local irreducible] Go.Ab.tyAV Go.Ab.aw Go.Ab.aops Go.Ab.kReg Go.Ab.aThen Go.Ab.aBlk Go.Ab.acond Go.Ab.aguard Go.Ab.astep Go.Ab.AStepX Go.Ab.aRet
attribute [local irreducible] shaG

theorem snocNil (L : List (List UInt8)) : ALe (L.map bAV ++ [.nils]) ((L ++ [[]]).map bAV) := by
  rw [List.map_append]
  exact ALe.snoc (AV.le_nilsE rfl)

section
variable [W : W32]
theorem jRepS_C {d : Dv} {m w n : Nat} {l : List (List UInt8)} (h : DvC d m w) (hn : (frsB l).length ≤ n) : DvC (jRepS d l).1 (m + n) (w + 1) := by
  unfold jRepS
  split
  · exact (repS_C h).more (by omega) (Nat.le_refl _)
  · exact h.more (by omega) (by omega)
set_option maxHeartbeats 8000000 in
theorem jwrite_core (deck : List Int) (hd : deck.length ≤ 9223372036854775807) (rec0 rcd : List UInt8) (m2 : Nat) (i1 : (if (100 : Int) < (rec0.length : Int) then (100 : Int) else (rec0.length : Int)) = (m2 : Int)) (i2 : m2 ≤ rec0.length) (i3 : m2 ≤ 100) (i4 : rcd.length = m2) (i5 : (rec0.map byteAV).take m2 = rcd.map byteAV)
    (torn t30 : Int) (ht : torn % 30 = t30) (g k : Nat) :
    ACall Tryd.prog 6 [.slice none (deck.map intAV), .slice none (rec0.map byteAV), .lit (.int .i64 torn)] k [(g, shaG)] (.lit (.bool true)) [] := by
  have w1 := Within_spec torn 30 (by omega) (by omega)
  rw [ht] at w1
  obtain ⟨x, j, xC, xD, m1⟩ := made19_ex deck hd
  have r1 := records_spec deck j 4 xD (by omega)
  have r2 : (recsD deck j 4).1.length ≤ 4 := by
    unfold recsD; rw [recsK_len]; have := nextD_lt deck j (4 + 1) (by omega); omega
  have r3 : RecB (recsD deck j 4).1 := recsK_B _ _ _
  generalize recsD deck j 4 = X at *
  obtain ⟨L, j2⟩ := X
  simp only at r1 r2 r3
  have hLl := frsB_lenR r3
  have hLl2 : (frsB (L ++ [[]])).length ≤ 100 := by rw [frsB_snoc, List.length_append, frB_len]; simp; omega
  have xA := xC.A (by omega) (by omega)
  have g1 := rCut_spec x t30 xA.toDvOk
  have g2 := rRestart_spec x
  have b1 := cutS_C (x := t30) xC
  have b2 := resS_C xC
  generalize cutS x t30 = y1 at *
  generalize resS x = y2 at *
  refine ACall.of_body mixed Tryd.func6 rfl (by kernel_rfl) Tryd.ntmps6 (by kernel_rfl) rfl (by simp) (by simp) (by simp) fun σ N hp hpn hk hkn hfree => ?_
  have hd := hp _ (List.mem_singleton.2 rfl); have hdn := hpn _ (List.mem_singleton.2 rfl); simp only at hd hdn; clear hp hpn
  have hcs := And.intro m1 (And.intro (r1 (N + 7 + 1)) (And.intro w1 (And.intro g1 (And.intro g2 True.intro))))
  clear m1 r1 w1 g1 g2 xA ht
  refine Wk ?_
  obtain ⟨LD, hLD⟩ : ∃ LD : List Dv, [devAV x, devAV y1, devAV y2] = LD.map devAV ∧ LD.length = 3 ∧ ∀ d ∈ LD, DvC d 41020 10 := ⟨[x, y1, y2], rfl, rfl, by intro d hdd; simp at hdd; rcases hdd with rfl | rfl | rfl <;> assumption⟩
  obtain ⟨hLD, hLDl, hLB⟩ := hLD
  refine go_loopF mixed (by kernel_rfl) (6 :: 11 :: 12 :: 13 :: 14 :: 15 :: 16 :: 17 :: 18 :: 19 :: 20 :: 21 :: 22 :: 23 :: 45 :: 46 :: 47 :: 48 :: 49 :: 50 :: 51 :: 52 :: 53 :: 54 :: 55 :: 56 :: 57 :: 58 :: 59 :: 60 :: 61 :: 62 :: 63 :: 64 :: 65 :: 66 :: 67 :: 68 :: 69 :: 70 :: 71 :: 72 :: 73 :: 74 :: 75 :: 76 :: 77 :: 78 :: 79 :: 80 :: 81 :: 82 :: 83 :: 84 :: 85 :: 86 :: 87 :: 88 :: 89 :: 90 :: 91 :: 92 :: 93 :: 94 :: 95 :: 96 :: 97 :: 98 :: 99 :: 100 :: 101 :: 102 :: 103 :: 104 :: 105 :: 106 :: 107 :: 108 :: 109 :: 110 :: 111 :: 112 :: 113 :: 114 :: 115 :: 116 :: 117 :: 118 :: 119 :: 120 :: 121 :: 122 :: 123 :: 124 :: 125 :: 126 :: 127 :: 128 :: 129 :: 130 :: 131 :: 132 :: []) [] (fun m_ s_ σ_ n_ => ∃ (u : Nat), m_ = 3 - u ∧ s_ 45 = .lit (.int .i64 u) ∧ (u ≤ 3)) ⟨_, 0, rfl, WF, WC⟩ ?_
  intro m_1 s_1 σ_1 n_1 hs_1 hf_1 hn_1 hI_1
  obtain ⟨u, hm_1, h1_45, hu⟩ := hI_1
  have h1_1 := (hs_1.at 1 (by decide)).trans WE
  have h1_9 := (hs_1.at 9 (by decide)).trans WE
  have h1_43 := (hs_1.at 43 (by decide)).trans WE
  have h1_44 := (hs_1.at 44 (by decide)).trans WE
  have k1_0 := (hf_1.at (g) (by omega) WQ).trans WE
  have hlow : ∀ id, id < N → σ_1 id = σ id := fun id hid => (hf_1.at id (by omega) WQ).trans WH
  have h43 : s_1 43 = .slice (some (N + 18 + 7)) (LD.map devAV) := by rw [h1_43, ← hLD]; rfl
  clear h1_43
  by_cases hu3 : u = 3
  · subst hu3
    have hcs := And.intro (awake19_spec g) True.intro
    exact W0
  · have hul : u < LD.length := by omega
    obtain ⟨y, hy⟩ : ∃ y, LD[u] = y := ⟨_, rfl⟩
    have hyC : DvC y 41020 10 := by rw [← hy]; exact hLB _ (List.getElem_mem hul)
    have hyA := hyC.A (by omega) (by omega)
    have hu3i : (u : Int) < 3 := by omega
    have a1 := jAppend_spec y rcd hyA g
    have a2 := rAppend_spec y rcd hyA hyC.cap0
    have B1 := jAppS_C (r := rcd) hyC
    have a3 := jReplace_spec y L hyA (by omega) g
    have a4 := rReplace_spec y L hyA hyC.cap0 (by omega)
    have B2 := jRepS_C (l := L) (n := 100) hyC (by omega)
    have a5 := fun k => (jReplace_spec y (L ++ [[]]) hyA (by simp; omega) g k).weaken (.cons (AV.le_refl _) (.cons (AV.le_slice none (snocNil L)) .nil))
    have a6 := fun k => (rReplace_spec y (L ++ [[]]) hyA hyC.cap0 (by simp; omega) k).weaken (.cons (AV.le_refl _) (.cons (AV.le_slice none (snocNil L)) .nil))
    have B3 := jRepS_C (l := L ++ [[]]) (n := 100) hyC (by omega)
    have a7 := jRestart_spec y hyA g
    have a8 := rRestartJ_spec y hyA
    have B4 := jResS_C hyC
    generalize jAppS y rcd = P1 at *
    generalize jRepS y L = P2 at *
    generalize jRepS y (L ++ [[]]) = P3 at *
    generalize jResS y = p4 at *
    obtain ⟨p1, f1⟩ := P1
    obtain ⟨p2, f2⟩ := P2
    obtain ⟨p3, f3⟩ := P3
    simp only at a1 a2 a3 a4 a5 a6 B1 B2 B3
    have s1 := SameDev_spec p1 (by have := B1.l0; omega) (by have := B1.l1; omega)
    have s2 := SameDev_spec p2 (by have := B2.l0; omega) (by have := B2.l1; omega)
    have s3 := SameDev_spec p3 (by have := B3.l0; omega) (by have := B3.l1; omega)
    have s4 := SameDev_spec p4 (by have := B4.l0; omega) (by have := B4.l1; omega)
    have hb24 : (L.length + 1) * 24 ≤ 140737488355328 := by omega
    have hb1 : L.length ≤ 140737488355327 := by omega
    have hcs := And.intro a1 (And.intro a2 (And.intro a3 (And.intro a4 (And.intro a5 (And.intro a6 (And.intro s1 (And.intro s2 (And.intro s3 (And.intro a7 (And.intro a8 (And.intro s4 True.intro)))))))))))
    clear a1 a2 a3 a4 a5 a6 a7 a8 s1 s2 s3 s4 B1 B2 B3 B4 hyA hyC hLB hLD b1 b2 xC xD r3 hLl hLl2
    refine Wk ?_
    exact ⟨WS, WG, WN, _, (show 3 - (u + 1) < m_1 by omega), u + 1, rfl, WF, WC⟩
end
theorem JournalWrite_spec (deck : List Int) (_ : ∀ n ∈ deck, (Lit.int .i64 n).wf = true) (hd : deck.length ≤ 9223372036854775807) (rcd : List UInt8) (torn : Int) (g k : Nat) :
    ACall Tryd.prog 6 [.slice none (deck.map intAV), .slice none (rcd.map byteAV), .lit (.int .i64 torn)] k [(g, shaG)] (.lit (.bool true)) [] := by
  obtain ⟨m2, t2, q1, q2, q3, q4, q5⟩ := cutAt 100 rcd
  haveI := w32
  exact jwrite_core deck hd rcd t2 m2 q1 q2 q3 q4 q5 torn _ rfl g k
end Go.Proofs.YtaelnglalpiemaaDoor

/- Journals: plain laws of interrupted writes. -/
namespace Go.Proofs.YtaelnglalpiemaaDoor
open Go.Ab
attribute [local irreducible] Go.Ab.tyAV Go.Ab.aw Go.Ab.aops Go.Ab.kReg Go.Ab.aThen Go.Ab.aBlk Go.Ab.acond Go.Ab.aguard Go.Ab.astep Go.Ab.AStepX Go.Ab.aRet
attribute [local irreducible] shaG

def jd (b : List UInt8) (w : Nat) : Dv := ⟨b, [], 0, 1048576, w, 0, 0, false⟩
theorem jd_C (b : List UInt8) (w : Nat) : DvC (jd b w) b.length w :=
  ⟨.inl rfl, by simp [jd], by simp [jd], by simp [jd], by simp [jd], by simp [jd], by simp [jd]⟩
theorem newS_jd : newS 1048576 = (jd [] 0, 0) := by simp [newS, jd]
theorem cutN_nat (t n : Nat) : cutN (t : Int) n = min t n := by unfold cutN; omega

theorem RecB.ok {L : List (List UInt8)} (h : RecB L) : RecOk L := fun r hr => ⟨(h r hr).1, Nat.le_trans (h r hr).2 (by decide)⟩
section
variable [W : W32]
theorem frS_some {r : List UInt8} (h0 : 0 < r.length) (h1 : r.length ≤ 4096) : frS r = (frB r, 0) := by
  unfold frS; rw [if_neg (by omega), if_neg (by omega)]
theorem jApp_jd (b : List UInt8) (w : Nat) (r : List UInt8) (h0 : 0 < r.length) (h1 : r.length ≤ 4096) (hb : b.length ≤ 1000000) : jAppS (jd b w) r = (jd (b ++ frB r) (w + 1), 0) := by
  have hl := frB_len r
  have hc : ¬ ((1048576 : Int) < (b.length : Int) + ((frB r).length : Int)) := by omega
  have hw : ¬ ((w : Int) + 1 = 0) := by omega
  unfold jAppS
  rw [frS_some h0 h1, if_pos rfl]
  simp [appS, writeS, jd, Dv.data, Dv.area, Dv.put, hc, hw]
theorem jApp_cut (b : List UInt8) (w t : Nat) (r : List UInt8) (h0 : 0 < r.length) (h1 : r.length ≤ 4096) (hb : b.length ≤ 1000000) :
    jAppS (cutS (jd b w) t) r = (⟨b ++ (frB r).take (min t (r.length + 6)), [], 0, 1048576, (w + 1 : Nat), (w + 1 : Nat), t, true⟩, 27) := by
  have hl := frB_len r
  have hn := cutN_nat t (frB r).length
  rw [hl] at hn
  unfold jAppS
  rw [frS_some h0 h1, if_pos rfl]
  simp [appS, writeS, jd, cutS, Dv.data, Dv.area, Dv.put, hl, hn]
  omega
theorem jRes_at (b : List UInt8) (w : Nat) (t : Int) : jResS ⟨b, [], 0, 1048576, (w : Nat), (w : Nat), t, true⟩ = jd (b.take (recS b).2) w := by
  simp [jResS, trimS, resS, jd, Dv.put, Dv.data, Dv.area]
/-- The records that are there after an interrupted Append and a restart. -/
def wantL (L : List (List UInt8)) (r : List UInt8) (t : Nat) : List (List UInt8) := if r.length + 6 ≤ t then L ++ [r] else L
theorem torn_law {L : List (List UInt8)} (hL : RecOk L) (r : List UInt8) (h0 : 0 < r.length) (h1 : r.length ≤ 4096) (hb : (frsB L).length ≤ 100000) (w t : Nat) :
    ∃ y, jAppS (cutS (jd (frsB L) w) t) r = (y, 27) ∧ DvC y 110000 (w + 1) ∧ jResS y = jd (frsB (wantL L r t)) (w + 1) ∧ RecOk (wantL L r t) ∧ (wantL L r t).length ≤ L.length + 1 := by
  have hl := frB_len r
  refine ⟨_, jApp_cut (frsB L) w t r h0 h1 (by omega), ⟨.inl rfl, by simp, by simp, ?_, by simp, by simp only; omega, by simp⟩, ?_, ?_, ?_⟩
  · simp only [List.length_append, List.length_take]; omega
  · rw [jRes_at]
    unfold wantL
    have htk : (frB r).take (r.length + 6) = frB r := List.take_of_length_le (by omega)
    by_cases hf : r.length + 6 ≤ t
    · rw [if_pos hf, Nat.min_eq_right hf, htk, ← frsB_snoc, recS_frs (hL.snoc h0 h1), List.take_length]
    · rw [if_neg hf, Nat.min_eq_left (by omega), recS_torn hL r t h1 (by omega), List.take_left]
  · unfold wantL; split
    · exact hL.snoc h0 h1
    · exact hL
  · unfold wantL; split
    · simp
    · omega
theorem frE_ok {l : List (List UInt8)} (h : RecOk l) : frE l = 0 := by
  induction l with
  | nil => rfl
  | cons r l ih =>
    obtain ⟨h0, h1⟩ := h r (List.mem_cons_self ..)
    rw [frE, frS_some h0 h1, if_pos rfl]
    exact ih fun x hx => h x (List.mem_cons_of_mem _ hx)
theorem jRep_jd (b : List UInt8) (w : Nat) {l : List (List UInt8)} (h : RecOk l) (hl : (frsB l).length ≤ 100000) : jRepS (jd b w) l = (⟨b, frsB l, 1, 1048576, (w + 1 : Nat), 0, 0, false⟩, 0) := by
  have hc : ¬ ((1048576 : Int) < ((frsB l).length : Int)) := by omega
  have hw : ¬ ((w : Int) + 1 = 0) := by omega
  unfold jRepS
  rw [frE_ok h, if_pos rfl]
  simp [repS, writeS, jd, Dv.data, Dv.area, Dv.put, hc, hw]
theorem jRep_cut (b : List UInt8) (w t : Nat) {l : List (List UInt8)} (h : RecOk l) (hl : (frsB l).length ≤ 100000) : ∃ q, q.length ≤ 100000 ∧ jRepS (cutS (jd b w) t) l = (⟨b, q, 0, 1048576, (w + 1 : Nat), (w + 1 : Nat), t, true⟩, 27) := by
  have hc : ¬ ((1048576 : Int) < ((frsB l).length : Int)) := by omega
  unfold jRepS
  rw [frE_ok h, if_pos rfl]
  refine ⟨(frsB l).take (cutN t (frsB l).length), by rw [List.length_take]; omega, ?_⟩
  simp [repS, writeS, jd, cutS, Dv.data, Dv.area, Dv.put, hc]
theorem jRes_rep {L : List (List UInt8)} (hL : RecOk L) (q : List UInt8) (w : Nat) (t : Int) : jResS ⟨frsB L, q, 0, 1048576, (w : Nat), (w : Nat), t, true⟩ = ⟨frsB L, q, 0, 1048576, (w : Nat), 0, 0, false⟩ := by
  simp [jResS, trimS, resS, Dv.put, Dv.data, Dv.area, recS_frs hL]
end
end Go.Proofs.YtaelnglalpiemaaDoor
