/- Texts K16, K17, R2, R3, R4, R5, K10, K11, K18, K19, K20, joined. -/
import Derived.Test.YtaelnglalpiemaaDoorM5

/- Caveats: Decode, as specified. -/
namespace Go.Proofs.YtaelnglalpiemaaDoor
open Go.Ab
attribute [local irreducible] Go.Ab.tyAV Go.Ab.aw Go.Ab.aops Go.Ab.kReg Go.Ab.aThen Go.Ab.aBlk Go.Ab.acond Go.Ab.aguard Go.Ab.astep Go.Ab.AStepX Go.Ab.aRet

theorem WD {p : Prop} (h : p := by (repeat (first | apply go_nil | apply go_kreg | apply go_kreg0 | apply go_kreg1 | (apply go_kregT; · (first | (simp [addT, CF, CFy, Ind, DisjF]; done) | (simp only [addT, CF, CFy, Ind]; repeat' (first | exact trivial | apply And.intro | exact Or.inl (by decide +kernel) | (refine Or.inr ⟨?_, ?_⟩ <;> (simp; try omega)))))) | apply go_then | apply go_then_exit | apply go_then_ret | apply go_blk | apply go_blk_ret | apply go_blk_here | (apply go_blk_there; · rfl) | apply go_seq | (apply go_region; · (simp only [List.length_cons, List.length_nil, Nat.reduceAdd, Nat.add_assoc]; rfl)) | apply go_skip | apply go_block | apply go_scope | apply go_label | apply go_exit | apply go_ret | (apply go_mut; (· assumption); · (simp (disch := omega) [go_sem, *, -List.reduceReplicate]; first | exact ⟨rfl, rfl⟩ | (simp [go_sem, *]; exact ⟨rfl, rfl⟩))) | (apply go_mutP; (· assumption); · (simp (disch := omega) [go_sem, *, -List.reduceReplicate]; try first | rfl | exact ⟨rfl, rfl⟩ | exact ⟨rfl, rfl, rfl⟩)) | (apply go_guard_in; (· rfl); · (simp (disch := omega) [go_sem, *, -List.reduceReplicate]; try first | rfl | omega)) | (apply go_guard_off; (· rfl); · (simp (disch := omega) [go_sem, *, -List.reduceReplicate]; try first | rfl | omega)) | (apply go_guard_no; (· rfl); · (simp (disch := omega) [go_sem, *, -List.reduceReplicate]; try rfl)) | ((first | apply go_move | apply go_assign | apply go_load | apply go_store | apply go_append | apply go_copy | apply go_copy0 | apply go_clear0 | apply go_slice3 | apply go_indexA); · (simp (disch := omega) [go_sem, *, -List.reduceReplicate]; try first | rfl | exact ⟨rfl, rfl⟩ | exact ⟨rfl, rfl, rfl⟩)) | ((first | apply go_loadv | apply go_append0 | apply go_beyond); · (simp (disch := omega) [go_sem, *, -List.reduceReplicate]; try first | rfl | exact ⟨rfl, rfl⟩ | exact ⟨rfl, rfl, rfl⟩)) | (apply go_appself; · (simp (disch := omega) [go_sem, *, -List.reduceReplicate]; try first | rfl | exact ⟨rfl, rfl⟩ | exact ⟨rfl, rfl, rfl⟩)) | ((first | (apply go_appendz; · rfl) | (apply go_new; · rfl) | (apply go_glob; · assumption) | (apply go_pure; · rfl)); · (simp (disch := omega) [go_sem, *, -List.reduceReplicate]; try first | rfl | exact ⟨rfl, rfl⟩ | exact ⟨rfl, rfl, rfl⟩)) | (apply go_read1; (· rfl); · (simp (disch := omega) [go_sem, *, -List.reduceReplicate]; try first | rfl | exact ⟨rfl, rfl⟩ | exact ⟨rfl, rfl, rfl⟩)) | (apply go_rw1; (· rfl); · (simp (disch := omega) [go_sem, *, -List.reduceReplicate]; try first | rfl | exact ⟨rfl, rfl⟩ | exact ⟨rfl, rfl, rfl⟩)) | (apply go_new1; (· rfl); · (simp (disch := omega) [go_sem, *, -List.reduceReplicate]; try first | rfl | exact ⟨rfl, rfl⟩ | exact ⟨rfl, rfl, rfl⟩)) | (apply go_conv; · (simp (disch := omega) [go_sem, *, -List.reduceReplicate]; try first | rfl | exact ⟨rfl, rfl⟩ | exact ⟨rfl, rfl, rfl⟩)) | ((first | (apply go_new; · rfl) | (apply go_pure; · rfl)); · (simp (disch := omega) [go_sem, *, -List.reduceReplicate]; simp [go_sem, *]; try first | rfl | exact ⟨rfl, rfl⟩)) | (apply go_condT; · (simp (disch := omega) [go_sem, *, -List.reduceReplicate]; try first | rfl | omega; done)) | (apply go_condF; · (simp (disch := omega) [go_sem, *, -List.reduceReplicate]; try first | rfl | omega; done)) | (obtain ⟨hcall, hcs⟩ := hcs; refine go_callw (hcall _) (by simp (disch := omega) [go_sem, *, -List.reduceReplicate]; try rfl) (by simp (disch := omega) [go_sem, *, -List.reduceReplicate]; repeat' first | exact ALe.nil | exact AV.le_refl _ | exact AV.le_nils | exact AV.le_own _ _ | apply ALe.cons | apply AV.sub_agg) (by simp (disch := omega) [go_sem, *, -List.reduceReplicate]) ?_; clear hcall))); refine go_resultI (by simp (disch := omega) [go_sem, *, -List.reduceReplicate]; rfl) (AV.sub_tup (by repeat' first | exact ALe.nil | exact AV.le_refl _ | apply ALe.cons | apply AV.sub_agg | ((first | apply AV.le_slices | apply AV.le_nilsE | apply AV.le_clipE); first | rfl | (simp (disch := omega) [go_sem, *, -List.reduceReplicate]; done)))) (by simp (disch := omega) [go_sem]; try rfl) (fun id hid => by simp (disch := omega) only [upd_ne, wr_cons, wr_nil]; try exact hlow id hid)) : p := h
theorem finP_ok (p : Pr) (hp : PrOk p) (u n : Nat) (hu : u ≤ n) : PrOk (finP p u).1 ∧ (finP p u).2.1 ≤ n := by
  unfold finP
  split
  · exact ⟨hp, hu⟩
  · exact ⟨zeroPr_ok, Nat.zero_le _⟩
theorem decP_ok (b : List UInt8) : PrOk (decP b).1 ∧ (decP b).2.1 ≤ b.length := by
  have h0 := numR_le (b := b) (u := 0) (Nat.zero_le _)
  have h1 := numR_le (b := b) h0
  have h2 := numR_le (b := b) h1
  have h3 := fldR_le (b := b) h0
  have z : ∀ e : Nat, PrOk (zeroPr, 0, e).1 ∧ ((zeroPr, 0, e) : Pr × Nat × Nat).2.1 ≤ b.length := fun e => ⟨zeroPr_ok, Nat.zero_le _⟩
  unfold decP
  split
  · exact z _
  split
  · split
    · exact z _
    · rename_i hs
      refine finP_ok _ ?_ _ _ (by omega)
      have := be8_bound (L := (b.drop (numR b 0).2.1).take 8) (i := 8) (by rw [List.length_take, List.length_drop]; omega) (Nat.le_refl _)
      rw [List.take_of_length_le (i := 8) (l := (b.drop (numR b 0).2.1).take 8) (by rw [List.length_take]; omega)] at this
      exact ⟨by simp only; omega, by simp only; omega, by simp⟩
  split
  · split
    · exact z _
    split
    · exact z _
    · exact finP_ok _ ⟨by simp, by simp, by simp⟩ _ _ h2
  split
  · split
    · exact z _
    · exact finP_ok _ ⟨by simp, by simp, by have := fldR_len b (numR b 0).2.1; simp only; omega⟩ _ _ h3
  split
  · split
    · exact z _
    · exact finP_ok _ ⟨by simp, by simp, by simp⟩ _ _ h1
  · exact z _
def predR (b : List UInt8) (u : Nat) : Pr × Nat × Nat := ((decP (b.drop u)).1, u + (decP (b.drop u)).2.1, (decP (b.drop u)).2.2)
theorem predR_ok {b : List UInt8} {u : Nat} (h : u ≤ b.length) : PrOk (predR b u).1 ∧ (predR b u).2.1 ≤ b.length := by
  have := decP_ok (b.drop u)
  rw [List.length_drop] at this
  refine ⟨this.1, ?_⟩
  have := this.2
  unfold predR
  simp only
  omega
def crBox (b : List UInt8) (u e : Nat) : Ent := .box 101 (.agg [.agg [.slice none (b.map byteAV), .lit (.int .i64 u)], .lit (.int .i64 e)])
@[simp, go_sem] theorem crBox_ne (b : List UInt8) (u e : Nat) : (crBox b u e = .none) = False := by simp [crBox]
@[go_sem] theorem crBox_ren (b : List UInt8) (u e : Nat) (f : Nat → Option Nat) : (crBox b u e).ren f = crBox b u e := by
  simp only [crBox, ent_ren_box, AV.ren, AV.renl, renl_bytes, Option.bind_none]
attribute [go_sem high] crBox
theorem left_spec (b : List UInt8) (u e : Nat) (hu : u ≤ b.length) (hb : b.length ≤ 1000000) (d k : Nat) :
    ACall Tryd.prog 99 [.ptr d [0] 0] k [(d, crBox b u e)] (.slice none ((b.drop u).map byteAV)) [] := by
  have hd1 : (b.map byteAV).drop u = (b.drop u).map byteAV := by rw [List.map_drop]
  generalize b.drop u = t at *
  simp only [crBox]
  refine ACall.of_body mixed Tryd.func99 rfl (by kernel_rfl) Tryd.ntmps99 (by kernel_rfl) rfl (by simp) (by simp) (by simp) fun σ N hp hpn hk hkn hfree => ?_
  have hd := hp _ (List.mem_singleton.2 rfl); have hdn := hpn _ (List.mem_singleton.2 rfl); simp only at hd hdn; clear hp hpn
  exact WM
theorem cnum_spec (b : List UInt8) (u : Nat) (hu : u ≤ b.length) (hb : b.length ≤ 1000000) (d k : Nat) :
    ACall Tryd.prog 74 [.ptr d [] 0] k [(d, crBox b u 0)] (.lit (.int .i64 (numR b u).1)) [(d, crBox b (numR b u).2.1 (numR b u).2.2)] := by
  have c0 := left_spec b u 0 hu hb d
  have c1 := Read_spec (b.drop u) (by rw [List.length_drop]; omega)
  have hl := rdS_le (b.drop u)
  rw [List.length_drop] at hl
  unfold numR
  generalize rdS (b.drop u) = R at *
  obtain ⟨n, q, e⟩ := R
  simp only [rdAV] at *
  generalize b.drop u = t at *
  simp only [crBox] at *
  refine ACall.of_body mixed Tryd.func74 rfl (by kernel_rfl) Tryd.ntmps74 (by kernel_rfl) rfl (by simp) (by simp) (by simp) fun σ N hp hpn hk hkn hfree => ?_
  have hd := hp _ (List.mem_singleton.2 rfl); have hdn := hpn _ (List.mem_singleton.2 rfl); simp only at hd hdn; clear hp hpn
  have hcs := And.intro c0 (And.intro c1 True.intro)
  clear c0 c1
  refine Wk ?_
  refine go_resultW [(d, (.box 101 (.agg [.agg [.slice none (b.map byteAV), .lit (.int .i64 ((u : Int) + (q : Int)))], .lit (.int .i64 (e : Int))])))] (by simp (disch := omega) [go_sem, *, -List.reduceReplicate]; rfl) (by first | rfl | (simp (disch := omega) [go_sem]; done) | (simp (disch := omega) [go_sem, *]; done) | simp (disch := omega) [go_sem]) (fun id hid => by simp only [wr_cons, wr_nil]; try (by_cases hdd : id = d; (· (subst hdd; simp (disch := omega) [go_sem, *])); (· (simp (disch := omega) only [upd_ne]; try (first | exact hlow id hid hdd | exact hlow id hid))))) (by simp) (by simp (disch := omega) [go_sem, *])
theorem cfld_spec (b : List UInt8) (u : Nat) (hu : u ≤ b.length) (hb : b.length ≤ 1000000) (d k : Nat) :
    ACall Tryd.prog 76 [.ptr d [] 0] k [(d, crBox b u 0)] (.slice none ((fldR b u).1.map byteAV)) [(d, crBox b (fldR b u).2.1 (fldR b u).2.2)] := by
  have c0 := left_spec b u 0 hu hb d
  have c1 := fieldRead_spec (b.drop u) (by rw [List.length_drop]; omega)
  have hl := rdF_le (b.drop u)
  rw [List.length_drop] at hl
  unfold fldR
  generalize rdF (b.drop u) = R at *
  obtain ⟨n, q, e⟩ := R
  simp only [rdFAV] at *
  generalize b.drop u = t at *
  simp only [crBox] at *
  refine ACall.of_body mixed Tryd.func76 rfl (by kernel_rfl) Tryd.ntmps76 (by kernel_rfl) rfl (by simp) (by simp) (by simp) fun σ N hp hpn hk hkn hfree => ?_
  have hd := hp _ (List.mem_singleton.2 rfl); have hdn := hpn _ (List.mem_singleton.2 rfl); simp only at hd hdn; clear hp hpn
  have hcs := And.intro c0 (And.intro c1 True.intro)
  clear c0 c1
  refine Wk ?_
  refine go_resultWI [(d, (.box 101 (.agg [.agg [.slice none (b.map byteAV), .lit (.int .i64 ((u : Int) + (q : Int)))], .lit (.int .i64 (e : Int))])))] (by simp (disch := omega) [go_sem, *, -List.reduceReplicate]; rfl) (by first | exact AV.le_refl _ | ((first | apply AV.le_slices | apply AV.le_nilsE | apply AV.le_clipE); first | rfl | (simp (disch := omega) [go_sem, *, -List.reduceReplicate]; done)) | (apply AV.sub_tup; repeat' first | exact ALe.nil | exact AV.le_refl _ | apply ALe.cons | ((first | apply AV.le_slices | apply AV.le_nilsE | apply AV.le_clipE); first | rfl | (simp (disch := omega) [go_sem, *, -List.reduceReplicate]; done)))) (by first | rfl | (simp (disch := omega) [go_sem]; done) | (simp (disch := omega) [go_sem, *]; done) | simp (disch := omega) [go_sem]) (fun id hid => by simp only [wr_cons, wr_nil]; try (by_cases hdd : id = d; (· (subst hdd; simp (disch := omega) [go_sem, *])); (· (simp (disch := omega) only [upd_ne]; try (first | exact hlow id hid hdd | exact hlow id hid))))) (by simp) (by simp (disch := omega) [go_sem, *])
theorem cnum_off (b : List UInt8) (u e : Nat) (he : e ≠ 0) (d k : Nat) :
    ACall Tryd.prog 74 [.ptr d [] 0] k [(d, crBox b u e)] (.lit (.int .i64 0)) [(d, crBox b u e)] := by
  have he' : ((e : Int) == 0) = false := by rw [beq_eq_false_iff_ne]; omega
  simp only [crBox]
  refine ACall.of_body mixed Tryd.func74 rfl (by kernel_rfl) Tryd.ntmps74 (by kernel_rfl) rfl (by simp) (by simp) (by simp) fun σ N hp hpn hk hkn hfree => ?_
  have hd := hp _ (List.mem_singleton.2 rfl); have hdn := hpn _ (List.mem_singleton.2 rfl); simp only at hd hdn; clear hp hpn
  refine Wk ?_
  refine go_resultW [(d, (.box 101 (.agg [.agg [.slice none (b.map byteAV), .lit (.int .i64 (u : Int))], .lit (.int .i64 (e : Int))])))] (by simp (disch := omega) [go_sem, *, -List.reduceReplicate]; rfl) (by first | rfl | (simp (disch := omega) [go_sem]; done) | (simp (disch := omega) [go_sem, *]; done) | simp (disch := omega) [go_sem]) (fun id hid => by simp only [wr_cons, wr_nil]; try (by_cases hdd : id = d; (· (subst hdd; simp (disch := omega) [go_sem, *])); (· (simp (disch := omega) only [upd_ne]; try (first | exact hlow id hid hdd | exact hlow id hid))))) (by simp) (by simp (disch := omega) [go_sem, *])
theorem cfld_off (b : List UInt8) (u e : Nat) (he : e ≠ 0) (d k : Nat) :
    ACall Tryd.prog 76 [.ptr d [] 0] k [(d, crBox b u e)] (.slice none []) [(d, crBox b u e)] := by
  have he' : ((e : Int) == 0) = false := by rw [beq_eq_false_iff_ne]; omega
  simp only [crBox]
  refine ACall.of_body mixed Tryd.func76 rfl (by kernel_rfl) Tryd.ntmps76 (by kernel_rfl) rfl (by simp) (by simp) (by simp) fun σ N hp hpn hk hkn hfree => ?_
  have hd := hp _ (List.mem_singleton.2 rfl); have hdn := hpn _ (List.mem_singleton.2 rfl); simp only at hd hdn; clear hp hpn
  refine Wk ?_
  refine go_resultWI [(d, (.box 101 (.agg [.agg [.slice none (b.map byteAV), .lit (.int .i64 (u : Int))], .lit (.int .i64 (e : Int))])))] (by simp (disch := omega) [go_sem, *, -List.reduceReplicate]; rfl) (by first | exact AV.le_refl _ | ((first | apply AV.le_slices | apply AV.le_nilsE | apply AV.le_clipE); first | rfl | (simp (disch := omega) [go_sem, *, -List.reduceReplicate]; done)) | (apply AV.sub_tup; repeat' first | exact ALe.nil | exact AV.le_refl _ | apply ALe.cons | ((first | apply AV.le_slices | apply AV.le_nilsE | apply AV.le_clipE); first | rfl | (simp (disch := omega) [go_sem, *, -List.reduceReplicate]; done)))) (by first | rfl | (simp (disch := omega) [go_sem]; done) | (simp (disch := omega) [go_sem, *]; done) | simp (disch := omega) [go_sem]) (fun id hid => by simp only [wr_cons, wr_nil]; try (by_cases hdd : id = d; (· (subst hdd; simp (disch := omega) [go_sem, *])); (· (simp (disch := omega) only [upd_ne]; try (first | exact hlow id hid hdd | exact hlow id hid))))) (by simp) (by simp (disch := omega) [go_sem, *])
theorem cpred_spec (b : List UInt8) (u : Nat) (hu : u ≤ b.length) (hb : b.length ≤ 1000000) (d g k : Nat) (hdg : d ≠ g) :
    ACall Tryd.prog 75 [.ptr d [] 0] k [(d, crBox b u 0), (g, bitsG)] (prAV (predR b u).1) [(d, crBox b (predR b u).2.1 (predR b u).2.2)] := by
  have c0 := left_spec b u 0 hu hb d
  have c1 := pDec_spec (b.drop u) (by rw [List.length_drop]; omega) g
  have hl := (decP_ok (b.drop u)).2
  rw [List.length_drop] at hl
  unfold predR
  generalize decP (b.drop u) = R at *
  obtain ⟨n, q, e⟩ := R
  simp only [decPAV] at *
  generalize b.drop u = t at *
  simp only [crBox] at *
  refine ACall.of_body mixed Tryd.func75 rfl (by kernel_rfl) Tryd.ntmps75 (by kernel_rfl) rfl (by simp) (by simp) (by simp) fun σ N hp hpn hk hkn hfree => ?_
  simp only [List.mem_cons, List.not_mem_nil, or_false, forall_eq_or_imp, forall_eq] at hp hpn; obtain ⟨hd1, hd2⟩ := hp; obtain ⟨hdn1, hdn2⟩ := hpn
  have hcs := And.intro c0 (And.intro c1 True.intro)
  clear c0 c1
  refine Wk ?_
  refine go_resultW [(d, (.box 101 (.agg [.agg [.slice none (b.map byteAV), .lit (.int .i64 ((u : Int) + (q : Int)))], .lit (.int .i64 (e : Int))])))] (by simp (disch := omega) [go_sem, *, -List.reduceReplicate]; rfl) (by first | rfl | (simp (disch := omega) [go_sem]; done) | (simp (disch := omega) [go_sem, *]; done) | simp (disch := omega) [go_sem]) (fun id hid => by simp only [wr_cons, wr_nil]; try (by_cases hdd : id = d; (· (subst hdd; simp (disch := omega) [go_sem, *])); (· (simp (disch := omega) only [upd_ne]; try (first | exact hlow id hid hdd | exact hlow id hid))))) (by simp) (by simp (disch := omega) [go_sem, *])
theorem RPred_spec (b : List UInt8) (u : Nat) (hu : u ≤ b.length) (hb : b.length ≤ 1000000) (d k : Nat) :
    ACall Tryd.prog 78 [.ptr d [] 0] k [(d, RdBox b u 0)] (prAV (predR b u).1) [(d, RdBox b (predR b u).2.1 (predR b u).2.2)] := by
  have c1 := rDec_spec (b.drop u) (by rw [List.length_drop]; omega)
  have hl := (decP_ok (b.drop u)).2
  rw [List.length_drop] at hl
  have hd1 : (b.map byteAV).drop u = (b.drop u).map byteAV := by rw [List.map_drop]
  unfold predR
  generalize decP (b.drop u) = R at *
  obtain ⟨n, q, e⟩ := R
  simp only [decPAV] at *
  generalize b.drop u = t at *
  have c2 := RFail0 b u e d
  simp only [RdBox] at *
  refine ACall.of_body mixed Tryd.func78 rfl (by kernel_rfl) Tryd.ntmps78 (by kernel_rfl) rfl (by simp) (by simp) (by simp) fun σ N hp hpn hk hkn hfree => ?_
  have hd := hp _ (List.mem_singleton.2 rfl); have hdn := hpn _ (List.mem_singleton.2 rfl); simp only at hd hdn; clear hp hpn
  have hcs := And.intro c1 (And.intro c2 True.intro)
  clear c1 c2
  refine Wk ?_
  refine go_resultW [(d, .box 107 (.agg [.slice none (b.map byteAV), .lit (.int .i64 ((u : Int) + (q : Int))), .lit (.int .i64 (e : Int))]))] (by simp (disch := omega) [go_sem, *, -List.reduceReplicate]; rfl) (by first | rfl | (simp (disch := omega) [go_sem]; done) | (simp (disch := omega) [go_sem, *]; done) | simp (disch := omega) [go_sem]) (fun id hid => by simp only [wr_cons, wr_nil]; try (by_cases hdd : id = d; (· (subst hdd; simp (disch := omega) [go_sem, *])); (· (simp (disch := omega) only [upd_ne]; try (first | exact hlow id hid hdd | exact hlow id hid))))) (by simp) (by simp (disch := omega) [go_sem, *])
def zeroCa : Ca := ⟨false, zeroPr, 0, [], []⟩
def finC (c : Ca) (u : Nat) : Ca × Nat × Nat := if cavB c = true then (c, u, 0) else (zeroCa, 0, 5)
def fldO (b : List UInt8) (u e : Nat) : List UInt8 × Nat × Nat := if e ≠ 0 then ([], u, e) else fldR b u
/-- The caveat at the beginning of bytes, how many bytes it has, the error. -/
def decC (b : List UInt8) : Ca × Nat × Nat :=
  if (numR b 0).2.2 ≠ 0 then (zeroCa, 0, (numR b 0).2.2)
  else if (numR b 0).1 = 1 then
    if (predR b (numR b 0).2.1).2.2 ≠ 0 then (zeroCa, 0, (predR b (numR b 0).2.1).2.2) else finC ⟨false, (predR b (numR b 0).2.1).1, 0, [], []⟩ (predR b (numR b 0).2.1).2.1
  else if (numR b 0).1 = 2 then
    let n := numR b (numR b 0).2.1
    let t := fldO b n.2.1 n.2.2
    let x := fldO b t.2.1 t.2.2
    if x.2.2 ≠ 0 then (zeroCa, 0, x.2.2) else finC ⟨true, zeroPr, n.1, t.1, x.1⟩ x.2.1
  else (zeroCa, 0, 6)
def decCAV (r : Ca × Nat × Nat) : AV := .tup [caAV r.1, .lit (.int .i64 r.2.1), .lit (.int .i64 r.2.2)]
theorem fldO_le {b : List UInt8} {u e : Nat} (h : u ≤ b.length) : (fldO b u e).2.1 ≤ b.length := by
  unfold fldO
  split
  · exact h
  · exact fldR_le h
theorem fldO_len (b : List UInt8) (u e : Nat) : (fldO b u e).1.length ≤ 1024 := by
  unfold fldO
  split
  · simp
  · exact fldR_len b u
theorem fldO_e {b : List UInt8} {u e : Nat} (h : (fldO b u e).2.2 = 0) : e = 0 := by
  unfold fldO at h
  split at h
  · simp at h; omega
  · rename_i h1; omega
theorem cfldO_spec (b : List UInt8) (u e : Nat) (hu : u ≤ b.length) (hb : b.length ≤ 1000000) (d k : Nat) :
    ACall Tryd.prog 76 [.ptr d [] 0] k [(d, crBox b u e)] (.slice none ((fldO b u e).1.map byteAV)) [(d, crBox b (fldO b u e).2.1 (fldO b u e).2.2)] := by
  unfold fldO
  by_cases he : e ≠ 0
  · rw [if_pos he]; exact cfld_off b u e he d k
  · obtain rfl : e = 0 := by omega
    rw [if_neg he]; exact cfld_spec b u hu hb d k
theorem RFieldO_spec (b : List UInt8) (u e : Nat) (hu : u ≤ b.length) (hb : b.length ≤ 1000000) (d k : Nat) :
    ACall Tryd.prog 79 [.ptr d [] 0] k [(d, RdBox b u e)] (.slice none ((fldO b u e).1.map byteAV)) [(d, RdBox b (fldO b u e).2.1 (fldO b u e).2.2)] := by
  unfold fldO
  by_cases he : e ≠ 0
  · rw [if_pos he]; exact RField_off b u e he d k
  · obtain rfl : e = 0 := by omega
    rw [if_neg he]; exact RField_spec b u hu hb d k
/-- The error is noted, unless there is one. -/
theorem RFailO (b : List UInt8) (u e : Nat) (x : Nat) (d k : Nat) :
    ACall Tryd.prog 80 [.ptr d [] 0, .lit (.int .i64 x)] k [(d, RdBox b u e)] (.tup []) [(d, RdBox b u (if e = 0 then x else e))] := by
  by_cases he : e = 0
  · subst he
    rw [if_pos rfl]
    exact RFail0 b u x d k
  · rw [if_neg he]
    exact RFail1 b u e he x d k

set_option maxHeartbeats 8000000 in
theorem cDec_spec (b : List UInt8) (hb : b.length ≤ 1000000) (d k : Nat) : ACall Tryd.prog 48 [.slice none (b.map byteAV)] k [(d, bitsG)] (decCAV (decC b)) [] := by
  have c1 := cnum_spec b 0 (Nat.zero_le _) hb
  have hu1 := numR_le (b := b) (u := 0) (Nat.zero_le _)
  unfold decC
  generalize numR b 0 = R at *
  obtain ⟨kn, u, e⟩ := R
  simp only at c1 hu1 ⊢
  by_cases he : e ≠ 0
  · rw [if_pos he]
    have he' : ((e : Int) == 0) = false := by rw [beq_eq_false_iff_ne]; omega
    have he'' : ((e : Int) != 0) = true := by rw [bne, he']; rfl
    simp only [decCAV, caAV, prAV, zeroPr, zeroCa]
    clear he
    refine ACall.of_body mixed Tryd.func48 rfl (by kernel_rfl) Tryd.ntmps48 (by kernel_rfl) rfl (by simp) (by simp) (by simp) fun σ N hp hpn hk hkn hfree => ?_
    have hd := hp _ (List.mem_singleton.2 rfl); have hdn := hpn _ (List.mem_singleton.2 rfl); simp only at hd hdn; clear hp hpn
    have hcs := And.intro (c1 (N + 6)) True.intro
    clear c1
    exact WD
  have he0 : e = 0 := by omega
  subst he0
  rw [if_neg (by omega)]
  clear he
  by_cases hk : kn = 1
  · subst hk
    rw [if_pos rfl]
    have c2 := fun g k hg => cpred_spec b u hu1 hb g d k hg
    have hp := predR_ok hu1
    generalize predR b u = R at *
    obtain ⟨p, u2, e2⟩ := R
    simp only at c2 hp ⊢
    by_cases he2 : e2 ≠ 0
    · rw [if_pos he2]
      have he' : ((e2 : Int) == 0) = false := by rw [beq_eq_false_iff_ne]; omega
      have he'' : ((e2 : Int) != 0) = true := by rw [bne, he']; rfl
      simp only [decCAV, caAV, prAV, zeroPr, zeroCa]
      clear he2
      obtain ⟨p1, p2, p3, p4, p5, p6⟩ := p
      simp only [prAV] at c2
      refine ACall.of_body mixed Tryd.func48 rfl (by kernel_rfl) Tryd.ntmps48 (by kernel_rfl) rfl (by simp) (by simp) (by simp) fun σ N hp hpn hk hkn hfree => ?_
      have hd := hp _ (List.mem_singleton.2 rfl); have hdn := hpn _ (List.mem_singleton.2 rfl); simp only at hd hdn; clear hp hpn
      have hcs := And.intro (c1 (N + 6)) (And.intro (fun k => c2 (N + 6) k (by omega)) True.intro)
      clear c1 c2
      exact WD
    have he0 : e2 = 0 := by omega
    subst he0
    rw [if_neg (by omega)]
    clear he2
    have c4 := cavValid_spec ⟨false, p, 0, [], []⟩ hp.1 d
    unfold finC
    cases hv : cavB ⟨false, p, 0, [], []⟩ with
    | false =>
      rw [hv] at c4
      simp only [decCAV, caAV, zeroPr, zeroCa, Bool.false_eq_true, if_false, List.map_nil] at *
      simp only [prAV]
      refine ACall.of_body mixed Tryd.func48 rfl (by kernel_rfl) Tryd.ntmps48 (by kernel_rfl) rfl (by simp) (by simp) (by simp) fun σ N hp hpn hk hkn hfree => ?_
      have hd := hp _ (List.mem_singleton.2 rfl); have hdn := hpn _ (List.mem_singleton.2 rfl); simp only at hd hdn; clear hp hpn
      have hcs := And.intro (c1 (N + 6)) (And.intro (fun k => c2 (N + 6) k (by omega)) (And.intro c4 True.intro))
      clear c1 c2 c4
      exact WD
    | true =>
      rw [hv] at c4
      simp only [decCAV, caAV, if_true, List.map_nil] at *
      refine ACall.of_body mixed Tryd.func48 rfl (by kernel_rfl) Tryd.ntmps48 (by kernel_rfl) rfl (by simp) (by simp) (by simp) fun σ N hp hpn hk hkn hfree => ?_
      have hd := hp _ (List.mem_singleton.2 rfl); have hdn := hpn _ (List.mem_singleton.2 rfl); simp only at hd hdn; clear hp hpn
      have hcs := And.intro (c1 (N + 6)) (And.intro (fun k => c2 (N + 6) k (by omega)) (And.intro c4 True.intro))
      clear c1 c2 c4
      exact WD
  rw [if_neg hk]
  have n1 : ((kn : Int) == 1) = false := by rw [beq_eq_false_iff_ne]; omega
  clear hk
  by_cases hk : kn = 2
  · subst hk
    rw [if_pos rfl]
    have c2 := cnum_spec b u hu1 hb
    have hu2 := numR_le (b := b) (u := u) hu1
    generalize numR b u = R at *
    obtain ⟨n, u2, e2⟩ := R
    simp only at c2 hu2 ⊢
    have c3 := cfldO_spec b u2 e2 hu2 hb
    have hu3 := fldO_le (b := b) (e := e2) hu2
    generalize fldO b u2 e2 = R at *
    obtain ⟨t, u3, e3⟩ := R
    simp only at c3 hu3 ⊢
    have c4 := cfldO_spec b u3 e3 hu3 hb
    generalize fldO b u3 e3 = R at *
    obtain ⟨x, u4, e4⟩ := R
    simp only at c4 ⊢
    by_cases he4 : e4 ≠ 0
    · rw [if_pos he4]
      have he' : ((e4 : Int) == 0) = false := by rw [beq_eq_false_iff_ne]; omega
      have he'' : ((e4 : Int) != 0) = true := by rw [bne, he']; rfl
      simp only [decCAV, caAV, prAV, zeroPr, zeroCa]
      clear he4
      refine ACall.of_body mixed Tryd.func48 rfl (by kernel_rfl) Tryd.ntmps48 (by kernel_rfl) rfl (by simp) (by simp) (by simp) fun σ N hp hpn hk hkn hfree => ?_
      have hd := hp _ (List.mem_singleton.2 rfl); have hdn := hpn _ (List.mem_singleton.2 rfl); simp only at hd hdn; clear hp hpn
      have hcs := And.intro (c1 (N + 6)) (And.intro (c2 (N + 6)) (And.intro (c3 (N + 6)) (And.intro (c4 (N + 6)) True.intro)))
      clear c1 c2 c3 c4
      exact WD
    have he0 : e4 = 0 := by omega
    subst he0
    rw [if_neg (by omega)]
    clear he4
    have c5 := cavValid_spec ⟨true, zeroPr, n, t, x⟩ zeroPr_ok d
    unfold finC
    cases hv : cavB ⟨true, zeroPr, n, t, x⟩ with
    | false =>
      rw [hv] at c5
      simp only [decCAV, caAV, prAV, zeroPr, zeroCa, Bool.false_eq_true, if_false, List.map_nil] at *
      refine ACall.of_body mixed Tryd.func48 rfl (by kernel_rfl) Tryd.ntmps48 (by kernel_rfl) rfl (by simp) (by simp) (by simp) fun σ N hp hpn hk hkn hfree => ?_
      have hd := hp _ (List.mem_singleton.2 rfl); have hdn := hpn _ (List.mem_singleton.2 rfl); simp only at hd hdn; clear hp hpn
      have hcs := And.intro (c1 (N + 6)) (And.intro (c2 (N + 6)) (And.intro (c3 (N + 6)) (And.intro (c4 (N + 6)) (And.intro c5 True.intro))))
      clear c1 c2 c3 c4 c5
      exact WD
    | true =>
      rw [hv] at c5
      simp only [decCAV, caAV, prAV, zeroPr, if_true] at *
      refine ACall.of_body mixed Tryd.func48 rfl (by kernel_rfl) Tryd.ntmps48 (by kernel_rfl) rfl (by simp) (by simp) (by simp) fun σ N hp hpn hk hkn hfree => ?_
      have hd := hp _ (List.mem_singleton.2 rfl); have hdn := hpn _ (List.mem_singleton.2 rfl); simp only at hd hdn; clear hp hpn
      have hcs := And.intro (c1 (N + 6)) (And.intro (c2 (N + 6)) (And.intro (c3 (N + 6)) (And.intro (c4 (N + 6)) (And.intro c5 True.intro))))
      clear c1 c2 c3 c4 c5
      exact WD
  rw [if_neg hk]
  have n2 : ((kn : Int) == 2) = false := by rw [beq_eq_false_iff_ne]; omega
  clear hk
  simp only [decCAV, caAV, prAV, zeroPr, zeroCa]
  refine ACall.of_body mixed Tryd.func48 rfl (by kernel_rfl) Tryd.ntmps48 (by kernel_rfl) rfl (by simp) (by simp) (by simp) fun σ N hp hpn hk hkn hfree => ?_
  have hd := hp _ (List.mem_singleton.2 rfl); have hdn := hpn _ (List.mem_singleton.2 rfl); simp only at hd hdn; clear hp hpn
  have hcs := And.intro (c1 (N + 6)) True.intro
  clear c1
  exact WD
end Go.Proofs.YtaelnglalpiemaaDoor

/- Caveats: the specified Decode. -/
namespace Go.Proofs.YtaelnglalpiemaaDoor
open Go.Ab
attribute [local irreducible] Go.Ab.tyAV Go.Ab.aw Go.Ab.aops Go.Ab.kReg Go.Ab.aThen Go.Ab.aBlk Go.Ab.acond Go.Ab.aguard Go.Ab.astep Go.Ab.AStepX Go.Ab.aRet

theorem zeroCa_bad : cavB zeroCa = false := by decide
theorem decP_bad {b : List UInt8} (h : (decP b).2.2 ≠ 0) : (decP b).1 = zeroPr := by
  have fb : ∀ p u, (finP p u).2.2 ≠ 0 → (finP p u).1 = zeroPr := fun p u h => by
    unfold finP at h ⊢
    split at h
    · simp at h
    · rename_i h1; rw [if_neg h1]
  unfold decP at h ⊢
  repeat' split
  all_goals first | rfl | (apply fb; simp_all; done) | simp_all
set_option maxHeartbeats 8000000 in
theorem rcDec_spec (b : List UInt8) (hb : b.length ≤ 1000000) (k : Nat) : ACall Tryd.prog 49 [.slice none (b.map byteAV)] k [] (decCAV (decC b)) [] := by
  have c1 := RNum_spec b 0 (Nat.zero_le _) hb
  have hu1 := numR_le (b := b) (u := 0) (Nat.zero_le _)
  have hbad := numR_bad (b := b) (u := 0)
  unfold decC
  generalize numR b 0 = R at *
  obtain ⟨kn, u, e⟩ := R
  simp only at c1 hu1 hbad ⊢
  by_cases he : e ≠ 0
  · rw [if_pos he]
    obtain rfl := hbad he
    have c2 := RFail1 b u e he 6
    have c3 := refCav_spec zeroCa zeroPr_ok
    rw [zeroCa_bad] at c3
    have c4 := RFail1 b u e he 5
    have he' : ((e : Int) == 0) = false := by rw [beq_eq_false_iff_ne]; omega
    have he'' : ((e : Int) != 0) = true := by rw [bne, he']; rfl
    simp only [decCAV, caAV, prAV, zeroPr, zeroCa, List.map_nil] at *
    clear he hbad
    refine ACall.of_body mixed Tryd.func49 rfl (by kernel_rfl) Tryd.ntmps49 (by kernel_rfl) rfl (by simp) (by simp) (by simp) fun σ N hp hpn hk hkn hfree => ?_
    have hcs := And.intro (c1 (N + 5)) (And.intro (c2 (N + 5)) (And.intro c3 (And.intro (c4 (N + 5)) True.intro)))
    clear c1 c2 c3 c4
    exact WD
  have he0 : e = 0 := by omega
  subst he0
  rw [if_neg (by omega)]
  clear he hbad
  by_cases hk : kn = 1
  · subst hk
    rw [if_pos rfl]
    have c2 := RPred_spec b u hu1 hb
    have hp := predR_ok hu1
    generalize predR b u = R at *
    obtain ⟨p, u2, e2⟩ := R
    simp only at c2 hp ⊢
    by_cases he2 : e2 ≠ 0
    · rw [if_pos he2]
      have hp1 := hp.1
      have he' : ((e2 : Int) == 0) = false := by rw [beq_eq_false_iff_ne]; omega
      have he'' : ((e2 : Int) != 0) = true := by rw [bne, he']; rfl
      have c8 := refCav_spec ⟨false, p, 0, [], []⟩ hp1
      cases hv : cavB ⟨false, p, 0, [], []⟩ with
      | false =>
        rw [hv] at c8
        have c9 := RFail1 b u2 e2 (by omega) 5
        simp only [decCAV, caAV, zeroCa, zeroPr, Bool.false_eq_true, if_false, if_true, List.map_nil] at *
        refine ACall.of_body mixed Tryd.func49 rfl (by kernel_rfl) Tryd.ntmps49 (by kernel_rfl) rfl (by simp) (by simp) (by simp) fun σ N hp hpn hk hkn hfree => ?_
        have hcs := And.intro (c1 (N + 5)) (And.intro (c2 (N + 5)) (And.intro c8 (And.intro (c9 (N + 5)) True.intro)))
        clear c1 c2 c8 c9
        exact WD
      | true =>
        rw [hv] at c8
        simp only [decCAV, caAV, zeroCa, zeroPr, Bool.false_eq_true, if_false, if_true, List.map_nil] at *
        refine ACall.of_body mixed Tryd.func49 rfl (by kernel_rfl) Tryd.ntmps49 (by kernel_rfl) rfl (by simp) (by simp) (by simp) fun σ N hp hpn hk hkn hfree => ?_
        have hcs := And.intro (c1 (N + 5)) (And.intro (c2 (N + 5)) (And.intro c8 True.intro))
        clear c1 c2 c8
        exact WD
    have he0 : e2 = 0 := by omega
    subst he0
    rw [if_neg (by omega)]
    clear he2
    have hp1 := hp.1
    have c8 := refCav_spec ⟨false, p, 0, [], []⟩ hp1
    cases hv : cavB ⟨false, p, 0, [], []⟩ with
    | false =>
      unfold finC
      rw [hv]
      rw [hv] at c8
      have c9 := RFail0 b u2 5
      simp only [decCAV, caAV, zeroCa, Bool.false_eq_true, if_false, if_true, List.map_nil] at *
      refine ACall.of_body mixed Tryd.func49 rfl (by kernel_rfl) Tryd.ntmps49 (by kernel_rfl) rfl (by simp) (by simp) (by simp) fun σ N hp hpn hk hkn hfree => ?_
      have hcs := And.intro (c1 (N + 5)) (And.intro (c2 (N + 5)) (And.intro c8 (And.intro (c9 (N + 5)) True.intro)))
      clear c1 c2 c8 c9
      exact WD
    | true =>
      unfold finC
      rw [hv]
      rw [hv] at c8
      simp only [decCAV, caAV, zeroCa, Bool.false_eq_true, if_false, if_true, List.map_nil] at *
      refine ACall.of_body mixed Tryd.func49 rfl (by kernel_rfl) Tryd.ntmps49 (by kernel_rfl) rfl (by simp) (by simp) (by simp) fun σ N hp hpn hk hkn hfree => ?_
      have hcs := And.intro (c1 (N + 5)) (And.intro (c2 (N + 5)) (And.intro c8 True.intro))
      clear c1 c2 c8
      exact WD
  rw [if_neg hk]
  have n1 : ((kn : Int) == 1) = false := by rw [beq_eq_false_iff_ne]; omega
  clear hk
  by_cases hk : kn = 2
  · subst hk
    rw [if_pos rfl]
    have c2 := RNum_spec b u hu1 hb
    have hu2 := numR_le (b := b) (u := u) hu1
    generalize numR b u = R at *
    obtain ⟨n, u2, e2⟩ := R
    simp only at c2 hu2 ⊢
    have c3 := RFieldO_spec b u2 e2 hu2 hb
    have hu3 := fldO_le (b := b) (e := e2) hu2
    generalize fldO b u2 e2 = R at *
    obtain ⟨t, u3, e3⟩ := R
    simp only at c3 hu3 ⊢
    have c4 := RFieldO_spec b u3 e3 hu3 hb
    generalize fldO b u3 e3 = R at *
    obtain ⟨x, u4, e4⟩ := R
    simp only at c4 ⊢
    by_cases he4 : e4 ≠ 0
    · rw [if_pos he4]
      have he' : ((e4 : Int) == 0) = false := by rw [beq_eq_false_iff_ne]; omega
      have he'' : ((e4 : Int) != 0) = true := by rw [bne, he']; rfl
      have c8 := refCav_spec ⟨true, zeroPr, n, t, x⟩ zeroPr_ok
      cases hv : cavB ⟨true, zeroPr, n, t, x⟩ with
      | false =>
        rw [hv] at c8
        have c9 := RFail1 b u4 e4 (by omega) 5
        simp only [decCAV, caAV, prAV, zeroPr, zeroCa, Bool.false_eq_true, if_false, if_true, List.map_nil] at *
        refine ACall.of_body mixed Tryd.func49 rfl (by kernel_rfl) Tryd.ntmps49 (by kernel_rfl) rfl (by simp) (by simp) (by simp) fun σ N hp hpn hk hkn hfree => ?_
        have hcs := And.intro (c1 (N + 5)) (And.intro (c2 (N + 5)) (And.intro (c3 (N + 5)) (And.intro (c4 (N + 5)) (And.intro c8 (And.intro (c9 (N + 5)) True.intro)))))
        clear c1 c2 c3 c4 c8 c9
        exact WD
      | true =>
        rw [hv] at c8
        simp only [decCAV, caAV, prAV, zeroPr, zeroCa, Bool.false_eq_true, if_false, if_true, List.map_nil] at *
        refine ACall.of_body mixed Tryd.func49 rfl (by kernel_rfl) Tryd.ntmps49 (by kernel_rfl) rfl (by simp) (by simp) (by simp) fun σ N hp hpn hk hkn hfree => ?_
        have hcs := And.intro (c1 (N + 5)) (And.intro (c2 (N + 5)) (And.intro (c3 (N + 5)) (And.intro (c4 (N + 5)) (And.intro c8 True.intro))))
        clear c1 c2 c3 c4 c8
        exact WD
    have he0 : e4 = 0 := by omega
    subst he0
    rw [if_neg (by omega)]
    clear he4
    have c8 := refCav_spec ⟨true, zeroPr, n, t, x⟩ zeroPr_ok
    cases hv : cavB ⟨true, zeroPr, n, t, x⟩ with
    | false =>
      unfold finC
      rw [hv]
      rw [hv] at c8
      have c9 := RFail0 b u4 5
      simp only [decCAV, caAV, prAV, zeroPr, zeroCa, Bool.false_eq_true, if_false, if_true, List.map_nil] at *
      refine ACall.of_body mixed Tryd.func49 rfl (by kernel_rfl) Tryd.ntmps49 (by kernel_rfl) rfl (by simp) (by simp) (by simp) fun σ N hp hpn hk hkn hfree => ?_
      have hcs := And.intro (c1 (N + 5)) (And.intro (c2 (N + 5)) (And.intro (c3 (N + 5)) (And.intro (c4 (N + 5)) (And.intro c8 (And.intro (c9 (N + 5)) True.intro)))))
      clear c1 c2 c3 c4 c8 c9
      exact WD
    | true =>
      unfold finC
      rw [hv]
      rw [hv] at c8
      simp only [decCAV, caAV, prAV, zeroPr, zeroCa, Bool.false_eq_true, if_false, if_true, List.map_nil] at *
      refine ACall.of_body mixed Tryd.func49 rfl (by kernel_rfl) Tryd.ntmps49 (by kernel_rfl) rfl (by simp) (by simp) (by simp) fun σ N hp hpn hk hkn hfree => ?_
      have hcs := And.intro (c1 (N + 5)) (And.intro (c2 (N + 5)) (And.intro (c3 (N + 5)) (And.intro (c4 (N + 5)) (And.intro c8 True.intro))))
      clear c1 c2 c3 c4 c8
      exact WD
  rw [if_neg hk]
  have n2 : ((kn : Int) == 2) = false := by rw [beq_eq_false_iff_ne]; omega
  clear hk
  have c2 := RFail0 b u 6
  have c3 := refCav_spec zeroCa zeroPr_ok
  rw [zeroCa_bad] at c3
  have c4 := RFail1 b u 6 (by decide) 5
  have e6 : ((6 : Nat) : Int) = 6 := rfl
  simp only [decCAV, caAV, prAV, zeroPr, zeroCa, RdBox, e6, List.map_nil] at *
  refine ACall.of_body mixed Tryd.func49 rfl (by kernel_rfl) Tryd.ntmps49 (by kernel_rfl) rfl (by simp) (by simp) (by simp) fun σ N hp hpn hk hkn hfree => ?_
  have hcs := And.intro (c1 (N + 5)) (And.intro (c2 (N + 5)) (And.intro c3 (And.intro (c4 (N + 5)) True.intro)))
  clear c1 c2 c3 c4
  exact WD
end Go.Proofs.YtaelnglalpiemaaDoor

/- The deck's Minute, Name, Bytes. -/
namespace Go.Proofs.YtaelnglalpiemaaDoor
open Go.Ab
attribute [local irreducible] Go.Ab.tyAV Go.Ab.aw Go.Ab.aops Go.Ab.kReg Go.Ab.aThen Go.Ab.aBlk Go.Ab.acond Go.Ab.aguard Go.Ab.astep Go.Ab.AStepX Go.Ab.aRet

def minuteD (l : List Int) (i : Nat) : Nat × Nat :=
  let k := nextD l i 4
  if k.1 = 0 then nextD l k.2 4320
  else if k.1 = 1 then (min ((nextD l k.2 60).1 * 1440 + (nextD l (nextD l k.2 60).2 3).1) 67108864, (nextD l (nextD l k.2 60).2 3).2)
  else if k.1 = 2 then (67108864 - (nextD l k.2 4320).1, (nextD l k.2 4320).2)
  else nextD l k.2 67108865
theorem minuteD_le (l : List Int) (i : Nat) : (minuteD l i).1 ≤ 67108864 := by
  unfold minuteD
  simp only
  split
  · have := nextD_lt l (nextD l i 4).2 4320 (by omega); omega
  · split
    · simp only; omega
    · split
      · simp only; omega
      · have := nextD_lt l (nextD l i 4).2 67108865 (by omega); omega
theorem minuteD_dk {l : List Int} {i : Nat} (h : Dk l i) : Dk l (minuteD l i).2 := by
  unfold minuteD
  simp only
  split
  · exact nextD_dk _ (nextD_dk _ h)
  · split
    · exact nextD_dk _ (nextD_dk _ (nextD_dk _ h))
    · split
      · exact nextD_dk _ (nextD_dk _ h)
      · exact nextD_dk _ (nextD_dk _ h)

theorem Minute_spec (l : List Int) (i : Nat) (h : Dk l i) (d k : Nat) :
    ACall Tryd.prog 83 [.ptr d [] 0] k [(d, deckBox l i)] (.lit (.int .i64 (minuteD l i).1)) [(d, deckBox l (minuteD l i).2)] := by
  have c1 := Next_spec l i 4 h (by omega) (by omega)
  have d1 := nextD_dk 4 h
  unfold minuteD
  generalize nextD l i 4 = X at c1 d1 ⊢
  obtain ⟨x, j⟩ := X
  simp only at c1 d1 ⊢
  clear h
  by_cases e0 : x = 0
  · subst e0
    simp only [if_true]
    have c2 := Next_spec l j 4320 d1 (by omega) (by omega)
    generalize nextD l j 4320 = X at c2 ⊢
    obtain ⟨y, j2⟩ := X
    simp only at c2 ⊢
    clear d1
    refine ACall.of_body mixed Tryd.func83 rfl (by kernel_rfl) Tryd.ntmps83 (by kernel_rfl) rfl (by simp) (by simp) (by simp) fun σ N hp hpn hk hkn hfree => ?_
    have hd := hp _ (List.mem_singleton.2 rfl)
    have hdn := hpn _ (List.mem_singleton.2 rfl)
    simp only at hd hdn
    clear hp hpn
    have hcs := And.intro (c1 d) (And.intro (c2 d) True.intro)
    refine Wk ?_
    refine go_resultW [(d, deckBox l j2)] (by simp (disch := omega) [go_sem, *, -List.reduceReplicate]; rfl) (by first | rfl | (simp (disch := omega) [go_sem]; done) | (simp (disch := omega) [go_sem, *]; done) | simp (disch := omega) [go_sem]) (fun id hid => by simp only [wr_cons, wr_nil]; try (by_cases hdd : id = d; (· (subst hdd; simp (disch := omega) [go_sem, *])); (· (simp (disch := omega) only [upd_ne]; try (first | exact hlow id hid hdd | exact hlow id hid))))) (by simp) (by simp (disch := omega) [go_sem, *])
  · simp only [e0, if_false]
    by_cases e1 : x = 1
    · subst e1
      simp only [if_true]
      have c2 := Next_spec l j 60 d1 (by omega) (by omega)
      have d2 := nextD_dk 60 d1
      have b2 := nextD_lt l j 60 (by omega)
      generalize nextD l j 60 = X at c2 d2 b2 ⊢
      obtain ⟨y, j2⟩ := X
      simp only at c2 d2 b2 ⊢
      have c3 := Next_spec l j2 3 d2 (by omega) (by omega)
      have b3 := nextD_lt l j2 3 (by omega)
      generalize nextD l j2 3 = X at c3 b3 ⊢
      obtain ⟨z, j3⟩ := X
      simp only at c3 b3 ⊢
      obtain ⟨w, hw⟩ : ∃ w : Nat, min (y * 1440 + z) 67108864 = w := ⟨_, rfl⟩
      have hw1 : (if (67108864 : Int) < (y : Int) * 1440 + z then (67108864 : Int) else (y : Int) * 1440 + z) = w := by split <;> omega
      rw [hw]
      clear d1 d2 hw
      refine ACall.of_body mixed Tryd.func83 rfl (by kernel_rfl) Tryd.ntmps83 (by kernel_rfl) rfl (by simp) (by simp) (by simp) fun σ N hp hpn hk hkn hfree => ?_
      have hd := hp _ (List.mem_singleton.2 rfl)
      have hdn := hpn _ (List.mem_singleton.2 rfl)
      simp only at hd hdn
      clear hp hpn
      have hcs := And.intro (c1 d) (And.intro (c2 d) (And.intro (c3 d) True.intro))
      refine Wk ?_
      refine go_resultW [(d, deckBox l j3)] (by simp (disch := omega) [go_sem, *, -List.reduceReplicate]; rfl) (by first | rfl | (simp (disch := omega) [go_sem]; done) | (simp (disch := omega) [go_sem, *]; done) | simp (disch := omega) [go_sem]) (fun id hid => by simp only [wr_cons, wr_nil]; try (by_cases hdd : id = d; (· (subst hdd; simp (disch := omega) [go_sem, *])); (· (simp (disch := omega) only [upd_ne]; try (first | exact hlow id hid hdd | exact hlow id hid))))) (by simp) (by simp (disch := omega) [go_sem, *])
    · simp only [e1, if_false]
      by_cases e2 : x = 2
      · subst e2
        simp only [if_true]
        have c2 := Next_spec l j 4320 d1 (by omega) (by omega)
        have b2 := nextD_lt l j 4320 (by omega)
        generalize nextD l j 4320 = X at c2 b2 ⊢
        obtain ⟨y, j2⟩ := X
        simp only at c2 b2 ⊢
        have hw : (67108864 : Int) - (y : Int) = ((67108864 - y : Nat) : Int) := by omega
        rw [← hw]
        clear d1 hw
        refine ACall.of_body mixed Tryd.func83 rfl (by kernel_rfl) Tryd.ntmps83 (by kernel_rfl) rfl (by simp) (by simp) (by simp) fun σ N hp hpn hk hkn hfree => ?_
        have hd := hp _ (List.mem_singleton.2 rfl)
        have hdn := hpn _ (List.mem_singleton.2 rfl)
        simp only at hd hdn
        clear hp hpn
        have hcs := And.intro (c1 d) (And.intro (c2 d) True.intro)
        refine Wk ?_
        refine go_resultW [(d, deckBox l j2)] (by simp (disch := omega) [go_sem, *, -List.reduceReplicate]; rfl) (by first | rfl | (simp (disch := omega) [go_sem]; done) | (simp (disch := omega) [go_sem, *]; done) | simp (disch := omega) [go_sem]) (fun id hid => by simp only [wr_cons, wr_nil]; try (by_cases hdd : id = d; (· (subst hdd; simp (disch := omega) [go_sem, *])); (· (simp (disch := omega) only [upd_ne]; try (first | exact hlow id hid hdd | exact hlow id hid))))) (by simp) (by simp (disch := omega) [go_sem, *])
      · simp only [e2, if_false]
        have c2 := Next_spec l j 67108865 d1 (by omega) (by omega)
        generalize nextD l j 67108865 = X at c2 ⊢
        obtain ⟨y, j2⟩ := X
        simp only at c2 ⊢
        clear d1
        refine ACall.of_body mixed Tryd.func83 rfl (by kernel_rfl) Tryd.ntmps83 (by kernel_rfl) rfl (by simp) (by simp) (by simp) fun σ N hp hpn hk hkn hfree => ?_
        have hd := hp _ (List.mem_singleton.2 rfl)
        have hdn := hpn _ (List.mem_singleton.2 rfl)
        simp only at hd hdn
        clear hp hpn
        have hcs := And.intro (c1 d) (And.intro (c2 d) True.intro)
        refine Wk ?_
        refine go_resultW [(d, deckBox l j2)] (by simp (disch := omega) [go_sem, *, -List.reduceReplicate]; rfl) (by first | rfl | (simp (disch := omega) [go_sem]; done) | (simp (disch := omega) [go_sem, *]; done) | simp (disch := omega) [go_sem]) (fun id hid => by simp only [wr_cons, wr_nil]; try (by_cases hdd : id = d; (· (subst hdd; simp (disch := omega) [go_sem, *])); (· (simp (disch := omega) only [upd_ne]; try (first | exact hlow id hid hdd | exact hlow id hid))))) (by simp) (by simp (disch := omega) [go_sem, *])

def names8 : List (List UInt8) := [[97], [98], [97, 110, 110], [98, 111, 98], [99, 105, 100], [122, 111, 101], [97, 97], [97, 98, 99, 100, 101, 102, 103, 104, 105, 106, 107, 108, 109, 110, 111, 112]]
def nameD (l : List Int) (i : Nat) : List UInt8 × Nat := (names8.getD (nextD l i 8).1 [], (nextD l i 8).2)
theorem nameD_dk {l : List Int} {i : Nat} (h : Dk l i) : Dk l (nameD l i).2 := nextD_dk 8 h
theorem Name_spec0 (l : List Int) (i : Nat) (h : Dk l i) (d k : Nat) :
    ACall Tryd.prog 84 [.ptr d [] 0] k [(d, deckBox l i)] (strAV (nameD l i).1) [(d, deckBox l (nameD l i).2)] := by
  have c1 := Next_spec l i 8 h (by omega) (by omega)
  have b1 := nextD_lt l i 8 (by omega)
  unfold nameD
  generalize nextD l i 8 = X at c1 b1 ⊢
  obtain ⟨x, j⟩ := X
  simp only at c1 b1 ⊢
  have hx : ∀ h : x < 8, ([AV.lit (.string (ByteArray.mk #[97])), .lit (.string (ByteArray.mk #[98])), .lit (.string (ByteArray.mk #[97, 110, 110])), .lit (.string (ByteArray.mk #[98, 111, 98])), .lit (.string (ByteArray.mk #[99, 105, 100])), .lit (.string (ByteArray.mk #[122, 111, 101])), .lit (.string (ByteArray.mk #[97, 97])), .lit (.string (ByteArray.mk #[97, 98, 99, 100, 101, 102, 103, 104, 105, 106, 107, 108, 109, 110, 111, 112]))] : List AV)[x] = strAV (names8.getD x []) := by
    intro h
    have : x = 0 ∨ x = 1 ∨ x = 2 ∨ x = 3 ∨ x = 4 ∨ x = 5 ∨ x = 6 ∨ x = 7 := by omega
    rcases this with rfl | rfl | rfl | rfl | rfl | rfl | rfl | rfl <;> rfl
  have hx2 := hx b1
  have hsz : (strAV (names8.getD x [])).sz = 1 := rfl
  have hag : (strAV (names8.getD x [])).isAgg = false := rfl
  have hrn : ∀ f, (strAV (names8.getD x [])).ren f = strAV (names8.getD x []) := fun _ => rfl
  generalize strAV (names8.getD x []) = r at *
  clear hx
  refine ACall.of_body mixed Tryd.func84 rfl (by kernel_rfl) Tryd.ntmps84 (by kernel_rfl) rfl (by simp) (by simp) (by simp) fun σ N hp hpn hk hkn hfree => ?_
  have hd := hp _ (List.mem_singleton.2 rfl)
  have hdn := hpn _ (List.mem_singleton.2 rfl)
  simp only at hd hdn
  clear hp hpn
  have hcs := And.intro (c1 d) True.intro
  refine Wk ?_
  refine go_resultW [(d, deckBox l j)] (by simp (disch := omega) [go_sem, *, -List.reduceReplicate]; rfl) (by first | rfl | (simp (disch := omega) [go_sem]; done) | (simp (disch := omega) [go_sem, *]; done) | simp (disch := omega) [go_sem]) (fun id hid => by simp only [wr_cons, wr_nil]; try (by_cases hdd : id = d; (· (subst hdd; simp (disch := omega) [go_sem, *])); (· (simp (disch := omega) only [upd_ne]; try (first | exact hlow id hid hdd | exact hlow id hid))))) (by simp) (by simp (disch := omega) [go_sem, *])
def bytesK (l : List Int) : Nat → Nat → List UInt8 × Nat
  | 0, i => ([], i)
  | f + 1, i => (UInt8.ofNat (nextD l i 256).1 :: (bytesK l f (nextD l i 256).2).1, (bytesK l f (nextD l i 256).2).2)
theorem bytesK_len (l : List Int) : ∀ f i, (bytesK l f i).1.length = f
  | 0, i => rfl
  | f + 1, i => by simp [bytesK, bytesK_len l f]
theorem bytesK_dk {l : List Int} : ∀ f i, Dk l i → Dk l (bytesK l f i).2
  | 0, i, h => h
  | f + 1, i, h => bytesK_dk f _ (nextD_dk 256 h)
def bytesD (l : List Int) (i n : Nat) : List UInt8 × Nat := bytesK l (nextD l i (n + 1)).1 (nextD l i (n + 1)).2
theorem bytesD_dk {l : List Int} {i : Nat} (n : Nat) (h : Dk l i) : Dk l (bytesD l i n).2 := bytesK_dk _ _ (nextD_dk _ h)
theorem bytesD_len (l : List Int) (i n : Nat) : (bytesD l i n).1.length ≤ n := by
  have := nextD_lt l i (n + 1) (by omega)
  rw [bytesD, bytesK_len]; omega

theorem Bytes_spec (l : List Int) (i n : Nat) (h : Dk l i) (hn : n ≤ 100000) (d k : Nat) :
    ACall Tryd.prog 52 [.ptr d [] 0, .lit (.int .i64 n)] k [(d, deckBox l i)] (.slice none ((bytesD l i n).1.map byteAV)) [(d, deckBox l (bytesD l i n).2)] := by
  have c1 := Next_spec l i (n + 1) h (by omega) (by omega)
  have d1 := nextD_dk (n + 1) h
  have b1 := nextD_lt l i (n + 1) (by omega)
  have hn1 : ((n + 1 : Nat) : Int) = (n : Int) + 1 := by omega
  unfold bytesD
  rw [hn1] at c1
  generalize nextD l i (n + 1) = X at *
  obtain ⟨K, j⟩ := X
  simp only at c1 d1 b1 ⊢
  clear h hn1
  have hcs := And.intro (c1 d) True.intro
  generalize hR : bytesK l K j = R
  obtain ⟨R1, R2⟩ := R
  simp only
  refine ACall.of_body mixed Tryd.func52 rfl (by kernel_rfl) Tryd.ntmps52 (by kernel_rfl) rfl (by simp) (by simp) (by simp) fun σ N hp hpn hk hkn hfree => ?_
  have hd := hp _ (List.mem_singleton.2 rfl); have hdn := hpn _ (List.mem_singleton.2 rfl); simp only at hd hdn; clear hp hpn
  clear c1
  refine Wk ?_
  refine ALoop.nilrow 5 5 1 (by simp (disch := omega) [go_sem, *, -List.reduceReplicate]) ?_
  refine go_loopB (N) mixed (by kernel_rfl) [5, 6, 11, 12, 13, 14, 15, 16, 17, 18, 19, 20] [d] (fun m_ s_ σ_ n_ => ∃ (f : Nat) (j' : Nat) (r : Nat) (acc : List UInt8), m_ = f ∧ s_ 6 = .lit (.int .i64 f) ∧ s_ 5 = .slice (some r) (acc.map byteAV) ∧ σ_ (d) = deckBox l j' ∧ σ_ (r) = .row 5 1 acc.length ∧ (N ≤ r) ∧ (r < n_) ∧ (f + acc.length ≤ 100000) ∧ (Dk l j') ∧ ((acc ++ (bytesK l f j').1, (bytesK l f j').2) = (R1, R2))) ⟨_, K, j, _, [], rfl, WF, WF, WF, WF, WC, WC, WC, WC, WC⟩ ?_
  intro m_1 s_1 σ_1 n_1 hs_1 hf_1 hn_1 hI_1
  obtain ⟨f, j', r, acc, hm_1, h1_6, h1_5, e1_0, e1_1, hNr, hrn, hfl, hdj, hacc⟩ := hI_1
  have h1_0 := (hs_1.at 0 (by decide)).trans WE
  have h1_4 := (hs_1.at 4 (by decide)).trans WE
  have hlow : ∀ id, id < N → id ≠ d → σ_1 id = σ id := fun id hid hdd => (hf_1.at id (by omega) WQ).trans WH
  have hne : ¬ r = d := by omega
  have hne2 : ¬ d = r := by omega
  cases f with
  | zero =>
    simp only [bytesK, List.append_nil, Prod.mk.injEq] at hacc
    obtain ⟨rfl, rfl⟩ := hacc
    refine Wk ?_
    refine go_resultWI [(d, deckBox l j')] (by simp (disch := omega) [go_sem, *, -List.reduceReplicate]; rfl) (by first | exact AV.le_refl _ | ((first | apply AV.le_slices | apply AV.le_nilsE | apply AV.le_clipE); first | rfl | (simp (disch := omega) [go_sem, *, -List.reduceReplicate]; done)) | (apply AV.sub_tup; repeat' first | exact ALe.nil | exact AV.le_refl _ | apply ALe.cons | ((first | apply AV.le_slices | apply AV.le_nilsE | apply AV.le_clipE); first | rfl | (simp (disch := omega) [go_sem, *, -List.reduceReplicate]; done)))) (by first | rfl | (simp (disch := omega) [go_sem]; done) | (simp (disch := omega) [go_sem, *]; done) | simp (disch := omega) [go_sem]) (fun id hid => by simp only [wr_cons, wr_nil]; try (by_cases hdd : id = d; (· (subst hdd; simp (disch := omega) [go_sem, *])); (· (simp (disch := omega) only [upd_ne]; try (first | exact hlow id hid hdd | exact hlow id hid))))) (by simp) (by simp (disch := omega) [go_sem, *])
  | succ f =>
    have c1 := Next_spec l j' 256 hdj (by omega) (by omega)
    have d1 := nextD_dk 256 hdj
    have b1 := nextD_lt l j' 256 (by omega)
    rw [bytesK] at hacc
    generalize nextD l j' 256 = X at *
    obtain ⟨x, j2⟩ := X
    simp only at c1 d1 b1 hacc
    have hw : IntKind.u8.wrap (x : Int) = x := by rw [IntKind.wrap_u8]; omega
    have hbx : AV.lit (.int .u8 (x : Int)) = byteAV (UInt8.ofNat x) := by simp [byteAV, Nat.mod_eq_of_lt b1]
    have hcs := And.intro (c1 d) True.intro
    clear c1 hdj
    refine Wk ?_
    exact ⟨WS, WG, WN, _, (show (f) < m_1 by omega), f, j2, r, acc ++ [UInt8.ofNat x], rfl, WF, WF, WF, WF, WC, WC, WC, WC, WC⟩
end Go.Proofs.YtaelnglalpiemaaDoor

/- The deck's mask, Upto; what exists. -/
namespace Go.Proofs.YtaelnglalpiemaaDoor
open Go.Ab
attribute [local irreducible] Go.Ab.tyAV Go.Ab.aw Go.Ab.aops Go.Ab.kReg Go.Ab.aThen Go.Ab.aBlk Go.Ab.acond Go.Ab.aguard Go.Ab.astep Go.Ab.AStepX Go.Ab.aRet

theorem u64_wrap_range (x : Int) : 0 ≤ IntKind.u64.wrap x ∧ IntKind.u64.wrap x < 18446744073709551616 := by
  have : IntKind.u64.wrap x = x % 18446744073709551616 := by simp [IntKind.wrap, IntKind.bits, IntKind.signed]
  rw [this]; omega
theorem u64_bits_range (op : BinOp) (a b : Int) : 0 ≤ bits op .u64 a b ∧ bits op .u64 a b < 18446744073709551616 := by
  unfold bits
  split <;> exact u64_wrap_range _
theorem u64_and32 (x : Int) (h0 : 0 ≤ x) (h1 : x < 18446744073709551616) : bits .and .u64 x 4294967295 = x % 4294967296 := bits_mask .u64 64 (by decide) (fun n a b => wrap_u64r a (by omega)) 32 (by decide) x h0 h1
theorem u64_and7 (x : Int) (h0 : 0 ≤ x) (h1 : x < 18446744073709551616) : bits .and .u64 x 127 = x % 128 := bits_mask .u64 64 (by decide) (fun n a b => wrap_u64r a (by omega)) 7 (by decide) x h0 h1

theorem Next_at (l : List Int) (i : Nat) (n : Nat) (h : Dk l i) (h0 : 0 < n) (hn : n ≤ 1000000000000000000) :
    ∃ x j : Nat, x < n ∧ Dk l j ∧ ∀ d k, ACall Tryd.prog 50 [.ptr d [] 0, .lit (.int .i64 n)] k [(d, deckBox l i)] (.lit (.int .i64 x)) [(d, deckBox l j)] := Next_ex l i n h h0 hn
theorem pow_lt (y n : Nat) (h : y < n) (_hn : n ≤ 64) : ∃ p : Int, (2 : Int) ^ y = p ∧ 0 < p ∧ p < 2 ^ n := by
  refine ⟨_, rfl, Int.pow_pos (by omega), ?_⟩
  exact_mod_cast Nat.pow_lt_pow_right (by omega) h

set_option maxHeartbeats 4000000 in
theorem mask64_ex (l : List Int) (i : Nat) (h : Dk l i) :
    ∃ (m : Int) (j : Nat), 0 < m ∧ m < 2 ^ 64 ∧ Dk l j ∧ ∀ d k, ACall Tryd.prog 82 [.ptr d [] 0, .lit (.int .i64 64)] k [(d, deckBox l i)] (.lit (.int .u64 m)) [(d, deckBox l j)] := by
  obtain ⟨x, j1, x1, d1, c1⟩ := Next_at l i 3 h (by omega) (by omega)
  have hx : x = 0 ∨ x = 1 ∨ x = 2 := by omega
  rcases hx with rfl | rfl | rfl
  · obtain ⟨a, j2, a1, d2, c2⟩ := Next_at l j1 16 d1 (by omega) (by omega)
    obtain ⟨v, hv⟩ : ∃ v : Int, (a : Int) = v := ⟨_, rfl⟩
    have v0 : 0 ≤ v := by omega
    have v1 : v < 18446744073709551616 := by omega
    have hvw : IntKind.u64.wrap v = v := wrap_u64r v0 (by omega)
    by_cases hz : v = 0
    · obtain ⟨y, j9, y1, d9, c9⟩ := Next_at l j2 64 d2 (by omega) (by omega)
      obtain ⟨p, hp1, hp2, hp3⟩ := pow_lt y 64 y1 (by omega)
      have hmn : min y 64 = y := by omega
      refine ⟨p, j9, hp2, hp3, d9, fun d k => ?_⟩
      have hpw : IntKind.u64.wrap p = p := wrap_u64r (by omega) (by simp at hp3; omega)
      have hyw : IntKind.u64.wrap (y : Int) = y := wrap_u64r (by omega) (by omega)
      have hzb : (v == 0) = true := by simp [hz]
      refine ACall.of_body mixed Tryd.func82 rfl (by kernel_rfl) Tryd.ntmps82 (by kernel_rfl) rfl (by simp) (by simp) (by simp) fun σ N hp hpn hk hkn hfree => ?_
      have hd := hp _ (List.mem_singleton.2 rfl); have hdn := hpn _ (List.mem_singleton.2 rfl); simp only at hd hdn; clear hp hpn
      have hcs := And.intro (c1 d) (And.intro (c2 d) (And.intro (c9 d) True.intro))
      clear c1 c2 c9
      refine Wk ?_
      refine go_resultW [(d, deckBox l j9)] (by simp (disch := omega) [go_sem, *, -List.reduceReplicate]; rfl) (by first | rfl | (simp (disch := omega) [go_sem]; done) | (simp (disch := omega) [go_sem, *]; done) | simp (disch := omega) [go_sem]) (fun id hid => by simp only [wr_cons, wr_nil]; try (by_cases hdd : id = d; (· (subst hdd; simp (disch := omega) [go_sem, *])); (· (simp (disch := omega) only [upd_ne]; try (first | exact hlow id hid hdd | exact hlow id hid))))) (by simp) (by simp (disch := omega) [go_sem, *])
    · have hzb : (v == 0) = false := by simp [hz]
      refine ⟨v, j2, by omega, by simp; omega, d2, fun d k => ?_⟩
      refine ACall.of_body mixed Tryd.func82 rfl (by kernel_rfl) Tryd.ntmps82 (by kernel_rfl) rfl (by simp) (by simp) (by simp) fun σ N hp hpn hk hkn hfree => ?_
      have hd := hp _ (List.mem_singleton.2 rfl); have hdn := hpn _ (List.mem_singleton.2 rfl); simp only at hd hdn; clear hp hpn
      have hcs := And.intro (c1 d) (And.intro (c2 d) True.intro)
      clear c1 c2
      refine Wk ?_
      refine go_resultW [(d, deckBox l j2)] (by simp (disch := omega) [go_sem, *, -List.reduceReplicate]; rfl) (by first | rfl | (simp (disch := omega) [go_sem]; done) | (simp (disch := omega) [go_sem, *]; done) | simp (disch := omega) [go_sem]) (fun id hid => by simp only [wr_cons, wr_nil]; try (by_cases hdd : id = d; (· (subst hdd; simp (disch := omega) [go_sem, *])); (· (simp (disch := omega) only [upd_ne]; try (first | exact hlow id hid hdd | exact hlow id hid))))) (by simp) (by simp (disch := omega) [go_sem, *])
  · obtain ⟨a, j2, a1, d2, c2⟩ := Next_at l j1 65536 d1 (by omega) (by omega)
    obtain ⟨b, j3, b1, d3, c3⟩ := Next_at l j2 65536 d2 (by omega) (by omega)
    obtain ⟨v, hv⟩ : ∃ v : Int, bits .or .u64 (a : Int) ((b : Int) * 281474976710656) = v := ⟨_, rfl⟩
    obtain ⟨v0, v1⟩ := u64_bits_range .or (a : Int) ((b : Int) * 281474976710656)
    rw [hv] at v0 v1
    have haw : IntKind.u64.wrap (a : Int) = a := wrap_u64r (by omega) (by omega)
    have hbw : IntKind.u64.wrap (b : Int) = b := wrap_u64r (by omega) (by omega)
    have hbs : IntKind.u64.wrap ((b : Int) * 281474976710656) = (b : Int) * 281474976710656 := wrap_u64r (by omega) (by omega)
    by_cases hz : v = 0
    · obtain ⟨y, j9, y1, d9, c9⟩ := Next_at l j3 64 d3 (by omega) (by omega)
      obtain ⟨p, hp1, hp2, hp3⟩ := pow_lt y 64 y1 (by omega)
      have hmn : min y 64 = y := by omega
      refine ⟨p, j9, hp2, hp3, d9, fun d k => ?_⟩
      have hpw : IntKind.u64.wrap p = p := wrap_u64r (by omega) (by simp at hp3; omega)
      have hyw : IntKind.u64.wrap (y : Int) = y := wrap_u64r (by omega) (by omega)
      have hzb : (v == 0) = true := by simp [hz]
      refine ACall.of_body mixed Tryd.func82 rfl (by kernel_rfl) Tryd.ntmps82 (by kernel_rfl) rfl (by simp) (by simp) (by simp) fun σ N hp hpn hk hkn hfree => ?_
      have hd := hp _ (List.mem_singleton.2 rfl); have hdn := hpn _ (List.mem_singleton.2 rfl); simp only at hd hdn; clear hp hpn
      have hcs := And.intro (c1 d) (And.intro (c2 d) (And.intro (c3 d) (And.intro (c9 d) True.intro)))
      clear c1 c2 c3 c9
      refine Wk ?_
      refine go_resultW [(d, deckBox l j9)] (by simp (disch := omega) [go_sem, *, -List.reduceReplicate]; rfl) (by first | rfl | (simp (disch := omega) [go_sem]; done) | (simp (disch := omega) [go_sem, *]; done) | simp (disch := omega) [go_sem]) (fun id hid => by simp only [wr_cons, wr_nil]; try (by_cases hdd : id = d; (· (subst hdd; simp (disch := omega) [go_sem, *])); (· (simp (disch := omega) only [upd_ne]; try (first | exact hlow id hid hdd | exact hlow id hid))))) (by simp) (by simp (disch := omega) [go_sem, *])
    · have hzb : (v == 0) = false := by simp [hz]
      refine ⟨v, j3, by omega, by simp; omega, d3, fun d k => ?_⟩
      refine ACall.of_body mixed Tryd.func82 rfl (by kernel_rfl) Tryd.ntmps82 (by kernel_rfl) rfl (by simp) (by simp) (by simp) fun σ N hp hpn hk hkn hfree => ?_
      have hd := hp _ (List.mem_singleton.2 rfl); have hdn := hpn _ (List.mem_singleton.2 rfl); simp only at hd hdn; clear hp hpn
      have hcs := And.intro (c1 d) (And.intro (c2 d) (And.intro (c3 d) True.intro))
      clear c1 c2 c3
      refine Wk ?_
      refine go_resultW [(d, deckBox l j3)] (by simp (disch := omega) [go_sem, *, -List.reduceReplicate]; rfl) (by first | rfl | (simp (disch := omega) [go_sem]; done) | (simp (disch := omega) [go_sem, *]; done) | simp (disch := omega) [go_sem]) (fun id hid => by simp only [wr_cons, wr_nil]; try (by_cases hdd : id = d; (· (subst hdd; simp (disch := omega) [go_sem, *])); (· (simp (disch := omega) only [upd_ne]; try (first | exact hlow id hid hdd | exact hlow id hid))))) (by simp) (by simp (disch := omega) [go_sem, *])
  · obtain ⟨a, j2, a1, d2, c2⟩ := Next_at l j1 65536 d1 (by omega) (by omega)
    obtain ⟨v, hv⟩ : ∃ v : Int, bits .xor .u64 18446744073709551615 (a : Int) = v := ⟨_, rfl⟩
    obtain ⟨v0, v1⟩ := u64_bits_range .xor 18446744073709551615 (a : Int)
    rw [hv] at v0 v1
    have haw : IntKind.u64.wrap (a : Int) = a := wrap_u64r (by omega) (by omega)
    have hsx : (if IntKind.u64.signed = true then (-1 : Int) else IntKind.u64.max) = 18446744073709551615 := by decide
    by_cases hz : v = 0
    · obtain ⟨y, j9, y1, d9, c9⟩ := Next_at l j2 64 d2 (by omega) (by omega)
      obtain ⟨p, hp1, hp2, hp3⟩ := pow_lt y 64 y1 (by omega)
      have hmn : min y 64 = y := by omega
      refine ⟨p, j9, hp2, hp3, d9, fun d k => ?_⟩
      have hpw : IntKind.u64.wrap p = p := wrap_u64r (by omega) (by simp at hp3; omega)
      have hyw : IntKind.u64.wrap (y : Int) = y := wrap_u64r (by omega) (by omega)
      have hzb : (v == 0) = true := by simp [hz]
      refine ACall.of_body mixed Tryd.func82 rfl (by kernel_rfl) Tryd.ntmps82 (by kernel_rfl) rfl (by simp) (by simp) (by simp) fun σ N hp hpn hk hkn hfree => ?_
      have hd := hp _ (List.mem_singleton.2 rfl); have hdn := hpn _ (List.mem_singleton.2 rfl); simp only at hd hdn; clear hp hpn
      have hcs := And.intro (c1 d) (And.intro (c2 d) (And.intro (c9 d) True.intro))
      clear c1 c2 c9
      refine Wk ?_
      refine go_resultW [(d, deckBox l j9)] (by simp (disch := omega) [go_sem, *, -List.reduceReplicate]; rfl) (by first | rfl | (simp (disch := omega) [go_sem]; done) | (simp (disch := omega) [go_sem, *]; done) | simp (disch := omega) [go_sem]) (fun id hid => by simp only [wr_cons, wr_nil]; try (by_cases hdd : id = d; (· (subst hdd; simp (disch := omega) [go_sem, *])); (· (simp (disch := omega) only [upd_ne]; try (first | exact hlow id hid hdd | exact hlow id hid))))) (by simp) (by simp (disch := omega) [go_sem, *])
    · have hzb : (v == 0) = false := by simp [hz]
      refine ⟨v, j2, by omega, by simp; omega, d2, fun d k => ?_⟩
      refine ACall.of_body mixed Tryd.func82 rfl (by kernel_rfl) Tryd.ntmps82 (by kernel_rfl) rfl (by simp) (by simp) (by simp) fun σ N hp hpn hk hkn hfree => ?_
      have hd := hp _ (List.mem_singleton.2 rfl); have hdn := hpn _ (List.mem_singleton.2 rfl); simp only at hd hdn; clear hp hpn
      have hcs := And.intro (c1 d) (And.intro (c2 d) True.intro)
      clear c1 c2
      refine Wk ?_
      refine go_resultW [(d, deckBox l j2)] (by simp (disch := omega) [go_sem, *, -List.reduceReplicate]; rfl) (by first | rfl | (simp (disch := omega) [go_sem]; done) | (simp (disch := omega) [go_sem, *]; done) | simp (disch := omega) [go_sem]) (fun id hid => by simp only [wr_cons, wr_nil]; try (by_cases hdd : id = d; (· (subst hdd; simp (disch := omega) [go_sem, *])); (· (simp (disch := omega) only [upd_ne]; try (first | exact hlow id hid hdd | exact hlow id hid))))) (by simp) (by simp (disch := omega) [go_sem, *])

set_option maxHeartbeats 4000000 in
theorem mask32_ex (l : List Int) (i : Nat) (h : Dk l i) :
    ∃ (m : Int) (j : Nat), 0 < m ∧ m < 2 ^ 32 ∧ Dk l j ∧ ∀ d k, ACall Tryd.prog 82 [.ptr d [] 0, .lit (.int .i64 32)] k [(d, deckBox l i)] (.lit (.int .u64 m)) [(d, deckBox l j)] := by
  obtain ⟨x, j1, x1, d1, c1⟩ := Next_at l i 3 h (by omega) (by omega)
  have hx : x = 0 ∨ x = 1 ∨ x = 2 := by omega
  rcases hx with rfl | rfl | rfl
  · obtain ⟨a, j2, a1, d2, c2⟩ := Next_at l j1 16 d1 (by omega) (by omega)
    obtain ⟨v, hv⟩ : ∃ v : Int, (a : Int) = v := ⟨_, rfl⟩
    have v0 : 0 ≤ v := by omega
    have v1 : v < 18446744073709551616 := by omega
    have hvw : IntKind.u64.wrap v = v := wrap_u64r v0 (by omega)
    have ha := u64_and32 v v0 v1
    obtain ⟨w, hw⟩ : ∃ w, v % 4294967296 = w := ⟨_, rfl⟩
    have w0 : 0 ≤ w := by omega
    have w1 : w < 4294967296 := by omega
    rw [hw] at ha
    by_cases hz : w = 0
    · obtain ⟨y, j9, y1, d9, c9⟩ := Next_at l j2 32 d2 (by omega) (by omega)
      obtain ⟨p, hp1, hp2, hp3⟩ := pow_lt y 32 y1 (by omega)
      have hmn : min y 64 = y := by omega
      refine ⟨p, j9, hp2, hp3, d9, fun d k => ?_⟩
      have hpw : IntKind.u64.wrap p = p := wrap_u64r (by omega) (by simp at hp3; omega)
      have hyw : IntKind.u64.wrap (y : Int) = y := wrap_u64r (by omega) (by omega)
      have hzb : (w == 0) = true := by simp [hz]
      refine ACall.of_body mixed Tryd.func82 rfl (by kernel_rfl) Tryd.ntmps82 (by kernel_rfl) rfl (by simp) (by simp) (by simp) fun σ N hp hpn hk hkn hfree => ?_
      have hd := hp _ (List.mem_singleton.2 rfl); have hdn := hpn _ (List.mem_singleton.2 rfl); simp only at hd hdn; clear hp hpn
      have hcs := And.intro (c1 d) (And.intro (c2 d) (And.intro (c9 d) True.intro))
      clear c1 c2 c9
      refine Wk ?_
      refine go_resultW [(d, deckBox l j9)] (by simp (disch := omega) [go_sem, *, -List.reduceReplicate]; rfl) (by first | rfl | (simp (disch := omega) [go_sem]; done) | (simp (disch := omega) [go_sem, *]; done) | simp (disch := omega) [go_sem]) (fun id hid => by simp only [wr_cons, wr_nil]; try (by_cases hdd : id = d; (· (subst hdd; simp (disch := omega) [go_sem, *])); (· (simp (disch := omega) only [upd_ne]; try (first | exact hlow id hid hdd | exact hlow id hid))))) (by simp) (by simp (disch := omega) [go_sem, *])
    · have hzb : (w == 0) = false := by simp [hz]
      refine ⟨w, j2, by omega, by simp; omega, d2, fun d k => ?_⟩
      refine ACall.of_body mixed Tryd.func82 rfl (by kernel_rfl) Tryd.ntmps82 (by kernel_rfl) rfl (by simp) (by simp) (by simp) fun σ N hp hpn hk hkn hfree => ?_
      have hd := hp _ (List.mem_singleton.2 rfl); have hdn := hpn _ (List.mem_singleton.2 rfl); simp only at hd hdn; clear hp hpn
      have hcs := And.intro (c1 d) (And.intro (c2 d) True.intro)
      clear c1 c2
      refine Wk ?_
      refine go_resultW [(d, deckBox l j2)] (by simp (disch := omega) [go_sem, *, -List.reduceReplicate]; rfl) (by first | rfl | (simp (disch := omega) [go_sem]; done) | (simp (disch := omega) [go_sem, *]; done) | simp (disch := omega) [go_sem]) (fun id hid => by simp only [wr_cons, wr_nil]; try (by_cases hdd : id = d; (· (subst hdd; simp (disch := omega) [go_sem, *])); (· (simp (disch := omega) only [upd_ne]; try (first | exact hlow id hid hdd | exact hlow id hid))))) (by simp) (by simp (disch := omega) [go_sem, *])
  · obtain ⟨a, j2, a1, d2, c2⟩ := Next_at l j1 65536 d1 (by omega) (by omega)
    obtain ⟨b, j3, b1, d3, c3⟩ := Next_at l j2 65536 d2 (by omega) (by omega)
    obtain ⟨v, hv⟩ : ∃ v : Int, bits .or .u64 (a : Int) ((b : Int) * 281474976710656) = v := ⟨_, rfl⟩
    obtain ⟨v0, v1⟩ := u64_bits_range .or (a : Int) ((b : Int) * 281474976710656)
    rw [hv] at v0 v1
    have haw : IntKind.u64.wrap (a : Int) = a := wrap_u64r (by omega) (by omega)
    have hbw : IntKind.u64.wrap (b : Int) = b := wrap_u64r (by omega) (by omega)
    have hbs : IntKind.u64.wrap ((b : Int) * 281474976710656) = (b : Int) * 281474976710656 := wrap_u64r (by omega) (by omega)
    have ha := u64_and32 v v0 v1
    obtain ⟨w, hw⟩ : ∃ w, v % 4294967296 = w := ⟨_, rfl⟩
    have w0 : 0 ≤ w := by omega
    have w1 : w < 4294967296 := by omega
    rw [hw] at ha
    by_cases hz : w = 0
    · obtain ⟨y, j9, y1, d9, c9⟩ := Next_at l j3 32 d3 (by omega) (by omega)
      obtain ⟨p, hp1, hp2, hp3⟩ := pow_lt y 32 y1 (by omega)
      have hmn : min y 64 = y := by omega
      refine ⟨p, j9, hp2, hp3, d9, fun d k => ?_⟩
      have hpw : IntKind.u64.wrap p = p := wrap_u64r (by omega) (by simp at hp3; omega)
      have hyw : IntKind.u64.wrap (y : Int) = y := wrap_u64r (by omega) (by omega)
      have hzb : (w == 0) = true := by simp [hz]
      refine ACall.of_body mixed Tryd.func82 rfl (by kernel_rfl) Tryd.ntmps82 (by kernel_rfl) rfl (by simp) (by simp) (by simp) fun σ N hp hpn hk hkn hfree => ?_
      have hd := hp _ (List.mem_singleton.2 rfl); have hdn := hpn _ (List.mem_singleton.2 rfl); simp only at hd hdn; clear hp hpn
      have hcs := And.intro (c1 d) (And.intro (c2 d) (And.intro (c3 d) (And.intro (c9 d) True.intro)))
      clear c1 c2 c3 c9
      refine Wk ?_
      refine go_resultW [(d, deckBox l j9)] (by simp (disch := omega) [go_sem, *, -List.reduceReplicate]; rfl) (by first | rfl | (simp (disch := omega) [go_sem]; done) | (simp (disch := omega) [go_sem, *]; done) | simp (disch := omega) [go_sem]) (fun id hid => by simp only [wr_cons, wr_nil]; try (by_cases hdd : id = d; (· (subst hdd; simp (disch := omega) [go_sem, *])); (· (simp (disch := omega) only [upd_ne]; try (first | exact hlow id hid hdd | exact hlow id hid))))) (by simp) (by simp (disch := omega) [go_sem, *])
    · have hzb : (w == 0) = false := by simp [hz]
      refine ⟨w, j3, by omega, by simp; omega, d3, fun d k => ?_⟩
      refine ACall.of_body mixed Tryd.func82 rfl (by kernel_rfl) Tryd.ntmps82 (by kernel_rfl) rfl (by simp) (by simp) (by simp) fun σ N hp hpn hk hkn hfree => ?_
      have hd := hp _ (List.mem_singleton.2 rfl); have hdn := hpn _ (List.mem_singleton.2 rfl); simp only at hd hdn; clear hp hpn
      have hcs := And.intro (c1 d) (And.intro (c2 d) (And.intro (c3 d) True.intro))
      clear c1 c2 c3
      refine Wk ?_
      refine go_resultW [(d, deckBox l j3)] (by simp (disch := omega) [go_sem, *, -List.reduceReplicate]; rfl) (by first | rfl | (simp (disch := omega) [go_sem]; done) | (simp (disch := omega) [go_sem, *]; done) | simp (disch := omega) [go_sem]) (fun id hid => by simp only [wr_cons, wr_nil]; try (by_cases hdd : id = d; (· (subst hdd; simp (disch := omega) [go_sem, *])); (· (simp (disch := omega) only [upd_ne]; try (first | exact hlow id hid hdd | exact hlow id hid))))) (by simp) (by simp (disch := omega) [go_sem, *])
  · obtain ⟨a, j2, a1, d2, c2⟩ := Next_at l j1 65536 d1 (by omega) (by omega)
    obtain ⟨v, hv⟩ : ∃ v : Int, bits .xor .u64 18446744073709551615 (a : Int) = v := ⟨_, rfl⟩
    obtain ⟨v0, v1⟩ := u64_bits_range .xor 18446744073709551615 (a : Int)
    rw [hv] at v0 v1
    have haw : IntKind.u64.wrap (a : Int) = a := wrap_u64r (by omega) (by omega)
    have hsx : (if IntKind.u64.signed = true then (-1 : Int) else IntKind.u64.max) = 18446744073709551615 := by decide
    have ha := u64_and32 v v0 v1
    obtain ⟨w, hw⟩ : ∃ w, v % 4294967296 = w := ⟨_, rfl⟩
    have w0 : 0 ≤ w := by omega
    have w1 : w < 4294967296 := by omega
    rw [hw] at ha
    by_cases hz : w = 0
    · obtain ⟨y, j9, y1, d9, c9⟩ := Next_at l j2 32 d2 (by omega) (by omega)
      obtain ⟨p, hp1, hp2, hp3⟩ := pow_lt y 32 y1 (by omega)
      have hmn : min y 64 = y := by omega
      refine ⟨p, j9, hp2, hp3, d9, fun d k => ?_⟩
      have hpw : IntKind.u64.wrap p = p := wrap_u64r (by omega) (by simp at hp3; omega)
      have hyw : IntKind.u64.wrap (y : Int) = y := wrap_u64r (by omega) (by omega)
      have hzb : (w == 0) = true := by simp [hz]
      refine ACall.of_body mixed Tryd.func82 rfl (by kernel_rfl) Tryd.ntmps82 (by kernel_rfl) rfl (by simp) (by simp) (by simp) fun σ N hp hpn hk hkn hfree => ?_
      have hd := hp _ (List.mem_singleton.2 rfl); have hdn := hpn _ (List.mem_singleton.2 rfl); simp only at hd hdn; clear hp hpn
      have hcs := And.intro (c1 d) (And.intro (c2 d) (And.intro (c9 d) True.intro))
      clear c1 c2 c9
      refine Wk ?_
      refine go_resultW [(d, deckBox l j9)] (by simp (disch := omega) [go_sem, *, -List.reduceReplicate]; rfl) (by first | rfl | (simp (disch := omega) [go_sem]; done) | (simp (disch := omega) [go_sem, *]; done) | simp (disch := omega) [go_sem]) (fun id hid => by simp only [wr_cons, wr_nil]; try (by_cases hdd : id = d; (· (subst hdd; simp (disch := omega) [go_sem, *])); (· (simp (disch := omega) only [upd_ne]; try (first | exact hlow id hid hdd | exact hlow id hid))))) (by simp) (by simp (disch := omega) [go_sem, *])
    · have hzb : (w == 0) = false := by simp [hz]
      refine ⟨w, j2, by omega, by simp; omega, d2, fun d k => ?_⟩
      refine ACall.of_body mixed Tryd.func82 rfl (by kernel_rfl) Tryd.ntmps82 (by kernel_rfl) rfl (by simp) (by simp) (by simp) fun σ N hp hpn hk hkn hfree => ?_
      have hd := hp _ (List.mem_singleton.2 rfl); have hdn := hpn _ (List.mem_singleton.2 rfl); simp only at hd hdn; clear hp hpn
      have hcs := And.intro (c1 d) (And.intro (c2 d) True.intro)
      clear c1 c2
      refine Wk ?_
      refine go_resultW [(d, deckBox l j2)] (by simp (disch := omega) [go_sem, *, -List.reduceReplicate]; rfl) (by first | rfl | (simp (disch := omega) [go_sem]; done) | (simp (disch := omega) [go_sem, *]; done) | simp (disch := omega) [go_sem]) (fun id hid => by simp only [wr_cons, wr_nil]; try (by_cases hdd : id = d; (· (subst hdd; simp (disch := omega) [go_sem, *])); (· (simp (disch := omega) only [upd_ne]; try (first | exact hlow id hid hdd | exact hlow id hid))))) (by simp) (by simp (disch := omega) [go_sem, *])

set_option maxHeartbeats 4000000 in
theorem mask7_ex (l : List Int) (i : Nat) (h : Dk l i) :
    ∃ (m : Int) (j : Nat), 0 < m ∧ m < 2 ^ 7 ∧ Dk l j ∧ ∀ d k, ACall Tryd.prog 82 [.ptr d [] 0, .lit (.int .i64 7)] k [(d, deckBox l i)] (.lit (.int .u64 m)) [(d, deckBox l j)] := by
  obtain ⟨x, j1, x1, d1, c1⟩ := Next_at l i 3 h (by omega) (by omega)
  have hx : x = 0 ∨ x = 1 ∨ x = 2 := by omega
  rcases hx with rfl | rfl | rfl
  · obtain ⟨a, j2, a1, d2, c2⟩ := Next_at l j1 16 d1 (by omega) (by omega)
    obtain ⟨v, hv⟩ : ∃ v : Int, (a : Int) = v := ⟨_, rfl⟩
    have v0 : 0 ≤ v := by omega
    have v1 : v < 18446744073709551616 := by omega
    have hvw : IntKind.u64.wrap v = v := wrap_u64r v0 (by omega)
    have ha := u64_and7 v v0 v1
    obtain ⟨w, hw⟩ : ∃ w, v % 128 = w := ⟨_, rfl⟩
    have w0 : 0 ≤ w := by omega
    have w1 : w < 128 := by omega
    rw [hw] at ha
    by_cases hz : w = 0
    · obtain ⟨y, j9, y1, d9, c9⟩ := Next_at l j2 7 d2 (by omega) (by omega)
      obtain ⟨p, hp1, hp2, hp3⟩ := pow_lt y 7 y1 (by omega)
      have hmn : min y 64 = y := by omega
      refine ⟨p, j9, hp2, hp3, d9, fun d k => ?_⟩
      have hpw : IntKind.u64.wrap p = p := wrap_u64r (by omega) (by simp at hp3; omega)
      have hyw : IntKind.u64.wrap (y : Int) = y := wrap_u64r (by omega) (by omega)
      have hzb : (w == 0) = true := by simp [hz]
      refine ACall.of_body mixed Tryd.func82 rfl (by kernel_rfl) Tryd.ntmps82 (by kernel_rfl) rfl (by simp) (by simp) (by simp) fun σ N hp hpn hk hkn hfree => ?_
      have hd := hp _ (List.mem_singleton.2 rfl); have hdn := hpn _ (List.mem_singleton.2 rfl); simp only at hd hdn; clear hp hpn
      have hcs := And.intro (c1 d) (And.intro (c2 d) (And.intro (c9 d) True.intro))
      clear c1 c2 c9
      refine Wk ?_
      refine go_resultW [(d, deckBox l j9)] (by simp (disch := omega) [go_sem, *, -List.reduceReplicate]; rfl) (by first | rfl | (simp (disch := omega) [go_sem]; done) | (simp (disch := omega) [go_sem, *]; done) | simp (disch := omega) [go_sem]) (fun id hid => by simp only [wr_cons, wr_nil]; try (by_cases hdd : id = d; (· (subst hdd; simp (disch := omega) [go_sem, *])); (· (simp (disch := omega) only [upd_ne]; try (first | exact hlow id hid hdd | exact hlow id hid))))) (by simp) (by simp (disch := omega) [go_sem, *])
    · have hzb : (w == 0) = false := by simp [hz]
      refine ⟨w, j2, by omega, by simp; omega, d2, fun d k => ?_⟩
      refine ACall.of_body mixed Tryd.func82 rfl (by kernel_rfl) Tryd.ntmps82 (by kernel_rfl) rfl (by simp) (by simp) (by simp) fun σ N hp hpn hk hkn hfree => ?_
      have hd := hp _ (List.mem_singleton.2 rfl); have hdn := hpn _ (List.mem_singleton.2 rfl); simp only at hd hdn; clear hp hpn
      have hcs := And.intro (c1 d) (And.intro (c2 d) True.intro)
      clear c1 c2
      refine Wk ?_
      refine go_resultW [(d, deckBox l j2)] (by simp (disch := omega) [go_sem, *, -List.reduceReplicate]; rfl) (by first | rfl | (simp (disch := omega) [go_sem]; done) | (simp (disch := omega) [go_sem, *]; done) | simp (disch := omega) [go_sem]) (fun id hid => by simp only [wr_cons, wr_nil]; try (by_cases hdd : id = d; (· (subst hdd; simp (disch := omega) [go_sem, *])); (· (simp (disch := omega) only [upd_ne]; try (first | exact hlow id hid hdd | exact hlow id hid))))) (by simp) (by simp (disch := omega) [go_sem, *])
  · obtain ⟨a, j2, a1, d2, c2⟩ := Next_at l j1 65536 d1 (by omega) (by omega)
    obtain ⟨b, j3, b1, d3, c3⟩ := Next_at l j2 65536 d2 (by omega) (by omega)
    obtain ⟨v, hv⟩ : ∃ v : Int, bits .or .u64 (a : Int) ((b : Int) * 281474976710656) = v := ⟨_, rfl⟩
    obtain ⟨v0, v1⟩ := u64_bits_range .or (a : Int) ((b : Int) * 281474976710656)
    rw [hv] at v0 v1
    have haw : IntKind.u64.wrap (a : Int) = a := wrap_u64r (by omega) (by omega)
    have hbw : IntKind.u64.wrap (b : Int) = b := wrap_u64r (by omega) (by omega)
    have hbs : IntKind.u64.wrap ((b : Int) * 281474976710656) = (b : Int) * 281474976710656 := wrap_u64r (by omega) (by omega)
    have ha := u64_and7 v v0 v1
    obtain ⟨w, hw⟩ : ∃ w, v % 128 = w := ⟨_, rfl⟩
    have w0 : 0 ≤ w := by omega
    have w1 : w < 128 := by omega
    rw [hw] at ha
    by_cases hz : w = 0
    · obtain ⟨y, j9, y1, d9, c9⟩ := Next_at l j3 7 d3 (by omega) (by omega)
      obtain ⟨p, hp1, hp2, hp3⟩ := pow_lt y 7 y1 (by omega)
      have hmn : min y 64 = y := by omega
      refine ⟨p, j9, hp2, hp3, d9, fun d k => ?_⟩
      have hpw : IntKind.u64.wrap p = p := wrap_u64r (by omega) (by simp at hp3; omega)
      have hyw : IntKind.u64.wrap (y : Int) = y := wrap_u64r (by omega) (by omega)
      have hzb : (w == 0) = true := by simp [hz]
      refine ACall.of_body mixed Tryd.func82 rfl (by kernel_rfl) Tryd.ntmps82 (by kernel_rfl) rfl (by simp) (by simp) (by simp) fun σ N hp hpn hk hkn hfree => ?_
      have hd := hp _ (List.mem_singleton.2 rfl); have hdn := hpn _ (List.mem_singleton.2 rfl); simp only at hd hdn; clear hp hpn
      have hcs := And.intro (c1 d) (And.intro (c2 d) (And.intro (c3 d) (And.intro (c9 d) True.intro)))
      clear c1 c2 c3 c9
      refine Wk ?_
      refine go_resultW [(d, deckBox l j9)] (by simp (disch := omega) [go_sem, *, -List.reduceReplicate]; rfl) (by first | rfl | (simp (disch := omega) [go_sem]; done) | (simp (disch := omega) [go_sem, *]; done) | simp (disch := omega) [go_sem]) (fun id hid => by simp only [wr_cons, wr_nil]; try (by_cases hdd : id = d; (· (subst hdd; simp (disch := omega) [go_sem, *])); (· (simp (disch := omega) only [upd_ne]; try (first | exact hlow id hid hdd | exact hlow id hid))))) (by simp) (by simp (disch := omega) [go_sem, *])
    · have hzb : (w == 0) = false := by simp [hz]
      refine ⟨w, j3, by omega, by simp; omega, d3, fun d k => ?_⟩
      refine ACall.of_body mixed Tryd.func82 rfl (by kernel_rfl) Tryd.ntmps82 (by kernel_rfl) rfl (by simp) (by simp) (by simp) fun σ N hp hpn hk hkn hfree => ?_
      have hd := hp _ (List.mem_singleton.2 rfl); have hdn := hpn _ (List.mem_singleton.2 rfl); simp only at hd hdn; clear hp hpn
      have hcs := And.intro (c1 d) (And.intro (c2 d) (And.intro (c3 d) True.intro))
      clear c1 c2 c3
      refine Wk ?_
      refine go_resultW [(d, deckBox l j3)] (by simp (disch := omega) [go_sem, *, -List.reduceReplicate]; rfl) (by first | rfl | (simp (disch := omega) [go_sem]; done) | (simp (disch := omega) [go_sem, *]; done) | simp (disch := omega) [go_sem]) (fun id hid => by simp only [wr_cons, wr_nil]; try (by_cases hdd : id = d; (· (subst hdd; simp (disch := omega) [go_sem, *])); (· (simp (disch := omega) only [upd_ne]; try (first | exact hlow id hid hdd | exact hlow id hid))))) (by simp) (by simp (disch := omega) [go_sem, *])
  · obtain ⟨a, j2, a1, d2, c2⟩ := Next_at l j1 65536 d1 (by omega) (by omega)
    obtain ⟨v, hv⟩ : ∃ v : Int, bits .xor .u64 18446744073709551615 (a : Int) = v := ⟨_, rfl⟩
    obtain ⟨v0, v1⟩ := u64_bits_range .xor 18446744073709551615 (a : Int)
    rw [hv] at v0 v1
    have haw : IntKind.u64.wrap (a : Int) = a := wrap_u64r (by omega) (by omega)
    have hsx : (if IntKind.u64.signed = true then (-1 : Int) else IntKind.u64.max) = 18446744073709551615 := by decide
    have ha := u64_and7 v v0 v1
    obtain ⟨w, hw⟩ : ∃ w, v % 128 = w := ⟨_, rfl⟩
    have w0 : 0 ≤ w := by omega
    have w1 : w < 128 := by omega
    rw [hw] at ha
    by_cases hz : w = 0
    · obtain ⟨y, j9, y1, d9, c9⟩ := Next_at l j2 7 d2 (by omega) (by omega)
      obtain ⟨p, hp1, hp2, hp3⟩ := pow_lt y 7 y1 (by omega)
      have hmn : min y 64 = y := by omega
      refine ⟨p, j9, hp2, hp3, d9, fun d k => ?_⟩
      have hpw : IntKind.u64.wrap p = p := wrap_u64r (by omega) (by simp at hp3; omega)
      have hyw : IntKind.u64.wrap (y : Int) = y := wrap_u64r (by omega) (by omega)
      have hzb : (w == 0) = true := by simp [hz]
      refine ACall.of_body mixed Tryd.func82 rfl (by kernel_rfl) Tryd.ntmps82 (by kernel_rfl) rfl (by simp) (by simp) (by simp) fun σ N hp hpn hk hkn hfree => ?_
      have hd := hp _ (List.mem_singleton.2 rfl); have hdn := hpn _ (List.mem_singleton.2 rfl); simp only at hd hdn; clear hp hpn
      have hcs := And.intro (c1 d) (And.intro (c2 d) (And.intro (c9 d) True.intro))
      clear c1 c2 c9
      refine Wk ?_
      refine go_resultW [(d, deckBox l j9)] (by simp (disch := omega) [go_sem, *, -List.reduceReplicate]; rfl) (by first | rfl | (simp (disch := omega) [go_sem]; done) | (simp (disch := omega) [go_sem, *]; done) | simp (disch := omega) [go_sem]) (fun id hid => by simp only [wr_cons, wr_nil]; try (by_cases hdd : id = d; (· (subst hdd; simp (disch := omega) [go_sem, *])); (· (simp (disch := omega) only [upd_ne]; try (first | exact hlow id hid hdd | exact hlow id hid))))) (by simp) (by simp (disch := omega) [go_sem, *])
    · have hzb : (w == 0) = false := by simp [hz]
      refine ⟨w, j2, by omega, by simp; omega, d2, fun d k => ?_⟩
      refine ACall.of_body mixed Tryd.func82 rfl (by kernel_rfl) Tryd.ntmps82 (by kernel_rfl) rfl (by simp) (by simp) (by simp) fun σ N hp hpn hk hkn hfree => ?_
      have hd := hp _ (List.mem_singleton.2 rfl); have hdn := hpn _ (List.mem_singleton.2 rfl); simp only at hd hdn; clear hp hpn
      have hcs := And.intro (c1 d) (And.intro (c2 d) True.intro)
      clear c1 c2
      refine Wk ?_
      refine go_resultW [(d, deckBox l j2)] (by simp (disch := omega) [go_sem, *, -List.reduceReplicate]; rfl) (by first | rfl | (simp (disch := omega) [go_sem]; done) | (simp (disch := omega) [go_sem, *]; done) | simp (disch := omega) [go_sem]) (fun id hid => by simp only [wr_cons, wr_nil]; try (by_cases hdd : id = d; (· (subst hdd; simp (disch := omega) [go_sem, *])); (· (simp (disch := omega) only [upd_ne]; try (first | exact hlow id hid hdd | exact hlow id hid))))) (by simp) (by simp (disch := omega) [go_sem, *])
end Go.Proofs.YtaelnglalpiemaaDoor

/- The deck's Upto and Predicate: what exists. -/
namespace Go.Proofs.YtaelnglalpiemaaDoor
open Go.Ab
attribute [local irreducible] Go.Ab.tyAV Go.Ab.aw Go.Ab.aops Go.Ab.kReg Go.Ab.aThen Go.Ab.aBlk Go.Ab.acond Go.Ab.aguard Go.Ab.astep Go.Ab.AStepX Go.Ab.aRet

@[go_sem] theorem ba_empty_eq : (ByteArray.empty = { data := #[] }) = True := eq_true rfl
theorem Upto_ex (l : List Int) (i : Nat) (h : Dk l i) (most : Nat) (hm : most ≤ 900000000) :
    ∃ v j : Nat, v ≤ most ∧ Dk l j ∧ ∀ d k, ACall Tryd.prog 85 [.ptr d [] 0, .lit (.int .i64 most)] k [(d, deckBox l i)] (.lit (.int .i64 v)) [(d, deckBox l j)] := by
  obtain ⟨x, j1, x1, d1, c1⟩ := Next_at l i 4 h (by omega) (by omega)
  have hx : x = 0 ∨ x = 1 ∨ x = 2 ∨ x = 3 := by omega
  rcases hx with rfl | rfl | rfl | rfl
  · obtain ⟨a, j2, a1, d2, c2⟩ := Next_at l j1 4 d1 (by omega) (by omega)
    obtain ⟨v, hv, hvm⟩ : ∃ v : Nat, (if most < a then (most : Int) else (a : Int)) = (v : Int) ∧ v ≤ most := ⟨min a most, by split <;> omega, by omega⟩
    refine ⟨v, j2, hvm, d2, fun d k => ?_⟩
    refine ACall.of_body mixed Tryd.func85 rfl (by kernel_rfl) Tryd.ntmps85 (by kernel_rfl) rfl (by simp) (by simp) (by simp) fun σ N hp hpn hk hkn hfree => ?_
    have hd := hp _ (List.mem_singleton.2 rfl); have hdn := hpn _ (List.mem_singleton.2 rfl); simp only at hd hdn; clear hp hpn
    have hcs := And.intro (c1 d) (And.intro (c2 d) True.intro)
    clear c1 c2
    refine Wk ?_
    refine go_resultW [(d, deckBox l j2)] (by simp (disch := omega) [go_sem, *, -List.reduceReplicate]; rfl) (by first | rfl | (simp (disch := omega) [go_sem]; done) | (simp (disch := omega) [go_sem, *]; done) | simp (disch := omega) [go_sem]) (fun id hid => by simp only [wr_cons, wr_nil]; try (by_cases hdd : id = d; (· (subst hdd; simp (disch := omega) [go_sem, *])); (· (simp (disch := omega) only [upd_ne]; try (first | exact hlow id hid hdd | exact hlow id hid))))) (by simp) (by simp (disch := omega) [go_sem, *])
  · obtain ⟨a, j2, a1, d2, c2⟩ := Next_at l j1 300 d1 (by omega) (by omega)
    obtain ⟨v, hv, hvm⟩ : ∃ v : Nat, (if most < a then (most : Int) else (a : Int)) = (v : Int) ∧ v ≤ most := ⟨min a most, by split <;> omega, by omega⟩
    refine ⟨v, j2, hvm, d2, fun d k => ?_⟩
    refine ACall.of_body mixed Tryd.func85 rfl (by kernel_rfl) Tryd.ntmps85 (by kernel_rfl) rfl (by simp) (by simp) (by simp) fun σ N hp hpn hk hkn hfree => ?_
    have hd := hp _ (List.mem_singleton.2 rfl); have hdn := hpn _ (List.mem_singleton.2 rfl); simp only at hd hdn; clear hp hpn
    have hcs := And.intro (c1 d) (And.intro (c2 d) True.intro)
    clear c1 c2
    refine Wk ?_
    refine go_resultW [(d, deckBox l j2)] (by simp (disch := omega) [go_sem, *, -List.reduceReplicate]; rfl) (by first | rfl | (simp (disch := omega) [go_sem]; done) | (simp (disch := omega) [go_sem, *]; done) | simp (disch := omega) [go_sem]) (fun id hid => by simp only [wr_cons, wr_nil]; try (by_cases hdd : id = d; (· (subst hdd; simp (disch := omega) [go_sem, *])); (· (simp (disch := omega) only [upd_ne]; try (first | exact hlow id hid hdd | exact hlow id hid))))) (by simp) (by simp (disch := omega) [go_sem, *])
  · obtain ⟨q, hq, hq0, hq1⟩ : ∃ q : Nat, (if (most : Int) + 1 < 3 then (most : Int) + 1 else 3) = (q : Int) ∧ 0 < q ∧ q ≤ most + 1 := ⟨min 3 (most + 1), by split <;> omega, by omega, by omega⟩
    obtain ⟨a, j2, a1, d2, c2⟩ := Next_at l j1 q d1 hq0 (by omega)
    refine ⟨most - a, j2, by omega, d2, fun d k => ?_⟩
    have hsub : ((most - a : Nat) : Int) = (most : Int) - (a : Int) := by omega
    rw [hsub]
    refine ACall.of_body mixed Tryd.func85 rfl (by kernel_rfl) Tryd.ntmps85 (by kernel_rfl) rfl (by simp) (by simp) (by simp) fun σ N hp hpn hk hkn hfree => ?_
    have hd := hp _ (List.mem_singleton.2 rfl); have hdn := hpn _ (List.mem_singleton.2 rfl); simp only at hd hdn; clear hp hpn
    have hcs := And.intro (c1 d) (And.intro (c2 d) True.intro)
    clear c1 c2 hsub
    refine Wk ?_
    refine go_resultW [(d, deckBox l j2)] (by simp (disch := omega) [go_sem, *, -List.reduceReplicate]; rfl) (by first | rfl | (simp (disch := omega) [go_sem]; done) | (simp (disch := omega) [go_sem, *]; done) | simp (disch := omega) [go_sem]) (fun id hid => by simp only [wr_cons, wr_nil]; try (by_cases hdd : id = d; (· (subst hdd; simp (disch := omega) [go_sem, *])); (· (simp (disch := omega) only [upd_ne]; try (first | exact hlow id hid hdd | exact hlow id hid))))) (by simp) (by simp (disch := omega) [go_sem, *])
  · obtain ⟨a, j2, a1, d2, c2⟩ := Next_at l j1 (most + 1) d1 (by omega) (by omega)
    have hc : ((most + 1 : Nat) : Int) = (most : Int) + 1 := by omega
    rw [hc] at c2
    refine ⟨a, j2, by omega, d2, fun d k => ?_⟩
    refine ACall.of_body mixed Tryd.func85 rfl (by kernel_rfl) Tryd.ntmps85 (by kernel_rfl) rfl (by simp) (by simp) (by simp) fun σ N hp hpn hk hkn hfree => ?_
    have hd := hp _ (List.mem_singleton.2 rfl); have hdn := hpn _ (List.mem_singleton.2 rfl); simp only at hd hdn; clear hp hpn
    have hcs := And.intro (c1 d) (And.intro (c2 d) True.intro)
    clear c1 c2 hc
    refine Wk ?_
    refine go_resultW [(d, deckBox l j2)] (by simp (disch := omega) [go_sem, *, -List.reduceReplicate]; rfl) (by first | rfl | (simp (disch := omega) [go_sem]; done) | (simp (disch := omega) [go_sem, *]; done) | simp (disch := omega) [go_sem]) (fun id hid => by simp only [wr_cons, wr_nil]; try (by_cases hdd : id = d; (· (subst hdd; simp (disch := omega) [go_sem, *])); (· (simp (disch := omega) only [upd_ne]; try (first | exact hlow id hid hdd | exact hlow id hid))))) (by simp) (by simp (disch := omega) [go_sem, *])

theorem Minute_ex (l : List Int) (i : Nat) (h : Dk l i) : ∃ v j : Nat, v ≤ 67108864 ∧ Dk l j ∧ ∀ d k, ACall Tryd.prog 83 [.ptr d [] 0] k [(d, deckBox l i)] (.lit (.int .i64 v)) [(d, deckBox l j)] :=
  ⟨_, _, minuteD_le l i, minuteD_dk h, Minute_spec l i h⟩
theorem Name_ex (l : List Int) (i : Nat) (h : Dk l i) : ∃ (s : List UInt8) (j : Nat), nameB s = true ∧ s.length ≤ 16 ∧ Dk l j ∧ ∀ d k, ACall Tryd.prog 84 [.ptr d [] 0] k [(d, deckBox l i)] (.lit (.string ⟨s.toArray⟩)) [(d, deckBox l j)] := by
  have b := nextD_lt l i 8 (by omega)
  refine ⟨_, _, ?_, ?_, nameD_dk h, fun d k => Name_spec0 l i h d k⟩
  all_goals
    unfold nameD
    generalize (nextD l i 8).1 = x at b
    have : x = 0 ∨ x = 1 ∨ x = 2 ∨ x = 3 ∨ x = 4 ∨ x = 5 ∨ x = 6 ∨ x = 7 := by omega
    rcases this with rfl | rfl | rfl | rfl | rfl | rfl | rfl | rfl <;> (simp only; decide)

theorem PrOk.mk0 {k m f t x : Int} {n : List UInt8} (h0 : 0 ≤ m) (h1 : m < 18446744073709551616) (h2 : n.length ≤ 100) : PrOk ⟨k, m, f, t, n, x⟩ := ⟨h0, h1, by simp only; omega⟩
set_option maxHeartbeats 4000000 in
theorem Predicate_ex (l : List Int) (i : Nat) (h : Dk l i) (rides : Bool) :
    ∃ (p : Pr) (j : Nat), predB p = true ∧ PrOk p ∧ (rides = false → p.kind ≠ 7) ∧ Dk l j ∧ ∀ d k, ACall Tryd.prog 51 [.ptr d [] 0, .lit (.bool rides)] k [(d, deckBox l i)] (prAV p) [(d, deckBox l j)] := by
  have c1 := Range_spec l i 1 7 7 h (by omega) (by omega) (by omega) (by omega)
  have d1 := rangeD_dk (lo := 1) (n := 7) h
  have b1 := nextD_lt l i 7 (by omega)
  have hk : (rangeD l i 1 7).1 = 1 ∨ (rangeD l i 1 7).1 = 2 ∨ (rangeD l i 1 7).1 = 3 ∨ (rangeD l i 1 7).1 = 4 ∨ (rangeD l i 1 7).1 = 5 ∨ (rangeD l i 1 7).1 = 6 ∨ (rangeD l i 1 7).1 = 7 := by unfold rangeD; simp only; omega
  generalize rangeD l i 1 7 = X at *
  obtain ⟨kd, j1⟩ := X
  simp only at c1 d1 hk
  clear b1 h
  rcases hk with rfl | rfl | rfl | rfl | rfl | rfl | rfl
  · obtain ⟨m, j2, m0, m1, d2, c2⟩ := mask64_ex l j1 d1
    refine ⟨⟨1, m, 0, 0, [], 0⟩, j2, (by simp [predB, maskB]; simp at m1; omega), .mk0 (by omega) (by simp at m1; omega) (by simp), by simp, d2, fun d k => ?_⟩
    simp only [prAV]
    refine ACall.of_body mixed Tryd.func51 rfl (by kernel_rfl) Tryd.ntmps51 (by kernel_rfl) rfl (by simp) (by simp) (by simp) fun σ N hp hpn hk hkn hfree => ?_
    have hd := hp _ (List.mem_singleton.2 rfl); have hdn := hpn _ (List.mem_singleton.2 rfl); simp only at hd hdn; clear hp hpn
    have hcs := And.intro (c1 d) (And.intro (c2 d) True.intro)
    clear c1 c2
    refine Wk ?_
    refine go_resultW [(d, deckBox l j2)] (by simp (disch := omega) [go_sem, *, -List.reduceReplicate]; rfl) (by first | rfl | (simp (disch := omega) [go_sem]; done) | (simp (disch := omega) [go_sem, *]; done) | simp (disch := omega) [go_sem]) (fun id hid => by simp only [wr_cons, wr_nil]; try (by_cases hdd : id = d; (· (subst hdd; simp (disch := omega) [go_sem, *])); (· (simp (disch := omega) only [upd_ne]; try (first | exact hlow id hid hdd | exact hlow id hid))))) (by simp) (by simp (disch := omega) [go_sem, *])
  · obtain ⟨m, j2, m0, m1, d2, c2⟩ := mask32_ex l j1 d1
    refine ⟨⟨2, m, 0, 0, [], 0⟩, j2, (by simp [predB, maskB]; simp at m1; omega), .mk0 (by omega) (by simp at m1; omega) (by simp), by simp, d2, fun d k => ?_⟩
    simp only [prAV]
    refine ACall.of_body mixed Tryd.func51 rfl (by kernel_rfl) Tryd.ntmps51 (by kernel_rfl) rfl (by simp) (by simp) (by simp) fun σ N hp hpn hk hkn hfree => ?_
    have hd := hp _ (List.mem_singleton.2 rfl); have hdn := hpn _ (List.mem_singleton.2 rfl); simp only at hd hdn; clear hp hpn
    have hcs := And.intro (c1 d) (And.intro (c2 d) True.intro)
    clear c1 c2
    refine Wk ?_
    refine go_resultW [(d, deckBox l j2)] (by simp (disch := omega) [go_sem, *, -List.reduceReplicate]; rfl) (by first | rfl | (simp (disch := omega) [go_sem]; done) | (simp (disch := omega) [go_sem, *]; done) | simp (disch := omega) [go_sem]) (fun id hid => by simp only [wr_cons, wr_nil]; try (by_cases hdd : id = d; (· (subst hdd; simp (disch := omega) [go_sem, *])); (· (simp (disch := omega) only [upd_ne]; try (first | exact hlow id hid hdd | exact hlow id hid))))) (by simp) (by simp (disch := omega) [go_sem, *])
  · obtain ⟨m, j2, m0, m1, d2, c2⟩ := mask7_ex l j1 d1
    refine ⟨⟨3, m, 0, 0, [], 0⟩, j2, (by simp [predB, maskB]; simp at m1; omega), .mk0 (by omega) (by simp at m1; omega) (by simp), by simp, d2, fun d k => ?_⟩
    simp only [prAV]
    refine ACall.of_body mixed Tryd.func51 rfl (by kernel_rfl) Tryd.ntmps51 (by kernel_rfl) rfl (by simp) (by simp) (by simp) fun σ N hp hpn hk hkn hfree => ?_
    have hd := hp _ (List.mem_singleton.2 rfl); have hdn := hpn _ (List.mem_singleton.2 rfl); simp only at hd hdn; clear hp hpn
    have hcs := And.intro (c1 d) (And.intro (c2 d) True.intro)
    clear c1 c2
    refine Wk ?_
    refine go_resultW [(d, deckBox l j2)] (by simp (disch := omega) [go_sem, *, -List.reduceReplicate]; rfl) (by first | rfl | (simp (disch := omega) [go_sem]; done) | (simp (disch := omega) [go_sem, *]; done) | simp (disch := omega) [go_sem]) (fun id hid => by simp only [wr_cons, wr_nil]; try (by_cases hdd : id = d; (· (subst hdd; simp (disch := omega) [go_sem, *])); (· (simp (disch := omega) only [upd_ne]; try (first | exact hlow id hid hdd | exact hlow id hid))))) (by simp) (by simp (disch := omega) [go_sem, *])
  · obtain ⟨a, j2, a1, d2, c2⟩ := Minute_ex l j1 d1
    obtain ⟨b, j3, b1, d3, c3⟩ := Minute_ex l j2 d2
    obtain ⟨lo, hlo, hlo1⟩ : ∃ lo : Nat, (if b < a then (b : Int) else (a : Int)) = (lo : Int) ∧ lo = min a b := ⟨min a b, by split <;> omega, rfl⟩
    obtain ⟨hi, hhi, hhi1⟩ : ∃ hi : Nat, (if a < b then (b : Int) else (a : Int)) = (hi : Int) ∧ hi = max a b := ⟨max a b, by split <;> omega, rfl⟩
    have hlo2 : ((min a b : Nat) : Int) = lo := by omega
    have hhi2 : ((max a b : Nat) : Int) = hi := by omega
    refine ⟨⟨4, 0, lo, hi, [], 0⟩, j3, (by simp [predB]; omega), .mk0 (by omega) (by omega) (by simp), by simp, d3, fun d k => ?_⟩
    simp only [prAV]
    refine ACall.of_body mixed Tryd.func51 rfl (by kernel_rfl) Tryd.ntmps51 (by kernel_rfl) rfl (by simp) (by simp) (by simp) fun σ N hp hpn hk hkn hfree => ?_
    have hd := hp _ (List.mem_singleton.2 rfl); have hdn := hpn _ (List.mem_singleton.2 rfl); simp only at hd hdn; clear hp hpn
    have hcs := And.intro (c1 d) (And.intro (c2 d) (And.intro (c3 d) True.intro))
    clear c1 c2 c3
    refine Wk ?_
    refine go_resultW [(d, deckBox l j3)] (by simp (disch := omega) [go_sem, *, -List.reduceReplicate]; rfl) (by first | rfl | (simp (disch := omega) [go_sem]; done) | (simp (disch := omega) [go_sem, *]; done) | simp (disch := omega) [go_sem]) (fun id hid => by simp only [wr_cons, wr_nil]; try (by_cases hdd : id = d; (· (subst hdd; simp (disch := omega) [go_sem, *])); (· (simp (disch := omega) only [upd_ne]; try (first | exact hlow id hid hdd | exact hlow id hid))))) (by simp) (by simp (disch := omega) [go_sem, *])
  · obtain ⟨a, j2, a1, d2, c2⟩ := Next_at l j1 1440 d1 (by omega) (by omega)
    obtain ⟨b, j3, b1, d3, c3⟩ := Next_at l j2 1440 d2 (by omega) (by omega)
    obtain ⟨c, j4, e1, d4, c4⟩ := Next_at l j3 3 d3 (by omega) (by omega)
    by_cases hc : c = 0
    · subst hc
      obtain ⟨e, j5, f1, d5, c5⟩ := Next_at l j4 3 d4 (by omega) (by omega)
      obtain ⟨g, hg, hg1⟩ : ∃ g : Nat, ((a : Int) + e + 1440 - 1).tmod 1440 = (g : Int) ∧ g < 1440 := ⟨(a + e + 1440 - 1) % 1440, by rw [Int.tmod_eq_emod_of_nonneg (by omega)]; omega, by omega⟩
      refine ⟨⟨5, 0, a, g, [], 0⟩, j5, (by simp [predB]; omega), .mk0 (by omega) (by omega) (by simp), by simp, d5, fun d k => ?_⟩
      simp only [prAV]
      refine ACall.of_body mixed Tryd.func51 rfl (by kernel_rfl) Tryd.ntmps51 (by kernel_rfl) rfl (by simp) (by simp) (by simp) fun σ N hp hpn hk hkn hfree => ?_
      have hd := hp _ (List.mem_singleton.2 rfl); have hdn := hpn _ (List.mem_singleton.2 rfl); simp only at hd hdn; clear hp hpn
      have hcs := And.intro (c1 d) (And.intro (c2 d) (And.intro (c3 d) (And.intro (c4 d) (And.intro (c5 d) True.intro))))
      clear c1 c2 c3 c4 c5
      refine Wk ?_
      refine go_resultW [(d, deckBox l j5)] (by simp (disch := omega) [go_sem, *, -List.reduceReplicate]; rfl) (by first | rfl | (simp (disch := omega) [go_sem]; done) | (simp (disch := omega) [go_sem, *]; done) | simp (disch := omega) [go_sem]) (fun id hid => by simp only [wr_cons, wr_nil]; try (by_cases hdd : id = d; (· (subst hdd; simp (disch := omega) [go_sem, *])); (· (simp (disch := omega) only [upd_ne]; try (first | exact hlow id hid hdd | exact hlow id hid))))) (by simp) (by simp (disch := omega) [go_sem, *])
    · have hcb : ((c : Int) == 0) = false := by rw [beq_eq_false_iff_ne]; omega
      refine ⟨⟨5, 0, a, b, [], 0⟩, j4, (by simp [predB]; omega), .mk0 (by omega) (by omega) (by simp), by simp, d4, fun d k => ?_⟩
      simp only [prAV]
      refine ACall.of_body mixed Tryd.func51 rfl (by kernel_rfl) Tryd.ntmps51 (by kernel_rfl) rfl (by simp) (by simp) (by simp) fun σ N hp hpn hk hkn hfree => ?_
      have hd := hp _ (List.mem_singleton.2 rfl); have hdn := hpn _ (List.mem_singleton.2 rfl); simp only at hd hdn; clear hp hpn
      have hcs := And.intro (c1 d) (And.intro (c2 d) (And.intro (c3 d) (And.intro (c4 d) True.intro)))
      clear c1 c2 c3 c4
      refine Wk ?_
      refine go_resultW [(d, deckBox l j4)] (by simp (disch := omega) [go_sem, *, -List.reduceReplicate]; rfl) (by first | rfl | (simp (disch := omega) [go_sem]; done) | (simp (disch := omega) [go_sem, *]; done) | simp (disch := omega) [go_sem]) (fun id hid => by simp only [wr_cons, wr_nil]; try (by_cases hdd : id = d; (· (subst hdd; simp (disch := omega) [go_sem, *])); (· (simp (disch := omega) only [upd_ne]; try (first | exact hlow id hid hdd | exact hlow id hid))))) (by simp) (by simp (disch := omega) [go_sem, *])
  · obtain ⟨n, j2, n0, n1, d2, c2⟩ := Name_ex l j1 d1
    refine ⟨⟨6, 0, 0, 0, n, 0⟩, j2, (by simp [predB, n0]), .mk0 (by omega) (by omega) (by omega), by simp, d2, fun d k => ?_⟩
    simp only [prAV]
    refine ACall.of_body mixed Tryd.func51 rfl (by kernel_rfl) Tryd.ntmps51 (by kernel_rfl) rfl (by simp) (by simp) (by simp) fun σ N hp hpn hk hkn hfree => ?_
    have hd := hp _ (List.mem_singleton.2 rfl); have hdn := hpn _ (List.mem_singleton.2 rfl); simp only at hd hdn; clear hp hpn
    have hcs := And.intro (c1 d) (And.intro (c2 d) True.intro)
    clear c1 c2
    refine Wk ?_
    refine go_resultW [(d, deckBox l j2)] (by simp (disch := omega) [go_sem, *, -List.reduceReplicate]; rfl) (by first | rfl | (simp (disch := omega) [go_sem]; done) | (simp (disch := omega) [go_sem, *]; done) | simp (disch := omega) [go_sem]) (fun id hid => by simp only [wr_cons, wr_nil]; try (by_cases hdd : id = d; (· (subst hdd; simp (disch := omega) [go_sem, *])); (· (simp (disch := omega) only [upd_ne]; try (first | exact hlow id hid hdd | exact hlow id hid))))) (by simp) (by simp (disch := omega) [go_sem, *])
  · cases rides with
    | true =>
      obtain ⟨v, j2, v1, d2, c2⟩ := Upto_ex l j1 d1 1000000 (by omega)
      refine ⟨⟨7, 0, 0, 0, [], v⟩, j2, (by simp [predB]; omega), .mk0 (by omega) (by omega) (by simp), by simp, d2, fun d k => ?_⟩
      simp only [prAV]
      refine ACall.of_body mixed Tryd.func51 rfl (by kernel_rfl) Tryd.ntmps51 (by kernel_rfl) rfl (by simp) (by simp) (by simp) fun σ N hp hpn hk hkn hfree => ?_
      have hd := hp _ (List.mem_singleton.2 rfl); have hdn := hpn _ (List.mem_singleton.2 rfl); simp only at hd hdn; clear hp hpn
      have hcs := And.intro (c1 d) (And.intro (c2 d) True.intro)
      clear c1 c2
      refine Wk ?_
      refine go_resultW [(d, deckBox l j2)] (by simp (disch := omega) [go_sem, *, -List.reduceReplicate]; rfl) (by first | rfl | (simp (disch := omega) [go_sem]; done) | (simp (disch := omega) [go_sem, *]; done) | simp (disch := omega) [go_sem]) (fun id hid => by simp only [wr_cons, wr_nil]; try (by_cases hdd : id = d; (· (subst hdd; simp (disch := omega) [go_sem, *])); (· (simp (disch := omega) only [upd_ne]; try (first | exact hlow id hid hdd | exact hlow id hid))))) (by simp) (by simp (disch := omega) [go_sem, *])
    | false =>
      obtain ⟨a, j2, a1, d2, c2⟩ := Minute_ex l j1 d1
      obtain ⟨b, j3, b1, d3, c3⟩ := Minute_ex l j2 d2
      obtain ⟨lo, hlo, hlo1⟩ : ∃ lo : Nat, (if b < a then (b : Int) else (a : Int)) = (lo : Int) ∧ lo = min a b := ⟨min a b, by split <;> omega, rfl⟩
      obtain ⟨hi, hhi, hhi1⟩ : ∃ hi : Nat, (if a < b then (b : Int) else (a : Int)) = (hi : Int) ∧ hi = max a b := ⟨max a b, by split <;> omega, rfl⟩
      have hlo2 : ((min a b : Nat) : Int) = lo := by omega
      have hhi2 : ((max a b : Nat) : Int) = hi := by omega
      refine ⟨⟨4, 0, lo, hi, [], 0⟩, j3, (by simp [predB]; omega), .mk0 (by omega) (by omega) (by simp), by simp, d3, fun d k => ?_⟩
      simp only [prAV]
      refine ACall.of_body mixed Tryd.func51 rfl (by kernel_rfl) Tryd.ntmps51 (by kernel_rfl) rfl (by simp) (by simp) (by simp) fun σ N hp hpn hk hkn hfree => ?_
      have hd := hp _ (List.mem_singleton.2 rfl); have hdn := hpn _ (List.mem_singleton.2 rfl); simp only at hd hdn; clear hp hpn
      have hcs := And.intro (c1 d) (And.intro (c2 d) (And.intro (c3 d) True.intro))
      clear c1 c2 c3
      refine Wk ?_
      refine go_resultW [(d, deckBox l j3)] (by simp (disch := omega) [go_sem, *, -List.reduceReplicate]; rfl) (by first | rfl | (simp (disch := omega) [go_sem]; done) | (simp (disch := omega) [go_sem, *]; done) | simp (disch := omega) [go_sem]) (fun id hid => by simp only [wr_cons, wr_nil]; try (by_cases hdd : id = d; (· (subst hdd; simp (disch := omega) [go_sem, *])); (· (simp (disch := omega) only [upd_ne]; try (first | exact hlow id hid hdd | exact hlow id hid))))) (by simp) (by simp (disch := omega) [go_sem, *])
end Go.Proofs.YtaelnglalpiemaaDoor

/- The deck's Bytes as a row of one's own; Caveat. -/
namespace Go.Proofs.YtaelnglalpiemaaDoor
open Go.Ab
attribute [local irreducible] Go.Ab.tyAV Go.Ab.aw Go.Ab.aops Go.Ab.kReg Go.Ab.aThen Go.Ab.aBlk Go.Ab.acond Go.Ab.aguard Go.Ab.astep Go.Ab.AStepX Go.Ab.aRet

theorem Bytes_row (l : List Int) (i n : Nat) (h : Dk l i) (hn : n ≤ 100000) (d k : Nat) :
    ACall Tryd.prog 52 [.ptr d [] 0, .lit (.int .i64 n)] k [(d, deckBox l i)] (.slice (some k) ((bytesD l i n).1.map byteAV)) [(d, deckBox l (bytesD l i n).2), (k, .row 5 1 (bytesD l i n).1.length)] := by
  have c1 := Next_spec l i (n + 1) h (by omega) (by omega)
  have d1 := nextD_dk (n + 1) h
  have b1 := nextD_lt l i (n + 1) (by omega)
  have hn1 : ((n + 1 : Nat) : Int) = (n : Int) + 1 := by omega
  unfold bytesD
  rw [hn1] at c1
  generalize nextD l i (n + 1) = X at *
  obtain ⟨K, j⟩ := X
  simp only at c1 d1 b1 ⊢
  clear h hn1
  have hcs := And.intro (c1 d) True.intro
  generalize hR : bytesK l K j = R
  obtain ⟨R1, R2⟩ := R
  simp only
  refine ACall.of_body mixed Tryd.func52 rfl (by kernel_rfl) Tryd.ntmps52 (by kernel_rfl) rfl (by simp) (by simp) (by simp) fun σ N hp hpn hk hkn hfree => ?_
  have hd := hp _ (List.mem_singleton.2 rfl); have hdn := hpn _ (List.mem_singleton.2 rfl); simp only at hd hdn; clear hp hpn
  clear c1
  refine Wk ?_
  refine ALoop.nilrow 5 5 1 (by simp (disch := omega) [go_sem, *, -List.reduceReplicate]) ?_
  refine go_loopB (N) mixed (by kernel_rfl) [5, 6, 11, 12, 13, 14, 15, 16, 17, 18, 19, 20] [d] (fun m_ s_ σ_ n_ => ∃ (f : Nat) (j' : Nat) (r : Nat) (acc : List UInt8), m_ = f ∧ s_ 6 = .lit (.int .i64 f) ∧ s_ 5 = .slice (some r) (acc.map byteAV) ∧ σ_ (d) = deckBox l j' ∧ σ_ (r) = .row 5 1 acc.length ∧ (N ≤ r) ∧ (r < n_) ∧ (f + acc.length ≤ 100000) ∧ (Dk l j') ∧ ((acc ++ (bytesK l f j').1, (bytesK l f j').2) = (R1, R2))) ⟨_, K, j, _, [], rfl, WF, WF, WF, WF, WC, WC, WC, WC, WC⟩ ?_
  intro m_1 s_1 σ_1 n_1 hs_1 hf_1 hn_1 hI_1
  obtain ⟨f, j', r, acc, hm_1, h1_6, h1_5, e1_0, e1_1, hNr, hrn, hfl, hdj, hacc⟩ := hI_1
  have h1_0 := (hs_1.at 0 (by decide)).trans WE
  have h1_4 := (hs_1.at 4 (by decide)).trans WE
  have hlow : ∀ id, id < N → id ≠ d → σ_1 id = σ id := fun id hid hdd => (hf_1.at id (by omega) WQ).trans WH
  have hne : ¬ r = d := by omega
  have hne2 : ¬ d = r := by omega
  cases f with
  | zero =>
    simp only [bytesK, List.append_nil, Prod.mk.injEq] at hacc
    obtain ⟨rfl, rfl⟩ := hacc
    refine Wk ?_
    refine go_result1W (E := .none) (r0 := r) [(d, deckBox l j')] (by simp (disch := omega) [go_sem, *, -List.reduceReplicate]; rfl) (by omega) (by simp (disch := omega) [go_sem]; try rfl) (fun id hid => by simp only [wr_cons, wr_nil]; try (by_cases hdd : id = d; (· (subst hdd; simp (disch := omega) [go_sem, *])); (· (simp (disch := omega) only [upd_ne]; try (first | exact hlow id hid hdd | exact hlow id hid))))) (by simp) (by simp (disch := omega) [go_sem, *, -List.reduceReplicate]; rfl) (by simp (disch := omega) [go_sem, *])
  | succ f =>
    have c1 := Next_spec l j' 256 hdj (by omega) (by omega)
    have d1 := nextD_dk 256 hdj
    have b1 := nextD_lt l j' 256 (by omega)
    rw [bytesK] at hacc
    generalize nextD l j' 256 = X at *
    obtain ⟨x, j2⟩ := X
    simp only at c1 d1 b1 hacc
    have hw : IntKind.u8.wrap (x : Int) = x := by rw [IntKind.wrap_u8]; omega
    have hbx : AV.lit (.int .u8 (x : Int)) = byteAV (UInt8.ofNat x) := by simp [byteAV, Nat.mod_eq_of_lt b1]
    have hcs := And.intro (c1 d) True.intro
    clear c1 hdj
    refine Wk ?_
    exact ⟨WS, WG, WN, _, (show (f) < m_1 by omega), f, j2, r, acc ++ [UInt8.ofNat x], rfl, WF, WF, WF, WF, WC, WC, WC, WC, WC⟩
theorem Bytes_ex (l : List Int) (i n : Nat) (h : Dk l i) (hn : n ≤ 100000) : ∃ (b : List UInt8) (j : Nat), b.length ≤ n ∧ Dk l j ∧ ∀ d k, ACall Tryd.prog 52 [.ptr d [] 0, .lit (.int .i64 n)] k [(d, deckBox l i)] (.slice (some k) (b.map byteAV)) [(d, deckBox l j), (k, .row 5 1 b.length)] :=
  ⟨_, _, bytesD_len l i n, bytesD_dk n h, fun d k => Bytes_row l i n h hn d k⟩
set_option maxHeartbeats 4000000 in
theorem Caveat_ex (l : List Int) (i : Nat) (h : Dk l i) :
    ∃ (c : Ca) (j : Nat), cavB c = true ∧ PrOk c.first ∧ CaSm c ∧ Dk l j ∧ ∀ d k, ACall Tryd.prog 13 [.ptr d [] 0] k [(d, deckBox l i)] (caAV c) [(d, deckBox l j)] := by
  obtain ⟨x, j1, x1, d1, c1⟩ := Next_at l i 4 h (by omega) (by omega)
  by_cases hx : x = 0
  · subst hx
    obtain ⟨p, j2, p1, d2, c2⟩ := Next_at l j1 8 d1 (by omega) (by omega)
    obtain ⟨t, j3, t1, d3, c3⟩ := Bytes_ex l j2 20 d2 (by omega)
    obtain ⟨b, j4, b1, d4, c4⟩ := Bytes_ex l j3 20 d3 (by omega)
    refine ⟨⟨true, zeroPr, p, t ++ [1], b ++ [2]⟩, j4, (CV.third p (by omega) _ _ (by simp; omega) (by simp; omega)).ok, zeroPr_ok, ⟨by simp; omega, by simp; omega⟩, d4, fun d k => ?_⟩
    have hb1 : byteAV 1 = .lit (.int .u8 1) := rfl
    have hb2 : byteAV 2 = .lit (.int .u8 2) := rfl
    simp only [caAV, prAV, zeroPr]
    refine ACall.of_body mixed Tryd.func13 rfl (by kernel_rfl) Tryd.ntmps13 (by kernel_rfl) rfl (by simp) (by simp) (by simp) fun σ N hp hpn hk hkn hfree => ?_
    have hd := hp _ (List.mem_singleton.2 rfl); have hdn := hpn _ (List.mem_singleton.2 rfl); simp only at hd hdn; clear hp hpn
    have hcs := And.intro (c1 d) (And.intro (c2 d) (And.intro (c3 d) (And.intro (c4 d) True.intro)))
    clear c1 c2 c3 c4
    refine Wk ?_
    refine go_resultWI [(d, deckBox l j4)] (by simp (disch := omega) [go_sem, *, -List.reduceReplicate]; rfl) (AV.sub_agg (by repeat' first | exact ALe.nil | exact AV.le_refl _ | apply ALe.cons | ((first | apply AV.le_slices | apply AV.le_nilsE | apply AV.le_clipE); first | rfl | (simp (disch := omega) [go_sem, *, -List.reduceReplicate]; done)))) (by first | rfl | (simp (disch := omega) [go_sem]; done) | (simp (disch := omega) [go_sem, *]; done) | simp (disch := omega) [go_sem]) (fun id hid => by simp only [wr_cons, wr_nil]; try (by_cases hdd : id = d; (· (subst hdd; simp (disch := omega) [go_sem, *])); (· (simp (disch := omega) only [upd_ne]; try (first | exact hlow id hid hdd | exact hlow id hid))))) (by simp) (by simp (disch := omega) [go_sem, *])
  · obtain ⟨p, j2, p1, p2, _, d2, c2⟩ := Predicate_ex l j1 d1 true
    refine ⟨⟨false, p, 0, [], []⟩, j2, (CV.first p p1).ok, p2, ⟨by simp, by simp⟩, d2, fun d k => ?_⟩
    have hx0 : (0 : Int) < x := by omega
    simp only [caAV]
    refine ACall.of_body mixed Tryd.func13 rfl (by kernel_rfl) Tryd.ntmps13 (by kernel_rfl) rfl (by simp) (by simp) (by simp) fun σ N hp hpn hk hkn hfree => ?_
    have hd := hp _ (List.mem_singleton.2 rfl); have hdn := hpn _ (List.mem_singleton.2 rfl); simp only at hd hdn; clear hp hpn
    have hcs := And.intro (c1 d) (And.intro (c2 d) True.intro)
    clear c1 c2
    refine Wk ?_
    refine go_resultWI [(d, deckBox l j2)] (by simp (disch := omega) [go_sem, *, -List.reduceReplicate]; rfl) (AV.sub_agg (by repeat' first | exact ALe.nil | exact AV.le_refl _ | apply ALe.cons | ((first | apply AV.le_slices | apply AV.le_nilsE | apply AV.le_clipE); first | rfl | (simp (disch := omega) [go_sem, *, -List.reduceReplicate]; done)))) (by first | rfl | (simp (disch := omega) [go_sem]; done) | (simp (disch := omega) [go_sem, *]; done) | simp (disch := omega) [go_sem]) (fun id hid => by simp only [wr_cons, wr_nil]; try (by_cases hdd : id = d; (· (subst hdd; simp (disch := omega) [go_sem, *])); (· (simp (disch := omega) only [upd_ne]; try (first | exact hlow id hid hdd | exact hlow id hid))))) (by simp) (by simp (disch := omega) [go_sem, *])
end Go.Proofs.YtaelnglalpiemaaDoor

/- The law CaveatValid. -/
namespace Go.Proofs.YtaelnglalpiemaaDoor
open Go.Ab
attribute [local irreducible] Go.Ab.tyAV Go.Ab.aw Go.Ab.aops Go.Ab.kReg Go.Ab.aThen Go.Ab.aBlk Go.Ab.acond Go.Ab.aguard Go.Ab.astep Go.Ab.AStepX Go.Ab.aRet

/-- The bytes of a caveat that came in. -/
structure CaIn (c : Ca) : Prop where
  pr : PrOk c.first
  t0 : c.ticket.length ≤ 9223372036854775807
  b0 : c.box.length ≤ 9223372036854775807
theorem few_ex (c : Ca) (h : CaIn c) : ∃ c' : Ca, c'.first = c.first ∧ c'.ticket.length ≤ 1100 ∧ c'.box.length ≤ 1100 ∧ ∀ k, ACall Tryd.prog 11 [caAV c] k [] (caAV c') [] := by
  obtain ⟨th, f, p, t, b⟩ := c
  obtain ⟨_, t0, b0⟩ := h
  simp only at t0 b0
  obtain ⟨m1, t', q1, q2, q3, q4, q5⟩ := cutAt 1100 t
  obtain ⟨m2, b', r1, r2, r3, r4, r5⟩ := cutAt 1100 b
  replace q1 : (if (1100 : Int) < (t.length : Int) then (1100 : Int) else (t.length : Int)) = (m1 : Int) := q1
  replace r1 : (if (1100 : Int) < (b.length : Int) then (1100 : Int) else (b.length : Int)) = (m2 : Int) := r1
  refine ⟨⟨th, f, p, t', b'⟩, rfl, by simp only; omega, by simp only; omega, fun k => ?_⟩
  simp only [caAV]
  refine ACall.of_body mixed Tryd.func11 rfl (by kernel_rfl) Tryd.ntmps11 (by kernel_rfl) rfl (by simp) (by simp) (by simp) fun σ N hp hpn hk hkn hfree => ?_
  exact WA
@[go_sem] theorem renl_replicate (f : Nat → Option Nat) (n : Nat) (a : AV) : AV.renl f (List.replicate n a) = List.replicate n (a.ren f) := by rw [AV.renl_map, List.map_replicate]
theorem zeros_map (n : Nat) : List.replicate n (AV.lit (.int .u8 0)) = (List.replicate n (0 : UInt8)).map byteAV := by rw [List.map_replicate]; rfl
set_option maxHeartbeats 4000000 in
theorem spoilt_ex (c : Ca) (h : PrOk c.first) (hs : CaSm c) (hw n : Int) (hw0 : 0 ≤ hw) (hw1 : hw < 256) : ∃ c' : Ca, PrOk c'.first ∧ CaSm c' ∧ ∀ k, ACall Tryd.prog 14 [caAV c, .lit (.int .u8 hw), .lit (.int .i64 n)] k [] (caAV c') [] := by
  obtain ⟨th, f, p, t, b⟩ := c
  obtain ⟨s1, s2⟩ := hs
  simp only at s1 s2 h
  have ht : hw.tmod 5 = hw % 5 := Int.tmod_eq_emod_of_nonneg hw0
  have c1 := Within_spec n 4 (by omega) (by omega)
  have hq : n % 4 = 0 ∨ n % 4 = 1 ∨ n % 4 = 2 ∨ n % 4 = 3 := by omega
  have hm : hw % 5 = 0 ∨ hw % 5 = 1 ∨ hw % 5 = 2 ∨ hw % 5 = 3 ∨ hw % 5 = 4 := by omega
  rcases hm with hm | hm | hm | hm | hm
  all_goals (rw [hm] at ht; clear hm)
  · refine ⟨⟨!th, f, p, t, b⟩, h, ⟨s1, s2⟩, fun k => ?_⟩
    simp only [caAV]
    refine ACall.of_body mixed Tryd.func14 rfl (by kernel_rfl) Tryd.ntmps14 (by kernel_rfl) rfl (by simp) (by simp) (by simp) fun σ N hp hpn hk hkn hfree => ?_
    clear c1
    exact WA
  · refine ⟨⟨th, f, n, t, b⟩, h, ⟨s1, s2⟩, fun k => ?_⟩
    simp only [caAV]
    refine ACall.of_body mixed Tryd.func14 rfl (by kernel_rfl) Tryd.ntmps14 (by kernel_rfl) rfl (by simp) (by simp) (by simp) fun σ N hp hpn hk hkn hfree => ?_
    clear c1
    exact WA
  · refine ⟨⟨th, ⟨f.kind, f.mask, f.frm, f.to, f.name, n⟩, p, t, b⟩, ⟨h.m0, h.m1, h.nl⟩, ⟨s1, s2⟩, fun k => ?_⟩
    obtain ⟨f1, f2, f3, f4, f5, f6⟩ := f
    simp only [caAV, prAV]
    refine ACall.of_body mixed Tryd.func14 rfl (by kernel_rfl) Tryd.ntmps14 (by kernel_rfl) rfl (by simp) (by simp) (by simp) fun σ N hp hpn hk hkn hfree => ?_
    clear c1
    exact WA
  · rcases hq with hq | hq | hq | hq
    · refine ⟨⟨th, f, p, List.replicate 0 (0 : UInt8), b⟩, h, ⟨by simp only [List.length_replicate]; omega, s2⟩, fun k => ?_⟩
      rw [hq] at c1
      simp only [caAV]
      rw [← zeros_map]
      refine ACall.of_body mixed Tryd.func14 rfl (by kernel_rfl) Tryd.ntmps14 (by kernel_rfl) rfl (by simp) (by simp) (by simp) fun σ N hp hpn hk hkn hfree => ?_
      have hcs := And.intro c1 True.intro
      clear c1
      exact WA
    · refine ⟨⟨th, f, p, List.replicate 1 (0 : UInt8), b⟩, h, ⟨by simp only [List.length_replicate]; omega, s2⟩, fun k => ?_⟩
      rw [hq] at c1
      simp only [caAV]
      rw [← zeros_map]
      refine ACall.of_body mixed Tryd.func14 rfl (by kernel_rfl) Tryd.ntmps14 (by kernel_rfl) rfl (by simp) (by simp) (by simp) fun σ N hp hpn hk hkn hfree => ?_
      have hcs := And.intro c1 True.intro
      clear c1
      exact WA
    · refine ⟨⟨th, f, p, List.replicate 1024 (0 : UInt8), b⟩, h, ⟨by simp only [List.length_replicate]; omega, s2⟩, fun k => ?_⟩
      rw [hq] at c1
      simp only [caAV]
      rw [← zeros_map]
      refine ACall.of_body mixed Tryd.func14 rfl (by kernel_rfl) Tryd.ntmps14 (by kernel_rfl) rfl (by simp) (by simp) (by simp) fun σ N hp hpn hk hkn hfree => ?_
      have hcs := And.intro c1 True.intro
      clear c1
      exact WA
    · refine ⟨⟨th, f, p, List.replicate 1025 (0 : UInt8), b⟩, h, ⟨by simp only [List.length_replicate]; omega, s2⟩, fun k => ?_⟩
      rw [hq] at c1
      simp only [caAV]
      rw [← zeros_map]
      refine ACall.of_body mixed Tryd.func14 rfl (by kernel_rfl) Tryd.ntmps14 (by kernel_rfl) rfl (by simp) (by simp) (by simp) fun σ N hp hpn hk hkn hfree => ?_
      have hcs := And.intro c1 True.intro
      clear c1
      exact WA
  · rcases hq with hq | hq | hq | hq
    · refine ⟨⟨th, f, p, t, List.replicate 0 (0 : UInt8)⟩, h, ⟨s1, by simp only [List.length_replicate]; omega⟩, fun k => ?_⟩
      rw [hq] at c1
      simp only [caAV]
      rw [← zeros_map]
      refine ACall.of_body mixed Tryd.func14 rfl (by kernel_rfl) Tryd.ntmps14 (by kernel_rfl) rfl (by simp) (by simp) (by simp) fun σ N hp hpn hk hkn hfree => ?_
      have hcs := And.intro c1 True.intro
      clear c1
      exact WA
    · refine ⟨⟨th, f, p, t, List.replicate 1 (0 : UInt8)⟩, h, ⟨s1, by simp only [List.length_replicate]; omega⟩, fun k => ?_⟩
      rw [hq] at c1
      simp only [caAV]
      rw [← zeros_map]
      refine ACall.of_body mixed Tryd.func14 rfl (by kernel_rfl) Tryd.ntmps14 (by kernel_rfl) rfl (by simp) (by simp) (by simp) fun σ N hp hpn hk hkn hfree => ?_
      have hcs := And.intro c1 True.intro
      clear c1
      exact WA
    · refine ⟨⟨th, f, p, t, List.replicate 1024 (0 : UInt8)⟩, h, ⟨s1, by simp only [List.length_replicate]; omega⟩, fun k => ?_⟩
      rw [hq] at c1
      simp only [caAV]
      rw [← zeros_map]
      refine ACall.of_body mixed Tryd.func14 rfl (by kernel_rfl) Tryd.ntmps14 (by kernel_rfl) rfl (by simp) (by simp) (by simp) fun σ N hp hpn hk hkn hfree => ?_
      have hcs := And.intro c1 True.intro
      clear c1
      exact WA
    · refine ⟨⟨th, f, p, t, List.replicate 1025 (0 : UInt8)⟩, h, ⟨s1, by simp only [List.length_replicate]; omega⟩, fun k => ?_⟩
      rw [hq] at c1
      simp only [caAV]
      rw [← zeros_map]
      refine ACall.of_body mixed Tryd.func14 rfl (by kernel_rfl) Tryd.ntmps14 (by kernel_rfl) rfl (by simp) (by simp) (by simp) fun σ N hp hpn hk hkn hfree => ?_
      have hcs := And.intro c1 True.intro
      clear c1
      exact WA
end Go.Proofs.YtaelnglalpiemaaDoor

/- The law CaveatValid. -/
namespace Go.Proofs.YtaelnglalpiemaaDoor
open Go.Ab
attribute [local irreducible] Go.Ab.tyAV Go.Ab.aw Go.Ab.aops Go.Ab.kReg Go.Ab.aThen Go.Ab.aBlk Go.Ab.acond Go.Ab.aguard Go.Ab.astep Go.Ab.AStepX Go.Ab.aRet

set_option maxHeartbeats 8000000 in
theorem caveatValid_core (c : Ca) (h : CaIn c) (deck other : List Int) (hd : deck.length ≤ 9223372036854775807) (ho : other.length ≤ 9223372036854775807) (hw n : Int) (hw0 : 0 ≤ hw) (hw1 : hw < 256) (d k : Nat) :
    ACall Tryd.prog 3 [caAV c, .slice none (deck.map intAV), .slice none (other.map intAV), .lit (.int .u8 hw), .lit (.int .i64 n)] k [(d, bitsG)] (.lit (.bool true)) [] := by
  obtain ⟨c', e1, e2, e3, a1⟩ := few_ex c h
  have pc : PrOk c'.first := by rw [e1]; exact h.pr
  have sc : CaSm c' := ⟨by omega, by omega⟩
  have a2 := New_spec deck
  obtain ⟨x, j1, x1, x2, x3, d1, a3⟩ := Caveat_ex deck 0 ⟨hd, Nat.zero_le _⟩
  obtain ⟨y, y1, y2, a4⟩ := spoilt_ex x x2 x3 hw n hw0 hw1
  obtain ⟨z, j2, z1, z2, z3, d2, a5⟩ := Caveat_ex deck j1 d1
  have a6 := New_spec other
  obtain ⟨t, j3, t1, t2, t3, d3, a7⟩ := Caveat_ex other 0 ⟨ho, Nat.zero_le _⟩
  have b1 := cavValid_spec x x2 d
  rw [x1] at b1
  have b2 := cavValid_spec c' pc d
  have b3 := refCav_spec c' pc
  have b4 := cavValid_spec y y1 d
  have b5 := refCav_spec y y1
  have hl : ∀ q ∈ [x, c', z, y], CaSm q := by simp [x3, sc, z3, y2]
  have hk : ∀ q ∈ [x, c', t, y], CaSm q := by simp [x3, sc, t3, y2]
  have h3 : ∀ q ∈ [x, c', z], CaSm q := by simp [x3, sc, z3]
  have b6 := firsts_gen [x, c', z, y] _ rfl (by simp)
  have b7 := refFirsts_gen [x, c', z, y] _ rfl (by simp)
  have b8 := SamePredicates_refl (firstsS [x, c', z, y]) (by have := firsts_len [x, c', z, y]; simp at this; omega)
  have b9 := Same_cav _ _ hl hk (by simp) (by simp)
  have b10 := refSame_cav _ _ hl hk (by simp) (by simp)
  have b11 := Same_cav _ _ hl hl (by simp) (by simp)
  have b12 := Same_cav _ _ hl h3 (by simp) (by simp)
  rw [decide_eq_true rfl] at b11
  rw [decide_eq_false (by simp)] at b12
  simp only [List.map_cons, List.map_nil] at b6 b7 b9 b10 b11 b12
  generalize (firstsS [x, c', z, y]).map prAV = FS at *
  generalize decide ([x, c', z, y] = [x, c', t, y]) = v9 at *
  generalize cavB c' = v2 at *
  generalize cavB y = v4 at *
  have b13 := awake12_spec d
  clear hl hk h3 x1 x2 x3 d1 y1 y2 z1 z2 z3 d2 t1 t2 t3 d3 e1 e2 e3 pc sc h hw0 hw1
  refine ACall.of_body mixed Tryd.func3 rfl (by kernel_rfl) Tryd.ntmps3 (by kernel_rfl) rfl (by simp) (by simp) (by simp) fun σ N hp hpn hk hkn hfree => ?_
  have hd := hp _ (List.mem_singleton.2 rfl); have hdn := hpn _ (List.mem_singleton.2 rfl); simp only at hd hdn; clear hp hpn
  have hcs := And.intro a1 (And.intro a2 (And.intro (a3 (N + 6)) (And.intro a4 (And.intro (a5 (N + 6)) (And.intro a6 (And.intro (a7 (N + 28)) (And.intro b1 (And.intro b2 (And.intro b3 (And.intro b4 (And.intro b5 (And.intro b6 (And.intro b7 (And.intro b8 (And.intro b9 (And.intro b10 (And.intro b11 (And.intro b12 (And.intro b13 True.intro)))))))))))))))))))
  clear a1 a2 a3 a4 a5 a6 a7 b1 b2 b3 b4 b5 b6 b7 b8 b9 b10 b11 b12 b13
  exact W0

theorem u64_of_wf {a : Int} (h : (Lit.int .u64 a).wf = true) : 0 ≤ a ∧ a < 18446744073709551616 := by
  have hw : IntKind.u64.min ≤ a ∧ a ≤ IntKind.u64.max := by simpa [Lit.wf] using h
  have e1 : IntKind.u64.min = 0 := by decide
  have e2 : IntKind.u64.max = 18446744073709551615 := by decide
  omega
theorem u8_of_wf {a : Int} (h : (Lit.int .u8 a).wf = true) : 0 ≤ a ∧ a < 256 := by
  have hw : IntKind.u8.min ≤ a ∧ a ≤ IntKind.u8.max := by simpa [Lit.wf] using h
  have e1 : IntKind.u8.min = 0 := by decide
  have e2 : IntKind.u8.max = 255 := by decide
  omega
theorem pred_ty {m : Nat} {x : AV} (h : tyAV Tryd.prog (m + 2) 24 x) : ∃ p : Pr, PrOk p ∧ x = prAV p := by
  obtain ⟨xs, rfl, h1, h2⟩ := ty_struct Tryd.underlying24 h
  obtain ⟨a, b, c, d, e, f, rfl⟩ : ∃ a b c d e f, xs = [a, b, c, d, e, f] := by
    match xs, h1 with
    | [a, b, c, d, e, f], _ => exact ⟨a, b, c, d, e, f, rfl⟩
  obtain ⟨v1, _, rfl⟩ := ty_int it3 (h2 0 _ _ rfl rfl)
  obtain ⟨v2, w2, rfl⟩ := ty_int it22 (h2 1 _ _ rfl rfl)
  obtain ⟨v3, _, rfl⟩ := ty_int it3 (h2 2 _ _ rfl rfl)
  obtain ⟨v4, _, rfl⟩ := ty_int it3 (h2 3 _ _ rfl rfl)
  obtain ⟨v5, w5, rfl⟩ := ty_str st9 (h2 4 _ _ rfl rfl)
  obtain ⟨v6, _, rfl⟩ := ty_int it3 (h2 5 _ _ rfl rfl)
  exact ⟨⟨v1, v2, v3, v4, v5, v6⟩, ⟨(u64_of_wf w2).1, (u64_of_wf w2).2, w5⟩, rfl⟩
theorem caveat_of {x : AV} (h : tyAV Tryd.prog 8 27 x) : ∃ c : Ca, CaIn c ∧ x = caAV c := by
  obtain ⟨xs, rfl, h1, h2⟩ := ty_struct Tryd.underlying27 h
  obtain ⟨a, b, c, d, e, rfl⟩ : ∃ a b c d e, xs = [a, b, c, d, e] := by
    match xs, h1 with
    | [a, b, c, d, e], _ => exact ⟨a, b, c, d, e, rfl⟩
  obtain ⟨v1, rfl⟩ := ty_bool bt4 (h2 0 _ _ rfl rfl)
  obtain ⟨v2, w2, rfl⟩ := pred_ty (h2 1 _ _ rfl rfl)
  obtain ⟨v3, _, rfl⟩ := ty_int it3 (h2 2 _ _ rfl rfl)
  obtain ⟨v4, w4, rfl⟩ := ty_bytes sl25 by5 (h2 3 _ _ rfl rfl)
  obtain ⟨v5, w5, rfl⟩ := ty_bytes sl25 by5 (h2 4 _ _ rfl rfl)
  exact ⟨⟨v1, v2, v3, v4, v5⟩, ⟨w2, w4, w5⟩, rfl⟩
theorem CaveatValid_spec (c : Ca) (h : CaIn c) (deck : List Int) (_ : ∀ n ∈ deck, (Lit.int .i64 n).wf = true) (hd : deck.length ≤ 9223372036854775807) (other : List Int) (_ : ∀ n ∈ other, (Lit.int .i64 n).wf = true) (ho : other.length ≤ 9223372036854775807)
    (hw : Int) (w : (Lit.int .u8 hw).wf = true) (n : Int) (d k : Nat) :
    ACall Tryd.prog 3 [caAV c, .slice none (deck.map intAV), .slice none (other.map intAV), .lit (.int .u8 hw), .lit (.int .i64 n)] k [(d, bitsG)] (.lit (.bool true)) [] :=
  caveatValid_core c h deck other hd ho hw n (u8_of_wf w).1 (u8_of_wf w).2 d k
end Go.Proofs.YtaelnglalpiemaaDoor

/- The law CaveatCode. -/
namespace Go.Proofs.YtaelnglalpiemaaDoor
open Go.Ab
attribute [local irreducible] Go.Ab.tyAV Go.Ab.aw Go.Ab.aops Go.Ab.kReg Go.Ab.aThen Go.Ab.aBlk Go.Ab.acond Go.Ab.aguard Go.Ab.astep Go.Ab.AStepX Go.Ab.aRet

theorem finC_sm (c : Ca) (u : Nat) (h : CaSm c) : CaSm (finC c u).1 := by
  unfold finC
  split
  · exact h
  · exact ⟨by simp [zeroCa], by simp [zeroCa]⟩
theorem decC_sm (b : List UInt8) : CaSm (decC b).1 := by
  have z : ∀ e : Nat, CaSm (zeroCa, 0, e).1 := fun e => ⟨by simp [zeroCa], by simp [zeroCa]⟩
  unfold decC
  split
  · exact z _
  split
  · split
    · exact z _
    · exact finC_sm _ _ ⟨by simp, by simp⟩
  split
  · simp only
    split
    · exact z _
    · refine finC_sm _ _ ⟨?_, ?_⟩
      · have := fldO_len b (numR b (numR b 0).2.1).2.1 (numR b (numR b 0).2.1).2.2
        simp only; omega
      · have := fldO_len b (fldO b (numR b (numR b 0).2.1).2.1 (numR b (numR b 0).2.1).2.2).2.1 (fldO b (numR b (numR b 0).2.1).2.1 (numR b (numR b 0).2.1).2.2).2.2
        simp only; omega
  · exact z _
set_option maxHeartbeats 8000000 in
theorem caveatCode_core (c : Ca) (h : CaIn c) (raw0 raw : List UInt8) (m1 : Nat) (h1 : (if (200 : Int) < (raw0.length : Int) then (200 : Int) else (raw0.length : Int)) = (m1 : Int)) (h2 : m1 ≤ raw0.length) (h3 : m1 ≤ 200) (h4 : raw.length = m1) (h5 : (raw0.map byteAV).take m1 = raw.map byteAV)
    (deck : List Int) (hd : deck.length ≤ 9223372036854775807) (at_ cut : Int) (xb : UInt8) (d k : Nat) :
    ACall Tryd.prog 8 [caAV c, .slice none (raw0.map byteAV), .slice none (deck.map intAV), .lit (.int .i64 at_), byteAV xb, .lit (.int .i64 cut)] k [(d, bitsG)] (.lit (.bool true)) [] := by
  obtain ⟨c', e1, e2, e3, a1⟩ := few_ex c h
  have pc : PrOk c'.first := by rw [e1]; exact h.pr
  have a2 := cEnc_spec c' pc d
  have a3 := rEnc_spec c' pc
  have l1 := encS_len c'
  generalize encS c' = R at *
  obtain ⟨w, ew⟩ := R
  simp only [encAV] at a2 a3 l1
  have a4 := Same_spec w w (by omega)
  rw [decide_eq_true rfl] at a4
  have a5 := New_spec deck
  obtain ⟨x, j1, x1, x2, x3, d1, a6⟩ := Caveat_ex deck 0 ⟨hd, Nat.zero_le _⟩
  have a7 := rEnc_ok x x2 x1
  have l2 := encC_len x x1
  generalize encC x = b at *
  have g1 := Int.emod_nonneg at_ (show (b.length : Int) ≠ 0 by omega)
  have g2 := Int.emod_lt_of_pos at_ (show (0 : Int) < (b.length : Int) by omega)
  obtain ⟨j, hj⟩ := Int.eq_ofNat_of_zero_le g1
  have hj2 : j < b.length := by omega
  have g3 := Int.emod_nonneg cut (show (b.length : Int) ≠ 0 by omega)
  have g4 := Int.emod_lt_of_pos cut (show (0 : Int) < (b.length : Int) by omega)
  obtain ⟨jc, hjc⟩ := Int.eq_ofNat_of_zero_le g3
  have a8 := Within_spec at_ b.length (by omega) (by omega)
  rw [hj] at a8
  have a9 := Within_spec cut b.length (by omega) (by omega)
  rw [hjc] at a9
  have hjc2 : jc < b.length := by omega
  have hset := set_bytes b j xb
  obtain ⟨y, hy⟩ : ∃ y, b.set j xb = y := ⟨_, rfl⟩
  have hyl : y.length = b.length := by rw [← hy]; simp
  rw [hy] at hset
  have htk : (b.map byteAV).take jc = (b.take jc).map byteAV := by rw [List.map_take]
  obtain ⟨z, hz⟩ : ∃ z, b.take jc = z := ⟨_, rfl⟩
  have hzl : z.length ≤ 3000 := by rw [← hz, List.length_take]; omega
  rw [hz] at htk
  clear hy hz g1 g2 g3 g4 hj hjc x1 x2 x3 d1 e1 e2 e3 pc h
  refine ACall.of_body mixed Tryd.func8 rfl (by kernel_rfl) Tryd.ntmps8 (by kernel_rfl) rfl (by simp) (by simp) (by simp) fun σ N hp hpn hk hkn hfree => ?_
  have hd := hp _ (List.mem_singleton.2 rfl); have hdn := hpn _ (List.mem_singleton.2 rfl); simp only at hd hdn; clear hp hpn
  have M : Mut (N + 43) := ⟨⟩
  have hcs := And.intro a1 (And.intro a2 (And.intro a3 (And.intro a4 (And.intro a5 (And.intro (a6 (N + 35)) (And.intro a7 (And.intro a8 True.intro)))))))
  clear a1 a2 a3 a4 a5 a6 a7 a8
  repeat (first | apply go_nil | apply go_kreg | apply go_kreg0 | apply go_kreg1 | (apply go_kregT; · (first | (simp [addT, CF, CFy, Ind, DisjF]; done) | (simp only [addT, CF, CFy, Ind]; repeat' (first | exact trivial | apply And.intro | exact Or.inl (by decide +kernel) | (refine Or.inr ⟨?_, ?_⟩ <;> (simp; try omega)))))) | apply go_then | apply go_then_exit | apply go_then_ret | apply go_blk | apply go_blk_ret | apply go_blk_here | (apply go_blk_there; · rfl) | apply go_seq | apply go_skip | apply go_block | apply go_scope | apply go_label | apply go_exit | apply go_ret | (apply go_mut; (· assumption); · (simp (disch := omega) [go_sem, *, -List.reduceReplicate]; first | exact ⟨rfl, rfl⟩ | (simp [go_sem, *]; exact ⟨rfl, rfl⟩))) | (apply go_mutP; (· assumption); · (simp (disch := omega) [go_sem, *, -List.reduceReplicate]; try first | rfl | exact ⟨rfl, rfl⟩ | exact ⟨rfl, rfl, rfl⟩)) | (apply go_guard_in; (· rfl); · (simp (disch := omega) [go_sem, *, -List.reduceReplicate]; try first | rfl | omega)) | (apply go_guard_off; (· rfl); · (simp (disch := omega) [go_sem, *, -List.reduceReplicate]; try first | rfl | omega)) | (apply go_guard_no; (· rfl); · (simp (disch := omega) [go_sem, *, -List.reduceReplicate]; try rfl)) | ((first | apply go_move | apply go_assign | apply go_load | apply go_store | apply go_append | apply go_copy | apply go_copy0 | apply go_clear0 | apply go_slice3 | apply go_indexA); · (simp (disch := omega) [go_sem, *, -List.reduceReplicate]; try first | rfl | exact ⟨rfl, rfl⟩ | exact ⟨rfl, rfl, rfl⟩)) | ((first | apply go_loadv | apply go_append0 | apply go_beyond); · (simp (disch := omega) [go_sem, *, -List.reduceReplicate]; try first | rfl | exact ⟨rfl, rfl⟩ | exact ⟨rfl, rfl, rfl⟩)) | (apply go_appself; · (simp (disch := omega) [go_sem, *, -List.reduceReplicate]; try first | rfl | exact ⟨rfl, rfl⟩ | exact ⟨rfl, rfl, rfl⟩)) | ((first | (apply go_appendz; · rfl) | (apply go_new; · rfl) | (apply go_glob; · assumption) | (apply go_pure; · rfl)); · (simp (disch := omega) [go_sem, *, -List.reduceReplicate]; try first | rfl | exact ⟨rfl, rfl⟩ | exact ⟨rfl, rfl, rfl⟩)) | (apply go_read1; (· rfl); · (simp (disch := omega) [go_sem, *, -List.reduceReplicate]; try first | rfl | exact ⟨rfl, rfl⟩ | exact ⟨rfl, rfl, rfl⟩)) | (apply go_rw1; (· rfl); · (simp (disch := omega) [go_sem, *, -List.reduceReplicate]; try first | rfl | exact ⟨rfl, rfl⟩ | exact ⟨rfl, rfl, rfl⟩)) | (apply go_new1; (· rfl); · (simp (disch := omega) [go_sem, *, -List.reduceReplicate]; try first | rfl | exact ⟨rfl, rfl⟩ | exact ⟨rfl, rfl, rfl⟩)) | (apply go_conv; · (simp (disch := omega) [go_sem, *, -List.reduceReplicate]; try first | rfl | exact ⟨rfl, rfl⟩ | exact ⟨rfl, rfl, rfl⟩)) | ((first | (apply go_new; · rfl) | (apply go_pure; · rfl)); · (simp (disch := omega) [go_sem, *, -List.reduceReplicate]; simp [go_sem, *]; try first | rfl | exact ⟨rfl, rfl⟩)) | (apply go_condT; · (simp (disch := omega) [go_sem, *, -List.reduceReplicate]; try first | rfl | omega; done)) | (apply go_condF; · (simp (disch := omega) [go_sem, *, -List.reduceReplicate]; try first | rfl | omega; done)) | (obtain ⟨hcall, hcs⟩ := hcs; refine go_callw (hcall _) (by simp (disch := omega) [go_sem, *, -List.reduceReplicate]; try rfl) (by simp (disch := omega) [go_sem, *, -List.reduceReplicate]; repeat' first | exact ALe.nil | exact AV.le_refl _ | exact AV.le_nils | exact AV.le_own _ _ | apply ALe.cons | apply AV.sub_agg) (by simp (disch := omega) [go_sem, *, -List.reduceReplicate]) ?_; clear hcall))
  iterate 8 ((apply go_region; (· (simp only [List.length_cons, List.length_nil, Nat.reduceAdd, Nat.add_assoc]; rfl))); repeat (first | apply go_nil | apply go_kreg | apply go_kreg0 | apply go_kreg1 | (apply go_kregT; · (first | (simp [addT, CF, CFy, Ind, DisjF]; done) | (simp only [addT, CF, CFy, Ind]; repeat' (first | exact trivial | apply And.intro | exact Or.inl (by decide +kernel) | (refine Or.inr ⟨?_, ?_⟩ <;> (simp; try omega)))))) | apply go_then | apply go_then_exit | apply go_then_ret | apply go_blk | apply go_blk_ret | apply go_blk_here | (apply go_blk_there; · rfl) | apply go_seq | apply go_skip | apply go_block | apply go_scope | apply go_label | apply go_exit | apply go_ret | (apply go_mut; (· assumption); · (simp (disch := omega) [go_sem, *, -List.reduceReplicate]; first | exact ⟨rfl, rfl⟩ | (simp [go_sem, *]; exact ⟨rfl, rfl⟩))) | (apply go_mutP; (· assumption); · (simp (disch := omega) [go_sem, *, -List.reduceReplicate]; try first | rfl | exact ⟨rfl, rfl⟩ | exact ⟨rfl, rfl, rfl⟩)) | (apply go_guard_in; (· rfl); · (simp (disch := omega) [go_sem, *, -List.reduceReplicate]; try first | rfl | omega)) | (apply go_guard_off; (· rfl); · (simp (disch := omega) [go_sem, *, -List.reduceReplicate]; try first | rfl | omega)) | (apply go_guard_no; (· rfl); · (simp (disch := omega) [go_sem, *, -List.reduceReplicate]; try rfl)) | ((first | apply go_move | apply go_assign | apply go_load | apply go_store | apply go_append | apply go_copy | apply go_copy0 | apply go_clear0 | apply go_slice3 | apply go_indexA); · (simp (disch := omega) [go_sem, *, -List.reduceReplicate]; try first | rfl | exact ⟨rfl, rfl⟩ | exact ⟨rfl, rfl, rfl⟩)) | ((first | apply go_loadv | apply go_append0 | apply go_beyond); · (simp (disch := omega) [go_sem, *, -List.reduceReplicate]; try first | rfl | exact ⟨rfl, rfl⟩ | exact ⟨rfl, rfl, rfl⟩)) | (apply go_appself; · (simp (disch := omega) [go_sem, *, -List.reduceReplicate]; try first | rfl | exact ⟨rfl, rfl⟩ | exact ⟨rfl, rfl, rfl⟩)) | ((first | (apply go_appendz; · rfl) | (apply go_new; · rfl) | (apply go_glob; · assumption) | (apply go_pure; · rfl)); · (simp (disch := omega) [go_sem, *, -List.reduceReplicate]; try first | rfl | exact ⟨rfl, rfl⟩ | exact ⟨rfl, rfl, rfl⟩)) | (apply go_read1; (· rfl); · (simp (disch := omega) [go_sem, *, -List.reduceReplicate]; try first | rfl | exact ⟨rfl, rfl⟩ | exact ⟨rfl, rfl, rfl⟩)) | (apply go_rw1; (· rfl); · (simp (disch := omega) [go_sem, *, -List.reduceReplicate]; try first | rfl | exact ⟨rfl, rfl⟩ | exact ⟨rfl, rfl, rfl⟩)) | (apply go_new1; (· rfl); · (simp (disch := omega) [go_sem, *, -List.reduceReplicate]; try first | rfl | exact ⟨rfl, rfl⟩ | exact ⟨rfl, rfl, rfl⟩)) | (apply go_conv; · (simp (disch := omega) [go_sem, *, -List.reduceReplicate]; try first | rfl | exact ⟨rfl, rfl⟩ | exact ⟨rfl, rfl, rfl⟩)) | ((first | (apply go_new; · rfl) | (apply go_pure; · rfl)); · (simp (disch := omega) [go_sem, *, -List.reduceReplicate]; simp [go_sem, *]; try first | rfl | exact ⟨rfl, rfl⟩)) | (apply go_condT; · (simp (disch := omega) [go_sem, *, -List.reduceReplicate]; try first | rfl | omega; done)) | (apply go_condF; · (simp (disch := omega) [go_sem, *, -List.reduceReplicate]; try first | rfl | omega; done)) | (obtain ⟨hcall, hcs⟩ := hcs; refine go_callw (hcall _) (by simp (disch := omega) [go_sem, *, -List.reduceReplicate]; try rfl) (by simp (disch := omega) [go_sem, *, -List.reduceReplicate]; repeat' first | exact ALe.nil | exact AV.le_refl _ | exact AV.le_nils | exact AV.le_own _ _ | apply ALe.cons | apply AV.sub_agg) (by simp (disch := omega) [go_sem, *, -List.reduceReplicate]) ?_; clear hcall)))
  refine go_freeze 19 (id := N + 43) (ver := 1) (size := 1) (e := 5) (xs := y.map byteAV) (k := b.length) (by simp (disch := omega) [go_sem, *, -List.reduceReplicate]) (by simp (disch := omega) [go_sem, *, -List.reduceReplicate]) (by simp (disch := omega) [go_sem, *, -List.reduceReplicate]) ?_
  have hcs := And.intro a9 True.intro
  clear a9 M
  refine Wk ?_
  refine go_loopF mixed (by kernel_rfl) [12, 21, 22, 23, 24, 25, 26, 27, 81, 82, 83, 84, 85, 86, 87, 88, 89, 90, 91, 92, 93, 94, 95, 96, 97, 98, 99, 100, 101, 102, 103, 104, 105, 106, 107, 108, 109, 110, 111, 112, 113, 114, 115, 116, 117, 118, 119, 120] [] (fun m_ s_ σ_ n_ => ∃ (i : Nat), m_ = 4 - i ∧ s_ 21 = .lit (.int .i64 i) ∧ (i ≤ 4)) ⟨_, 0, rfl, WF, WC⟩ ?_
  intro m_1 s_1 σ_1 n_1 hs_1 hf_1 hn_1 hI_1
  obtain ⟨i, hm_1, h1_21, hi⟩ := hI_1
  have h1_20 := (hs_1.at 20 (by decide)).trans WE
  have hlow : ∀ id, id < N → σ_1 id = σ id := fun id hid => (hf_1.at id (by omega) WQ).trans WH
  have hcase : i = 4 ∨ i = 0 ∨ i = 1 ∨ i = 2 ∨ i = 3 := by omega
  rcases hcase with rfl | hcase
  · have hcs := And.intro (awake12_spec d) True.intro
    exact W0
  rcases hcase with rfl | hcase
  · have q1 := cDec_spec raw (by omega) d
    have q2 := rcDec_spec raw (by omega)
    have q3 := decC_sm raw
    generalize decC raw = R at *
    obtain ⟨p, n, e⟩ := R
    simp only [decCAV] at q1 q2 q3
    have q4 := refSame_cav [p] [p] (by simp [q3]) (by simp [q3]) (by simp) (by simp)
    rw [decide_eq_true rfl] at q4
    simp only [List.map_cons, List.map_nil] at q4
    have hcs := And.intro q1 (And.intro q2 (And.intro q4 True.intro))
    clear q1 q2 q3 q4
    refine Wk ?_
    exact ⟨WS, WG, WN, _, (show 4 - (1) < m_1 by omega), 1, rfl, WF, WC⟩
  rcases hcase with rfl | hcase
  · have q1 := cDec_spec b (by omega) d
    have q2 := rcDec_spec b (by omega)
    have q3 := decC_sm b
    generalize decC b = R at *
    obtain ⟨p, n, e⟩ := R
    simp only [decCAV] at q1 q2 q3
    have q4 := refSame_cav [p] [p] (by simp [q3]) (by simp [q3]) (by simp) (by simp)
    rw [decide_eq_true rfl] at q4
    simp only [List.map_cons, List.map_nil] at q4
    have hcs := And.intro q1 (And.intro q2 (And.intro q4 True.intro))
    clear q1 q2 q3 q4
    refine Wk ?_
    exact ⟨WS, WG, WN, _, (show 4 - (2) < m_1 by omega), 2, rfl, WF, WC⟩
  rcases hcase with rfl | hcase
  · have q1 := cDec_spec y (by omega) d
    have q2 := rcDec_spec y (by omega)
    have q3 := decC_sm y
    generalize decC y = R at *
    obtain ⟨p, n, e⟩ := R
    simp only [decCAV] at q1 q2 q3
    have q4 := refSame_cav [p] [p] (by simp [q3]) (by simp [q3]) (by simp) (by simp)
    rw [decide_eq_true rfl] at q4
    simp only [List.map_cons, List.map_nil] at q4
    have hcs := And.intro q1 (And.intro q2 (And.intro q4 True.intro))
    clear q1 q2 q3 q4
    refine Wk ?_
    exact ⟨WS, WG, WN, _, (show 4 - (3) < m_1 by omega), 3, rfl, WF, WC⟩
  subst hcase
  · have q1 := cDec_spec z (by omega) d
    have q2 := rcDec_spec z (by omega)
    have q3 := decC_sm z
    generalize decC z = R at *
    obtain ⟨p, n, e⟩ := R
    simp only [decCAV] at q1 q2 q3
    have q4 := refSame_cav [p] [p] (by simp [q3]) (by simp [q3]) (by simp) (by simp)
    rw [decide_eq_true rfl] at q4
    simp only [List.map_cons, List.map_nil] at q4
    have hcs := And.intro q1 (And.intro q2 (And.intro q4 True.intro))
    clear q1 q2 q3 q4
    refine Wk ?_
    exact ⟨WS, WG, WN, _, (show 4 - (4) < m_1 by omega), 4, rfl, WF, WC⟩
theorem CaveatCode_spec (c : Ca) (h : CaIn c) (raw : List UInt8) (deck : List Int) (_ : ∀ n ∈ deck, (Lit.int .i64 n).wf = true) (hd : deck.length ≤ 9223372036854775807) (at_ : Int) (x : Int) (w : (Lit.int .u8 x).wf = true) (cut : Int) (d k : Nat) :
    ACall Tryd.prog 8 [caAV c, .slice none (raw.map byteAV), .slice none (deck.map intAV), .lit (.int .i64 at_), .lit (.int .u8 x), .lit (.int .i64 cut)] k [(d, bitsG)] (.lit (.bool true)) [] := by
  obtain ⟨xb, hx, _⟩ := byte_of_wf w
  rw [hx]
  obtain ⟨m, t, q1, q2, q3, q4, q5⟩ := cutAt 200 raw
  exact caveatCode_core c h raw t m q1 q2 q3 q4 q5 deck hd at_ cut xb d k
end Go.Proofs.YtaelnglalpiemaaDoor

/- Predicates and caveats: what is written is read back, and only that (plain). -/
namespace Go.Proofs.YtaelnglalpiemaaDoor
open Go.Ab

theorem numR_at {b t : List UInt8} {u n : Nat} (h : b.drop u = leb n ++ t) (hn : n ≤ 281474976710656) : numR b u = (n, u + (leb n).length, 0) := by
  unfold numR
  rw [h, rdS_leb n hn t]
theorem rdF_at (x t : List UInt8) (hx : x.length ≤ 1024) : rdF (fieldB x ++ t) = (x, (fieldB x).length, 0) := by
  have h := rdS_leb x.length (by omega) (x ++ t)
  rw [← List.append_assoc] at h
  have hf : leb x.length ++ x ++ t = fieldB x ++ t := rfl
  rw [hf] at h
  unfold rdF
  rw [h]
  simp only
  have hl : (fieldB x).length = (leb x.length).length + x.length := by simp [fieldB]
  rw [if_neg (by simp), if_neg (by omega), if_neg (by rw [List.length_append]; omega), hl]
  congr 1
  rw [fieldB, List.append_assoc, List.drop_left, List.take_left]
theorem fldR_at {b x t : List UInt8} {u : Nat} (h : b.drop u = fieldB x ++ t) (hx : x.length ≤ 1024) : fldR b u = (x, u + (fieldB x).length, 0) := by
  unfold fldR
  rw [h, rdF_at x t hx]
theorem drop_app {b p q : List UInt8} {u : Nat} (h : b.drop u = p ++ q) : b.drop (u + p.length) = q := by
  rw [← List.drop_drop, h, List.drop_left]
theorem be8_eight (m : Int) (h0 : 0 ≤ m) (h1 : m < 18446744073709551616) : (be8 (eightB m) : Int) = m := by
  have e7 := sh8_toNat m 56
  have e6 := sh8_toNat m 48
  have e5 := sh8_toNat m 40
  have e4 := sh8_toNat m 32
  have e3 := sh8_toNat m 24
  have e2 := sh8_toNat m 16
  have e1 := sh8_toNat m 8
  have e0 := sh8_toNat m 0
  simp only [Int.reducePow, Int.pow_zero, Int.ediv_one] at e7 e6 e5 e4 e3 e2 e1 e0
  simp only [eightB, be8, List.foldl_cons, List.foldl_nil]
  omega
theorem decP_enc (p : Pr) (hp : PrOk p) (h : predB p = true) (t : List UInt8) : decP (encP p ++ t) = (p, (encP p).length, 0) := by
  have hh := h
  cases PV.of h with
  | mask kn m hk hm =>
    have m0 := hp.m0
    have m1 := hp.m1
    simp only at m0 m1
    rw [encP_mask (by omega)]
    have h1 := numR_at (n := kn) (b := leb kn ++ eightB m ++ t) (u := 0) (t := eightB m ++ t) (by simp) (by omega)
    have h8 := eightB_len m
    have h2 : ((leb kn ++ eightB m ++ t).drop (0 + (leb kn).length)).take 8 = eightB m := by
      rw [Nat.zero_add, List.append_assoc, List.drop_left]
      exact List.take_left' h8
    unfold decP
    rw [h1]
    simp only
    rw [if_neg (by simp), if_pos (by omega), if_neg (by simp only [List.length_append]; omega), h2, be8_eight m m0 m1]
    unfold finP
    rw [if_pos hh]
    simp only [List.length_append]
    congr 2
    omega
  | span kn f g hk =>
    rw [encP_span (by omega)]
    have b1 : ((leb kn ++ (leb f ++ leb g) ++ t).drop 0) = leb kn ++ (leb f ++ (leb g ++ t)) := by simp
    have h1 := numR_at b1 (by omega)
    have b2 := drop_app b1
    have h2 := numR_at b2 (by omega)
    have b3 := drop_app b2
    have h3 := numR_at b3 (by omega)
    unfold decP
    rw [h1]
    simp only
    rw [if_neg (by simp), if_neg (by omega), if_pos (by omega), h2]
    simp only
    rw [if_neg (by simp), h3]
    simp only
    rw [if_neg (by simp)]
    unfold finP
    rw [if_pos hh]
    simp only [List.length_append]
    congr 2
    omega
  | holder n hn =>
    have hnl := nameB_len hn
    rw [encP_holder]
    have b1 : ((leb 6 ++ fieldB n ++ t).drop 0) = leb 6 ++ (fieldB n ++ t) := by simp
    have h1 := numR_at b1 (by omega)
    have b2 := drop_app b1
    have h2 := fldR_at b2 (by omega)
    unfold decP
    rw [h1]
    simp only
    rw [if_neg (by simp), if_neg (by decide), if_neg (by decide), if_pos trivial, h2]
    simp only
    rw [if_neg (by simp)]
    unfold finP
    rw [if_pos hh]
    simp only [List.length_append]
    congr 2
    omega
  | rides x hx =>
    rw [encP_rides]
    have b1 : ((leb 7 ++ leb x ++ t).drop 0) = leb 7 ++ (leb x ++ t) := by simp
    have h1 := numR_at b1 (by omega)
    have b2 := drop_app b1
    have h2 := numR_at b2 (by omega)
    unfold decP
    rw [h1]
    simp only
    rw [if_neg (by simp), if_neg (by decide), if_neg (by decide), if_neg (by decide), if_pos trivial, h2]
    simp only
    rw [if_neg (by simp)]
    unfold finP
    rw [if_pos hh]
    simp only [List.length_append]
    congr 2
    omega
theorem predR_at {b t : List UInt8} {u : Nat} {p : Pr} (h : b.drop u = encP p ++ t) (hp : PrOk p) (hb : predB p = true) : predR b u = (p, u + (encP p).length, 0) := by
  unfold predR
  rw [h, decP_enc p hp hb t]
theorem leb1 : leb 1 = [1] := leb_small (by decide)
theorem leb2 : leb 2 = [2] := leb_small (by decide)
theorem fldO_0 (b : List UInt8) (u : Nat) : fldO b u 0 = fldR b u := by unfold fldO; rw [if_neg (by simp)]
theorem decC_enc (c : Ca) (hp : PrOk c.first) (h : cavB c = true) (t : List UInt8) : decC (encC c ++ t) = (c, (encC c).length, 0) := by
  have hh := h
  cases CV.of h with
  | first p hpb =>
    have he : encC ⟨false, p, 0, [], []⟩ = leb 1 ++ encP p := by rw [leb1]; rfl
    rw [he]
    have b1 : ((leb 1 ++ encP p ++ t).drop 0) = leb 1 ++ (encP p ++ t) := by simp
    have h1 := numR_at b1 (by omega)
    have b2 := drop_app b1
    have h2 := predR_at b2 hp hpb
    unfold decC
    rw [h1]
    simp only
    rw [if_neg (by simp), if_pos trivial, h2]
    simp only
    rw [if_neg (by simp)]
    unfold finC
    rw [if_pos hh]
    simp only [List.length_append]
    congr 2
    omega
  | third n hn tk bx ht hb =>
    have he : encC ⟨true, zeroPr, n, tk, bx⟩ = leb 2 ++ (leb n ++ (fieldB tk ++ fieldB bx)) := by rw [leb2]; rfl
    rw [he]
    have b1 : ((leb 2 ++ (leb n ++ (fieldB tk ++ fieldB bx)) ++ t).drop 0) = leb 2 ++ (leb n ++ (fieldB tk ++ (fieldB bx ++ t))) := by simp
    have h1 := numR_at b1 (by omega)
    have b2 := drop_app b1
    have h2 := numR_at b2 (by omega)
    have b3 := drop_app b2
    have h3 := fldR_at b3 ht.2
    have b4 := drop_app b3
    have h4 := fldR_at b4 hb.2
    unfold decC
    rw [h1]
    simp only
    rw [if_neg (by simp), if_neg (by decide), if_pos trivial, h2]
    simp only
    rw [fldO_0, h3]
    simp only
    rw [fldO_0, h4]
    simp only
    rw [if_neg (by simp)]
    unfold finC
    rw [if_pos hh]
    simp only [List.length_append]
    congr 2
    omega
/-! ### What is read is written so -/
theorem numR_ok {b : List UInt8} {u n v : Nat} (h : numR b u = (n, v, 0)) : ∃ q, rdS (b.drop u) = (n, q, 0) ∧ v = u + q ∧ q ≤ (b.drop u).length ∧ leb n = (b.drop u).take q := by
  unfold numR at h
  obtain ⟨⟨n', q, e⟩, hR⟩ : ∃ R, rdS (b.drop u) = R := ⟨_, rfl⟩
  rw [hR] at h
  simp only [Prod.mk.injEq] at h
  obtain ⟨rfl, rfl, rfl⟩ := h
  obtain ⟨_, h2, h3⟩ := rdS_ok _ hR
  exact ⟨q, hR, rfl, h2, h3⟩
theorem rdF_ok {b x : List UInt8} {q : Nat} (h : rdF b = (x, q, 0)) : q ≤ b.length ∧ fieldB x = b.take q ∧ x.length ≤ 1024 := by
  obtain ⟨⟨n, u, e⟩, hR⟩ : ∃ R, rdS b = R := ⟨_, rfl⟩
  unfold rdF at h
  rw [hR] at h
  simp only at h
  by_cases he : e ≠ 0
  · rw [if_pos he] at h
    simp only [Prod.mk.injEq] at h
    exact absurd h.2.2 he
  obtain rfl : e = 0 := by omega
  obtain ⟨h1, h2, h3⟩ := rdS_ok _ hR
  rw [if_neg he] at h
  by_cases hn : 1024 < n
  · rw [if_pos hn] at h; simp at h
  rw [if_neg hn] at h
  by_cases hs : b.length - u < n
  · rw [if_pos hs] at h; simp at h
  rw [if_neg hs] at h
  simp only [Prod.mk.injEq] at h
  obtain ⟨rfl, rfl, _⟩ := h
  have hl : ((b.drop u).take n).length = n := by rw [List.length_take, List.length_drop]; omega
  refine ⟨by omega, ?_, by omega⟩
  rw [fieldB, hl, h3, List.take_add]
theorem fldR_ok {b x : List UInt8} {u v : Nat} (h : fldR b u = (x, v, 0)) : ∃ q, v = u + q ∧ q ≤ (b.drop u).length ∧ fieldB x = (b.drop u).take q ∧ x.length ≤ 1024 := by
  unfold fldR at h
  obtain ⟨⟨n', q, e⟩, hR⟩ : ∃ R, rdF (b.drop u) = R := ⟨_, rfl⟩
  rw [hR] at h
  simp only [Prod.mk.injEq] at h
  obtain ⟨rfl, rfl, rfl⟩ := h
  obtain ⟨h1, h2, h3⟩ := rdF_ok hR
  exact ⟨q, rfl, h1, h2, h3⟩
theorem take_join {b : List UInt8} {u q : Nat} : b.take u ++ (b.drop u).take q = b.take (u + q) := by rw [List.take_add]
theorem finP_ok2 {p q : Pr} {u n : Nat} (h : finP p u = (q, n, 0)) : predB q = true ∧ q = p ∧ n = u := by
  unfold finP at h
  split at h
  · rename_i hb
    simp only [Prod.mk.injEq, and_true] at h
    obtain ⟨rfl, rfl⟩ := h
    exact ⟨hb, rfl, rfl⟩
  · simp at h
set_option maxHeartbeats 2000000 in
theorem eight_be8 (L : List UInt8) (h : L.length = 8) : eightB (be8 L : Int) = L := by
  obtain ⟨a, b, c, d, e, f, g, i, rfl⟩ : ∃ a b c d e f g i, L = [a, b, c, d, e, f, g, i] := by
    match L, h with
    | [a, b, c, d, e, f, g, i], _ => exact ⟨a, b, c, d, e, f, g, i, rfl⟩
  have ha := a.toNat_lt
  have hb := b.toNat_lt
  have hc := c.toNat_lt
  have hd := d.toNat_lt
  have he := e.toNat_lt
  have hf := f.toNat_lt
  have hg := g.toNat_lt
  have hi := i.toNat_lt
  obtain ⟨m, hm⟩ : ∃ m : Int, ((be8 [a, b, c, d, e, f, g, i] : Nat) : Int) = m := ⟨_, rfl⟩
  rw [hm]
  simp only [be8, List.foldl_cons, List.foldl_nil] at hm
  have d7 : m / 72057594037927936 % 256 = a.toNat := by omega
  have d6 : m / 281474976710656 % 256 = b.toNat := by omega
  have d5 : m / 1099511627776 % 256 = c.toNat := by omega
  have d4 : m / 4294967296 % 256 = d.toNat := by omega
  have d3 : m / 16777216 % 256 = e.toNat := by omega
  have d2 : m / 65536 % 256 = f.toNat := by omega
  have d1 : m / 256 % 256 = g.toNat := by omega
  have d0 : m % 256 = i.toNat := by omega
  have e7 := sh8_toNat m 56
  have e6 := sh8_toNat m 48
  have e5 := sh8_toNat m 40
  have e4 := sh8_toNat m 32
  have e3 := sh8_toNat m 24
  have e2 := sh8_toNat m 16
  have e1 := sh8_toNat m 8
  have e0 := sh8_toNat m 0
  simp only [Int.reducePow, Int.pow_zero, Int.ediv_one] at e7 e6 e5 e4 e3 e2 e1 e0
  rw [d7] at e7
  rw [d6] at e6
  rw [d5] at e5
  rw [d4] at e4
  rw [d3] at e3
  rw [d2] at e2
  rw [d1] at e1
  rw [d0] at e0
  have key : ∀ x y : UInt8, (x.toNat : Int) = (y.toNat : Int) → x = y := fun x y h => UInt8.toNat_inj.1 (by exact_mod_cast h)
  unfold eightB
  rw [key (sh8 m 56) a e7, key (sh8 m 48) b e6, key (sh8 m 40) c e5, key (sh8 m 32) d e4, key (sh8 m 24) e e3, key (sh8 m 16) f e2, key (sh8 m 8) g e1, key (sh8 m 0) i e0]
theorem decP_uniq {b : List UInt8} {p : Pr} {n : Nat} (h : decP b = (p, n, 0)) : predB p = true ∧ encP p = b.take n ∧ n ≤ b.length := by
  obtain ⟨⟨kn, u, e⟩, hR⟩ : ∃ R, numR b 0 = R := ⟨_, rfl⟩
  unfold decP at h
  rw [hR] at h
  simp only at h
  by_cases he : e ≠ 0
  · rw [if_pos he] at h
    simp only [Prod.mk.injEq] at h
    exact absurd h.2.2 he
  obtain rfl : e = 0 := by omega
  rw [if_neg he] at h
  obtain ⟨q, _, hu, hq, hleb⟩ := numR_ok hR
  rw [List.drop_zero] at hq hleb
  rw [Nat.zero_add] at hu
  subst hu
  by_cases hk : kn = 1 ∨ kn = 2 ∨ kn = 3
  · rw [if_pos hk] at h
    by_cases hs : b.length - u < 8
    · rw [if_pos hs] at h; simp at h
    rw [if_neg hs] at h
    obtain ⟨h1, rfl, rfl⟩ := finP_ok2 h
    refine ⟨h1, ?_, by omega⟩
    rw [encP_mask hk, eight_be8 _ (by rw [List.length_take, List.length_drop]; omega), hleb, take_join]
  rw [if_neg hk] at h
  by_cases hk4 : kn = 4 ∨ kn = 5
  · rw [if_pos hk4] at h
    obtain ⟨⟨f, u2, e2⟩, hR2⟩ : ∃ R, numR b u = R := ⟨_, rfl⟩
    rw [hR2] at h
    simp only at h
    by_cases he2 : e2 ≠ 0
    · rw [if_pos he2] at h
      simp only [Prod.mk.injEq] at h
      exact absurd h.2.2 he2
    obtain rfl : e2 = 0 := by omega
    rw [if_neg he2] at h
    obtain ⟨q2, _, hu2, hq2, hleb2⟩ := numR_ok hR2
    subst hu2
    obtain ⟨⟨g, u3, e3⟩, hR3⟩ : ∃ R, numR b (u + q2) = R := ⟨_, rfl⟩
    rw [hR3] at h
    simp only at h
    by_cases he3 : e3 ≠ 0
    · rw [if_pos he3] at h
      simp only [Prod.mk.injEq] at h
      exact absurd h.2.2 he3
    obtain rfl : e3 = 0 := by omega
    rw [if_neg he3] at h
    obtain ⟨q3, _, hu3, hq3, hleb3⟩ := numR_ok hR3
    subst hu3
    obtain ⟨h1, rfl, rfl⟩ := finP_ok2 h
    rw [List.length_drop] at hq2 hq3
    refine ⟨h1, ?_, by omega⟩
    rw [encP_span hk4, hleb, hleb2, hleb3, ← List.append_assoc, take_join, take_join]
  rw [if_neg hk4] at h
  by_cases hk6 : kn = 6
  · subst hk6
    rw [if_pos rfl] at h
    obtain ⟨⟨f, u2, e2⟩, hR2⟩ : ∃ R, fldR b u = R := ⟨_, rfl⟩
    rw [hR2] at h
    simp only at h
    by_cases he2 : e2 ≠ 0
    · rw [if_pos he2] at h
      simp only [Prod.mk.injEq] at h
      exact absurd h.2.2 he2
    obtain rfl : e2 = 0 := by omega
    rw [if_neg he2] at h
    obtain ⟨q2, hu2, hq2, hleb2, _⟩ := fldR_ok hR2
    subst hu2
    obtain ⟨h1, rfl, rfl⟩ := finP_ok2 h
    rw [List.length_drop] at hq2
    refine ⟨h1, ?_, by omega⟩
    rw [encP_holder, hleb, hleb2, take_join]
  rw [if_neg hk6] at h
  by_cases hk7 : kn = 7
  · subst hk7
    rw [if_pos rfl] at h
    obtain ⟨⟨f, u2, e2⟩, hR2⟩ : ∃ R, numR b u = R := ⟨_, rfl⟩
    rw [hR2] at h
    simp only at h
    by_cases he2 : e2 ≠ 0
    · rw [if_pos he2] at h
      simp only [Prod.mk.injEq] at h
      exact absurd h.2.2 he2
    obtain rfl : e2 = 0 := by omega
    rw [if_neg he2] at h
    obtain ⟨q2, _, hu2, hq2, hleb2⟩ := numR_ok hR2
    subst hu2
    obtain ⟨h1, rfl, rfl⟩ := finP_ok2 h
    rw [List.length_drop] at hq2
    refine ⟨h1, ?_, by omega⟩
    rw [encP_rides, hleb, hleb2, take_join]
  rw [if_neg hk7] at h
  simp at h
theorem finC_ok2 {p q : Ca} {u n : Nat} (h : finC p u = (q, n, 0)) : cavB q = true ∧ q = p ∧ n = u := by
  unfold finC at h
  split at h
  · rename_i hb
    simp only [Prod.mk.injEq, and_true] at h
    obtain ⟨rfl, rfl⟩ := h
    exact ⟨hb, rfl, rfl⟩
  · simp at h
theorem decC_uniq {b : List UInt8} {c : Ca} {n : Nat} (h : decC b = (c, n, 0)) : cavB c = true ∧ encC c = b.take n ∧ n ≤ b.length := by
  obtain ⟨⟨kn, u, e⟩, hR⟩ : ∃ R, numR b 0 = R := ⟨_, rfl⟩
  unfold decC at h
  rw [hR] at h
  simp only at h
  by_cases he : e ≠ 0
  · rw [if_pos he] at h
    simp only [Prod.mk.injEq] at h
    exact absurd h.2.2 he
  obtain rfl : e = 0 := by omega
  rw [if_neg he] at h
  obtain ⟨q, _, hu, hq, hleb⟩ := numR_ok hR
  rw [List.drop_zero] at hq hleb
  rw [Nat.zero_add] at hu
  subst hu
  by_cases hk : kn = 1
  · subst hk
    rw [if_pos rfl] at h
    obtain ⟨⟨p, u2, e2⟩, hR2⟩ : ∃ R, predR b u = R := ⟨_, rfl⟩
    rw [hR2] at h
    simp only at h
    by_cases he2 : e2 ≠ 0
    · rw [if_pos he2] at h
      simp only [Prod.mk.injEq] at h
      exact absurd h.2.2 he2
    obtain rfl : e2 = 0 := by omega
    rw [if_neg he2] at h
    obtain ⟨h1, rfl, rfl⟩ := finC_ok2 h
    unfold predR at hR2
    obtain ⟨⟨p', q2, e'⟩, hD⟩ : ∃ R, decP (b.drop u) = R := ⟨_, rfl⟩
    rw [hD] at hR2
    simp only [Prod.mk.injEq] at hR2
    obtain ⟨rfl, rfl, rfl⟩ := hR2
    obtain ⟨k1, k2, k3⟩ := decP_uniq hD
    rw [List.length_drop] at k3
    refine ⟨h1, ?_, by omega⟩
    have he : encC ⟨false, p', 0, [], []⟩ = leb 1 ++ encP p' := by rw [leb1]; rfl
    rw [he, hleb, k2, take_join]
  rw [if_neg hk] at h
  by_cases hk2 : kn = 2
  · subst hk2
    rw [if_pos rfl] at h
    obtain ⟨⟨m, u2, e2⟩, hR2⟩ : ∃ R, numR b u = R := ⟨_, rfl⟩
    rw [hR2] at h
    simp only at h
    obtain ⟨⟨t, u3, e3⟩, hR3⟩ : ∃ R, fldO b u2 e2 = R := ⟨_, rfl⟩
    rw [hR3] at h
    simp only at h
    obtain ⟨⟨x, u4, e4⟩, hR4⟩ : ∃ R, fldO b u3 e3 = R := ⟨_, rfl⟩
    rw [hR4] at h
    simp only at h
    by_cases he4 : e4 ≠ 0
    · rw [if_pos he4] at h
      simp only [Prod.mk.injEq] at h
      exact absurd h.2.2 he4
    obtain rfl : e4 = 0 := by omega
    rw [if_neg he4] at h
    have e30 : e3 = 0 := fldO_e (b := b) (u := u3) (by rw [hR4])
    subst e30
    have e20 : e2 = 0 := fldO_e (b := b) (u := u2) (by rw [hR3])
    subst e20
    rw [fldO_0] at hR3 hR4
    obtain ⟨q2, _, hu2, hq2, hl2⟩ := numR_ok hR2
    subst hu2
    obtain ⟨q3, hu3, hq3, hl3, _⟩ := fldR_ok hR3
    subst hu3
    obtain ⟨q4, hu4, hq4, hl4, _⟩ := fldR_ok hR4
    subst hu4
    obtain ⟨h1, rfl, rfl⟩ := finC_ok2 h
    rw [List.length_drop] at hq2 hq3 hq4
    refine ⟨h1, ?_, by omega⟩
    have he : encC ⟨true, zeroPr, m, t, x⟩ = leb 2 ++ (leb m ++ (fieldB t ++ fieldB x)) := by rw [leb2]; rfl
    rw [he, hleb, hl2, hl3, hl4, ← List.append_assoc, ← List.append_assoc, take_join, take_join, take_join]
  rw [if_neg hk2] at h
  simp at h
theorem encC_inj {c d : Ca} (hc : cavB c = true) (hd : cavB d = true) (pc : PrOk c.first) (pd : PrOk d.first) (h : encC c = encC d) : c = d := by
  have h1 := decC_enc c pc hc []
  have h2 := decC_enc d pd hd []
  rw [h, h2] at h1
  exact ((Prod.mk.injEq _ _ _ _).mp h1).1.symm
end Go.Proofs.YtaelnglalpiemaaDoor

/- The laws CaveatBack and CaveatUnique. -/
namespace Go.Proofs.YtaelnglalpiemaaDoor
open Go.Ab
attribute [local irreducible] Go.Ab.tyAV Go.Ab.aw Go.Ab.aops Go.Ab.kReg Go.Ab.aThen Go.Ab.aBlk Go.Ab.acond Go.Ab.aguard Go.Ab.astep Go.Ab.AStepX Go.Ab.aRet

theorem caveatBack_core (deck : List Int) (hd : deck.length ≤ 9223372036854775807) (tail0 t : List UInt8) (m1 : Nat) (h1 : (if (30 : Int) < (tail0.length : Int) then (30 : Int) else (tail0.length : Int)) = (m1 : Int)) (h2 : m1 ≤ tail0.length) (h3 : m1 ≤ 30) (h4 : t.length = m1) (h5 : (tail0.map byteAV).take m1 = t.map byteAV) (d k : Nat) :
    ACall Tryd.prog 9 [.slice none (deck.map intAV), .slice none (tail0.map byteAV)] k [(d, bitsG)] (.lit (.bool true)) [] := by
  have a1 := New_spec deck
  obtain ⟨x, j1, x1, x2, x3, d1, a2⟩ := Caveat_ex deck 0 ⟨hd, Nat.zero_le _⟩
  have a3 := cEnc_ok x x2 x1 d
  have hdec := decC_enc x x2 x1 t
  have l2 := encC_len x x1
  generalize encC x = b at *
  have a4 := cDec_spec (b ++ t) (by simp; omega) d
  rw [hdec] at a4
  have a5 := refSame_cav [x] [x] (by simp [x3]) (by simp [x3]) (by simp) (by simp)
  rw [decide_eq_true rfl] at a5
  simp only [List.map_cons, List.map_nil, decCAV] at a4 a5
  have a6 := awake12_spec d
  have happ := append_bytes b t
  generalize b ++ t = bt at *
  clear hdec x1 x2 x3 d1
  refine ACall.of_body mixed Tryd.func9 rfl (by kernel_rfl) Tryd.ntmps9 (by kernel_rfl) rfl (by simp) (by simp) (by simp) fun σ N hp hpn hk hkn hfree => ?_
  have hd := hp _ (List.mem_singleton.2 rfl); have hdn := hpn _ (List.mem_singleton.2 rfl); simp only at hd hdn; clear hp hpn
  have hcs := And.intro a1 (And.intro (a2 (N + 2)) (And.intro a3 (And.intro a4 (And.intro a5 (And.intro a6 True.intro)))))
  clear a1 a2 a3 a4 a5 a6
  exact W0
theorem CaveatBack_spec (deck : List Int) (_ : ∀ n ∈ deck, (Lit.int .i64 n).wf = true) (hd : deck.length ≤ 9223372036854775807) (tail : List UInt8) (d k : Nat) :
    ACall Tryd.prog 9 [.slice none (deck.map intAV), .slice none (tail.map byteAV)] k [(d, bitsG)] (.lit (.bool true)) [] := by
  obtain ⟨m, t, q1, q2, q3, q4, q5⟩ := cutAt 30 tail
  exact caveatBack_core deck hd tail t m q1 q2 q3 q4 q5 d k

theorem finC_pr (c : Ca) (u : Nat) (h : PrOk c.first) : PrOk (finC c u).1.first := by
  unfold finC
  split
  · exact h
  · exact zeroPr_ok
theorem decC_pr (b : List UInt8) : PrOk (decC b).1.first := by
  have hu := numR_le (b := b) (u := 0) (Nat.zero_le _)
  unfold decC
  split
  · exact zeroPr_ok
  split
  · split
    · exact zeroPr_ok
    · exact finC_pr _ _ (predR_ok hu).1
  split
  · simp only
    split
    · exact zeroPr_ok
    · exact finC_pr _ _ zeroPr_ok
  · exact zeroPr_ok
set_option maxHeartbeats 8000000 in
theorem caveatUnique_core (raw0 raw : List UInt8) (m1 : Nat) (h1 : (if (100 : Int) < (raw0.length : Int) then (100 : Int) else (raw0.length : Int)) = (m1 : Int)) (h2 : m1 ≤ raw0.length) (h3 : m1 ≤ 100) (h4 : raw.length = m1) (h5 : (raw0.map byteAV).take m1 = raw.map byteAV)
    (deck other : List Int) (hd : deck.length ≤ 9223372036854775807) (ho : other.length ≤ 9223372036854775807) (at_ : Int) (xb : UInt8) (d k : Nat) :
    ACall Tryd.prog 10 [.slice none (raw0.map byteAV), .slice none (deck.map intAV), .slice none (other.map intAV), .lit (.int .i64 at_), byteAV xb] k [(d, bitsG)] (.lit (.bool true)) [] := by
  have a1 := New_spec deck
  obtain ⟨x, j1, x1, x2, x3, d1, a2⟩ := Caveat_ex deck 0 ⟨hd, Nat.zero_le _⟩
  have a3 := New_spec other
  obtain ⟨z, j2, z1, z2, z3, d2, a4⟩ := Caveat_ex other 0 ⟨ho, Nat.zero_le _⟩
  have a5 := cEnc_ok x x2 x1 d
  have a6 := cEnc_ok z z2 z1 d
  have l1 := encC_len x x1
  have l2 := encC_len z z1
  have heq : decide (encC x = encC z) = decide ([x] = [z]) := by
    by_cases h : x = z
    · subst h; simp
    · have : encC x ≠ encC z := fun e => h (encC_inj x1 z1 x2 z2 e)
      simp [h, this]
  have a7 := Same_spec (encC x) (encC z) (by omega)
  have a8 := refSame_cav [x] [z] (by simp [x3]) (by simp [z3]) (by simp) (by simp)
  rw [heq] at a7
  simp only [List.map_cons, List.map_nil] at a8
  generalize decide ([x] = [z]) = v at *
  generalize encC x = b at *
  generalize encC z = b' at *
  have g1 := Int.emod_nonneg at_ (show (b.length : Int) ≠ 0 by omega)
  have g2 := Int.emod_lt_of_pos at_ (show (0 : Int) < (b.length : Int) by omega)
  obtain ⟨j, hj⟩ := Int.eq_ofNat_of_zero_le g1
  have hj2 : j < b.length := by omega
  have a9 := Within_spec at_ b.length (by omega) (by omega)
  rw [hj] at a9
  have hset := set_bytes b j xb
  obtain ⟨y, hy⟩ : ∃ y, b.set j xb = y := ⟨_, rfl⟩
  have hyl : y.length = b.length := by rw [← hy]; simp
  rw [hy] at hset
  have hb0 : ((b.length : Int) == 0) = false := by rw [beq_eq_false_iff_ne]; omega
  clear heq hy g1 g2 hj x1 x2 x3 d1 z1 z2 z3 d2
  refine ACall.of_body mixed Tryd.func10 rfl (by kernel_rfl) Tryd.ntmps10 (by kernel_rfl) rfl (by simp) (by simp) (by simp) fun σ N hp hpn hk hkn hfree => ?_
  have hd := hp _ (List.mem_singleton.2 rfl); have hdn := hpn _ (List.mem_singleton.2 rfl); simp only at hd hdn; clear hp hpn
  have M : Mut (N + 45) := ⟨⟩
  have hcs := And.intro a1 (And.intro (a2 (N + 8)) (And.intro a3 (And.intro (a4 (N + 11)) (And.intro a5 (And.intro a6 (And.intro a7 (And.intro a8 (And.intro a9 True.intro))))))))
  clear a1 a2 a3 a4 a5 a6 a7 a8 a9
  repeat (first | apply go_nil | apply go_kreg | apply go_kreg0 | apply go_kreg1 | (apply go_kregT; · (first | (simp [addT, CF, CFy, Ind, DisjF]; done) | (simp only [addT, CF, CFy, Ind]; repeat' (first | exact trivial | apply And.intro | exact Or.inl (by decide +kernel) | (refine Or.inr ⟨?_, ?_⟩ <;> (simp; try omega)))))) | apply go_then | apply go_then_exit | apply go_then_ret | apply go_blk | apply go_blk_ret | apply go_blk_here | (apply go_blk_there; · rfl) | apply go_seq | apply go_skip | apply go_block | apply go_scope | apply go_label | apply go_exit | apply go_ret | (apply go_mut; (· assumption); · (simp (disch := omega) [go_sem, *, -List.reduceReplicate]; first | exact ⟨rfl, rfl⟩ | (simp [go_sem, *]; exact ⟨rfl, rfl⟩))) | (apply go_mutP; (· assumption); · (simp (disch := omega) [go_sem, *, -List.reduceReplicate]; try first | rfl | exact ⟨rfl, rfl⟩ | exact ⟨rfl, rfl, rfl⟩)) | (apply go_guard_in; (· rfl); · (simp (disch := omega) [go_sem, *, -List.reduceReplicate]; try first | rfl | omega)) | (apply go_guard_off; (· rfl); · (simp (disch := omega) [go_sem, *, -List.reduceReplicate]; try first | rfl | omega)) | (apply go_guard_no; (· rfl); · (simp (disch := omega) [go_sem, *, -List.reduceReplicate]; try rfl)) | ((first | apply go_move | apply go_assign | apply go_load | apply go_store | apply go_append | apply go_copy | apply go_copy0 | apply go_clear0 | apply go_slice3 | apply go_indexA); · (simp (disch := omega) [go_sem, *, -List.reduceReplicate]; try first | rfl | exact ⟨rfl, rfl⟩ | exact ⟨rfl, rfl, rfl⟩)) | ((first | apply go_loadv | apply go_append0 | apply go_beyond); · (simp (disch := omega) [go_sem, *, -List.reduceReplicate]; try first | rfl | exact ⟨rfl, rfl⟩ | exact ⟨rfl, rfl, rfl⟩)) | (apply go_appself; · (simp (disch := omega) [go_sem, *, -List.reduceReplicate]; try first | rfl | exact ⟨rfl, rfl⟩ | exact ⟨rfl, rfl, rfl⟩)) | ((first | (apply go_appendz; · rfl) | (apply go_new; · rfl) | (apply go_glob; · assumption) | (apply go_pure; · rfl)); · (simp (disch := omega) [go_sem, *, -List.reduceReplicate]; try first | rfl | exact ⟨rfl, rfl⟩ | exact ⟨rfl, rfl, rfl⟩)) | (apply go_read1; (· rfl); · (simp (disch := omega) [go_sem, *, -List.reduceReplicate]; try first | rfl | exact ⟨rfl, rfl⟩ | exact ⟨rfl, rfl, rfl⟩)) | (apply go_rw1; (· rfl); · (simp (disch := omega) [go_sem, *, -List.reduceReplicate]; try first | rfl | exact ⟨rfl, rfl⟩ | exact ⟨rfl, rfl, rfl⟩)) | (apply go_new1; (· rfl); · (simp (disch := omega) [go_sem, *, -List.reduceReplicate]; try first | rfl | exact ⟨rfl, rfl⟩ | exact ⟨rfl, rfl, rfl⟩)) | (apply go_conv; · (simp (disch := omega) [go_sem, *, -List.reduceReplicate]; try first | rfl | exact ⟨rfl, rfl⟩ | exact ⟨rfl, rfl, rfl⟩)) | ((first | (apply go_new; · rfl) | (apply go_pure; · rfl)); · (simp (disch := omega) [go_sem, *, -List.reduceReplicate]; simp [go_sem, *]; try first | rfl | exact ⟨rfl, rfl⟩)) | (apply go_condT; · (simp (disch := omega) [go_sem, *, -List.reduceReplicate]; try first | rfl | omega; done)) | (apply go_condF; · (simp (disch := omega) [go_sem, *, -List.reduceReplicate]; try first | rfl | omega; done)) | (obtain ⟨hcall, hcs⟩ := hcs; refine go_callw (hcall _) (by simp (disch := omega) [go_sem, *, -List.reduceReplicate]; try rfl) (by simp (disch := omega) [go_sem, *, -List.reduceReplicate]; repeat' first | exact ALe.nil | exact AV.le_refl _ | exact AV.le_nils | exact AV.le_own _ _ | apply ALe.cons | apply AV.sub_agg) (by simp (disch := omega) [go_sem, *, -List.reduceReplicate]) ?_; clear hcall))
  iterate 8 ((apply go_region; (· (simp only [List.length_cons, List.length_nil, Nat.reduceAdd, Nat.add_assoc]; rfl))); repeat (first | apply go_nil | apply go_kreg | apply go_kreg0 | apply go_kreg1 | (apply go_kregT; · (first | (simp [addT, CF, CFy, Ind, DisjF]; done) | (simp only [addT, CF, CFy, Ind]; repeat' (first | exact trivial | apply And.intro | exact Or.inl (by decide +kernel) | (refine Or.inr ⟨?_, ?_⟩ <;> (simp; try omega)))))) | apply go_then | apply go_then_exit | apply go_then_ret | apply go_blk | apply go_blk_ret | apply go_blk_here | (apply go_blk_there; · rfl) | apply go_seq | apply go_skip | apply go_block | apply go_scope | apply go_label | apply go_exit | apply go_ret | (apply go_mut; (· assumption); · (simp (disch := omega) [go_sem, *, -List.reduceReplicate]; first | exact ⟨rfl, rfl⟩ | (simp [go_sem, *]; exact ⟨rfl, rfl⟩))) | (apply go_mutP; (· assumption); · (simp (disch := omega) [go_sem, *, -List.reduceReplicate]; try first | rfl | exact ⟨rfl, rfl⟩ | exact ⟨rfl, rfl, rfl⟩)) | (apply go_guard_in; (· rfl); · (simp (disch := omega) [go_sem, *, -List.reduceReplicate]; try first | rfl | omega)) | (apply go_guard_off; (· rfl); · (simp (disch := omega) [go_sem, *, -List.reduceReplicate]; try first | rfl | omega)) | (apply go_guard_no; (· rfl); · (simp (disch := omega) [go_sem, *, -List.reduceReplicate]; try rfl)) | ((first | apply go_move | apply go_assign | apply go_load | apply go_store | apply go_append | apply go_copy | apply go_copy0 | apply go_clear0 | apply go_slice3 | apply go_indexA); · (simp (disch := omega) [go_sem, *, -List.reduceReplicate]; try first | rfl | exact ⟨rfl, rfl⟩ | exact ⟨rfl, rfl, rfl⟩)) | ((first | apply go_loadv | apply go_append0 | apply go_beyond); · (simp (disch := omega) [go_sem, *, -List.reduceReplicate]; try first | rfl | exact ⟨rfl, rfl⟩ | exact ⟨rfl, rfl, rfl⟩)) | (apply go_appself; · (simp (disch := omega) [go_sem, *, -List.reduceReplicate]; try first | rfl | exact ⟨rfl, rfl⟩ | exact ⟨rfl, rfl, rfl⟩)) | ((first | (apply go_appendz; · rfl) | (apply go_new; · rfl) | (apply go_glob; · assumption) | (apply go_pure; · rfl)); · (simp (disch := omega) [go_sem, *, -List.reduceReplicate]; try first | rfl | exact ⟨rfl, rfl⟩ | exact ⟨rfl, rfl, rfl⟩)) | (apply go_read1; (· rfl); · (simp (disch := omega) [go_sem, *, -List.reduceReplicate]; try first | rfl | exact ⟨rfl, rfl⟩ | exact ⟨rfl, rfl, rfl⟩)) | (apply go_rw1; (· rfl); · (simp (disch := omega) [go_sem, *, -List.reduceReplicate]; try first | rfl | exact ⟨rfl, rfl⟩ | exact ⟨rfl, rfl, rfl⟩)) | (apply go_new1; (· rfl); · (simp (disch := omega) [go_sem, *, -List.reduceReplicate]; try first | rfl | exact ⟨rfl, rfl⟩ | exact ⟨rfl, rfl, rfl⟩)) | (apply go_conv; · (simp (disch := omega) [go_sem, *, -List.reduceReplicate]; try first | rfl | exact ⟨rfl, rfl⟩ | exact ⟨rfl, rfl, rfl⟩)) | ((first | (apply go_new; · rfl) | (apply go_pure; · rfl)); · (simp (disch := omega) [go_sem, *, -List.reduceReplicate]; simp [go_sem, *]; try first | rfl | exact ⟨rfl, rfl⟩)) | (apply go_condT; · (simp (disch := omega) [go_sem, *, -List.reduceReplicate]; try first | rfl | omega; done)) | (apply go_condF; · (simp (disch := omega) [go_sem, *, -List.reduceReplicate]; try first | rfl | omega; done)) | (obtain ⟨hcall, hcs⟩ := hcs; refine go_callw (hcall _) (by simp (disch := omega) [go_sem, *, -List.reduceReplicate]; try rfl) (by simp (disch := omega) [go_sem, *, -List.reduceReplicate]; repeat' first | exact ALe.nil | exact AV.le_refl _ | exact AV.le_nils | exact AV.le_own _ _ | apply ALe.cons | apply AV.sub_agg) (by simp (disch := omega) [go_sem, *, -List.reduceReplicate]) ?_; clear hcall)))
  refine go_freeze 17 (id := N + 45) (ver := 1) (size := 1) (e := 5) (xs := y.map byteAV) (k := b.length) (by simp (disch := omega) [go_sem, *, -List.reduceReplicate]) (by simp (disch := omega) [go_sem, *, -List.reduceReplicate]) (by simp (disch := omega) [go_sem, *, -List.reduceReplicate]) ?_
  clear M
  refine Wk ?_
  refine go_loopLF [0] mixed (by kernel_rfl) [0, 10, 18, 19, 20, 21, 22, 23, 69, 70, 71, 72, 73, 74, 75, 76, 77, 78, 79, 80, 81, 82, 83, 84, 85, 86, 87, 88, 89, 90, 91, 92, 93, 94, 95, 96, 97, 98, 99, 100, 101, 102, 103, 104] [] (by decide) (fun m_ s_ σ_ n_ => ∃ (i : Nat) (w : List UInt8), m_ = 2 - i ∧ s_ 18 = .lit (.int .i64 i) ∧ s_ 0 = .slice none (w.map byteAV) ∧ (i ≤ 2) ∧ (i = 0 ∧ w = raw ∨ 1 ≤ i ∧ w = y)) ⟨_, 0, raw, rfl, WF, WF, WC, WC⟩ ?_
  intro m_1 s_1 σ_1 n_1 hs_1 hf_1 hn_1 hI_1
  obtain ⟨i, w, hm_1, h1_18, h1_0, hi, hw⟩ := hI_1
  have h1_17 := (hs_1.at 17 (by decide)).trans WE
  have hlow : ∀ id, id < N → σ_1 id = σ id := fun id hid => (hf_1.at id (by omega) WQ).trans WH
  have hwl : w.length ≤ 3000 := by rcases hw with ⟨_, rfl⟩ | ⟨_, rfl⟩ <;> omega
  by_cases hi2 : i = 2
  · subst hi2
    have hcs := And.intro (awake12_spec d) True.intro
    exact W0
  · have hil : (i : Int) < 2 := by omega
    have hi1 : 1 ≤ i + 1 := by omega
    have q1 := cDec_spec w (by omega) d
    have q2 := decC_pr w
    have q3 : ∀ (c : Ca) (n : Nat), decC w = (c, n, 0) → cavB c = true ∧ encC c = w.take n ∧ n ≤ w.length := fun c n h => decC_uniq h
    generalize decC w = R at *
    obtain ⟨p, n, e⟩ := R
    simp only [decCAV] at q1 q2
    have q4 := cEnc_spec p q2 d
    by_cases he : e = 0
    · subst he
      obtain ⟨k1, k2, k3⟩ := q3 p n rfl
      have hS : encS p = (w.take n, 0) := by unfold encS; rw [if_pos k1, k2]
      rw [hS] at q4
      simp only [encAV] at q4
      have q5 := Same_spec (w.take n) (w.take n) (by rw [List.length_take]; omega)
      rw [decide_eq_true rfl] at q5
      have htk : (w.map byteAV).take n = (w.take n).map byteAV := by rw [List.map_take]
      have hng : ¬ (w.length : Int) < (n : Int) := by omega
      generalize w.take n = wn at *
      have hcs := And.intro q1 (And.intro q4 (And.intro q5 True.intro))
      clear q1 q2 q3 q4 q5 hS hw
      refine Wk ?_
      exact ⟨WS, WG, WN, _, (show 2 - (i + 1) < m_1 by omega), i + 1, y, rfl, WF, WF, WC, WC⟩
    · have he' : ((e : Int) == 0) = false := by rw [beq_eq_false_iff_ne]; omega
      generalize encS p = S at *
      obtain ⟨s1, s2⟩ := S
      simp only [encAV] at q4
      have hcs := And.intro q1 (And.intro q4 True.intro)
      clear q1 q2 q3 q4 hw
      refine Wk ?_
      exact ⟨WS, WG, WN, _, (show 2 - (i + 1) < m_1 by omega), i + 1, y, rfl, WF, WF, WC, WC⟩
theorem CaveatUnique_spec (raw : List UInt8) (deck : List Int) (_ : ∀ n ∈ deck, (Lit.int .i64 n).wf = true) (hd : deck.length ≤ 9223372036854775807) (other : List Int) (_ : ∀ n ∈ other, (Lit.int .i64 n).wf = true) (ho : other.length ≤ 9223372036854775807) (at_ x : Int) (w : (Lit.int .u8 x).wf = true) (d k : Nat) :
    ACall Tryd.prog 10 [.slice none (raw.map byteAV), .slice none (deck.map intAV), .slice none (other.map intAV), .lit (.int .i64 at_), .lit (.int .u8 x)] k [(d, bitsG)] (.lit (.bool true)) [] := by
  obtain ⟨xb, hx, _⟩ := byte_of_wf w
  rw [hx]
  obtain ⟨m, t, q1, q2, q3, q4, q5⟩ := cutAt 100 raw
  exact caveatUnique_core raw t m q1 q2 q3 q4 q5 deck other hd ho at_ xb d k
end Go.Proofs.YtaelnglalpiemaaDoor
