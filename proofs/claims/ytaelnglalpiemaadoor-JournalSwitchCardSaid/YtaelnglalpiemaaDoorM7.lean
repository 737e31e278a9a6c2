/- Texts J12, J13, joined. -/
import Derived.Test.YtaelnglalpiemaaDoorM6

/- The laws JournalKeeps and JournalSwitch. -/
namespace Go.Proofs.YtaelnglalpiemaaDoor
open Go.Ab
attribute [local irreducible] Go.Ab.tyAV Go.Ab.aw Go.Ab.aops Go.Ab.kReg Go.Ab.aThen Go.Ab.aBlk Go.Ab.acond Go.Ab.aguard Go.Ab.astep Go.Ab.AStepX Go.Ab.aRet
attribute [local irreducible] shaG

theorem le24 {a : Nat} (h : a ≤ 5) : (a + 1) * 24 ≤ 140737488355328 := by omega
theorem le25 {a : Nat} (h : a ≤ 5) : (a + 1 + 1) * 24 ≤ 140737488355328 := by omega
theorem le6 {a b : Nat} (h : a + 6 ≤ b) : (a : Int) + 6 ≤ b := by omega
theorem nle6 {a b : Nat} (h : ¬ a + 6 ≤ b) : ¬ (a : Int) + 6 ≤ b := by omega
theorem lt_ne {a b : Nat} (h : a ≤ b) (hn : ¬ a = b) : a < b := by omega
section
variable [W : W32]
theorem jd_take {L : List (List UInt8)} (u : Nat) (hu : u < L.length) (hL : RecOk L) (hl : (frsB L).length ≤ 100000) : jAppS (jd (frsB (L.take u)) u) L[u] = (jd (frsB (L.take (u + 1))) (u + 1), 0) := by
  obtain ⟨h0, h1⟩ := hL _ (List.getElem_mem hu)
  have hle : (frsB (L.take u)).length ≤ 100000 := by
    have : frsB L = frsB (L.take u) ++ frsB (L.drop u) := by
      rw [frsB, frsB, frsB, ← List.flatMap_append, List.take_append_drop]
    rw [this, List.length_append] at hl
    omega
  rw [jApp_jd _ _ _ h0 h1 (by omega), List.take_succ_eq_append_getElem hu, frsB_snoc]
theorem frs_take (L : List (List UInt8)) (u : Nat) (hl : (frsB L).length ≤ 100000) : (frsB (L.take u)).length ≤ 100000 := by
  have : frsB L = frsB (L.take u) ++ frsB (L.drop u) := by
    rw [frsB, frsB, frsB, ← List.flatMap_append, List.take_append_drop]
  rw [this, List.length_append] at hl
  omega

set_option maxHeartbeats 8000000 in
theorem jkeeps_core (deck : List Int) (hd : deck.length ≤ 9223372036854775807) (rec0 rcd : List UInt8) (m1 : Nat) (i1 : (if (60 : Int) < (rec0.length : Int) then (60 : Int) else (rec0.length : Int)) = (m1 : Int)) (i2 : m1 ≤ rec0.length) (i3 : m1 ≤ 60) (i4 : rcd.length = m1) (i5 : (rec0.map byteAV).take m1 = rcd.map byteAV)
    (nxt0 nxt : List UInt8) (m2 : Nat) (j1 : (if (30 : Int) < (nxt0.length : Int) then (30 : Int) else (nxt0.length : Int)) = (m2 : Int)) (j2 : m2 ≤ nxt0.length) (j3 : m2 ≤ 30) (j4 : nxt.length = m2) (j5 : (nxt0.map byteAV).take m2 = nxt.map byteAV)
    (tn : Nat) (htn : tn < 256) (g k : Nat) :
    ACall Tryd.prog 5 [.slice none (deck.map intAV), .slice none (rec0.map byteAV), .slice none (nxt0.map byteAV), .lit (.int .u8 tn)] k [(g, shaG)] (.lit (.bool true)) [] := by
  have d0 : Dk deck 0 := ⟨hd, Nat.zero_le _⟩
  have c1 := New_spec deck
  have c2 := New_ref 1048576
  rw [newS_jd] at c2
  have c3 := records_spec deck 0 5 d0 (by omega)
  have l3 : (recsD deck 0 5).1.length ≤ 5 := by
    unfold recsD; rw [recsK_len]; have := nextD_lt deck 0 (5 + 1) (by omega); omega
  have r3 : RecB (recsD deck 0 5).1 := recsK_B _ _ _
  generalize recsD deck 0 5 = X at *
  obtain ⟨L, jj⟩ := X
  simp only at c2 c3 l3 r3
  have hLl := frsB_lenR r3
  have hLo := r3.ok
  -- the records
  obtain ⟨rc, hrc⟩ : ∃ rc, rcd ++ [1] = rc := ⟨_, rfl⟩
  have hrcl : rc.length = m1 + 1 := by rw [← hrc]; simp [i4]
  have hrcb : rcd.map byteAV ++ [AV.lit (.int .u8 1)] = rc.map byteAV := by rw [← hrc, List.map_append]; rfl
  obtain ⟨nx, hnx⟩ : ∃ nx, nxt ++ [2] = nx := ⟨_, rfl⟩
  have hnxl : nx.length = m2 + 1 := by rw [← hnx]; simp [j4]
  have hnxb : nxt.map byteAV ++ [AV.lit (.int .u8 2)] = nx.map byteAV := by rw [← hnx, List.map_append]; rfl
  clear hrc hnx
  -- the interrupted write
  obtain ⟨t, ht⟩ : ∃ t, tn % 80 = t := ⟨_, rfl⟩
  have et : ((tn : Int).tmod 80) = (t : Int) := by rw [Int.tmod_eq_emod_of_nonneg (by omega)]; omega
  have ht80 : t < 80 := by omega
  clear ht
  have xC : DvC (jd (frsB L) L.length) (frsB L).length L.length := jd_C _ _
  have xA := xC.A (by omega) (by omega)
  have c4 := Cut_spec (jd (frsB L) L.length) (t : Int) xA.toDvOk
  have c5 := jAppend_spec (cutS (jd (frsB L) L.length) (t : Int)) rc ((cutS_C xC).A (by omega) (by omega)) g
  obtain ⟨y, hy1, hyC, hy2, hWo, hWl⟩ := torn_law hLo rc (by omega) (by omega) (by omega) L.length t
  rw [hy1] at c5
  simp only at c5
  have c6 := jRestart_spec y (hyC.A (by omega) (by omega)) g
  rw [hy2] at c6
  have hwant : wantL L rc t = if rc.length + 6 ≤ t then L ++ [rc] else L := rfl
  have hW13 : ∀ r ∈ wantL L rc t, r.length ≤ 61 := by
    intro r hr
    rw [hwant] at hr
    split at hr
    · rcases List.mem_append.1 hr with hr | hr
      · have := (r3 r hr).2; omega
      · rw [List.mem_singleton.1 hr]; omega
    · have := (r3 r hr).2; omega
  generalize wantL L rc t = Wn at *
  have hWb := frsB_len Wn 61 hW13
  have hWb2 : (frsB Wn).length ≤ 402 := Nat.le_trans hWb (by have := Nat.mul_le_mul_right 67 (show Wn.length ≤ 6 by omega); omega)
  have zC : DvC (jd (frsB Wn) (L.length + 1)) (frsB Wn).length (L.length + 1) := jd_C _ _
  have zA := zC.A (by omega) (by omega)
  have c7 := Data_spec (jd (frsB Wn) (L.length + 1)) zA
  rw [show (jd (frsB Wn) (L.length + 1)).data = frsB Wn from rfl] at c7
  have c8 := Records_spec (frsB Wn) (by omega) g
  rw [recS_frs hWo] at c8
  simp only at c8
  have c9 := SameLists_refl Wn (by omega) (fun r hr => by have := hW13 r hr; omega)
  have c10 := jAppend_spec (jd (frsB Wn) (L.length + 1)) nx zA g
  rw [jApp_jd _ _ _ (by omega) (by omega) (by omega), ← frsB_snoc] at c10
  simp only at c10
  have hW2o := hWo.snoc (r := nx) (by omega) (by omega)
  have hW2b : (frsB (Wn ++ [nx])).length ≤ 1000 := by rw [frsB_snoc, List.length_append, frB_len]; omega
  have vC : DvC (jd (frsB (Wn ++ [nx])) (L.length + 1 + 1)) (frsB (Wn ++ [nx])).length (L.length + 1 + 1) := jd_C _ _
  have c11 := Data_spec (jd (frsB (Wn ++ [nx])) (L.length + 1 + 1)) (vC.A (by omega) (by omega))
  rw [show (jd (frsB (Wn ++ [nx])) (L.length + 1 + 1)).data = frsB (Wn ++ [nx]) from rfl] at c11
  have c12 := Records_spec (frsB (Wn ++ [nx])) (by omega) g
  rw [recS_frs hW2o] at c12
  simp only at c12
  have c13 := SameLists_refl (Wn ++ [nx]) (by simp; omega) (fun r hr => by
    rcases List.mem_append.1 hr with hr | hr
    · have := hW13 r hr; omega
    · rw [List.mem_singleton.1 hr]; omega)
  have c14 := awake19_spec g
  have hoff : (jd (frsB Wn) (L.length + 1)).off = false := rfl
  have hmapW2 : Wn.map bAV ++ [bAV nx] = (Wn ++ [nx]).map bAV := by rw [List.map_append]; rfl
  -- the loop
  have hstep : ∀ u (hu : u < L.length), jAppS (jd (frsB (L.take u)) u) L[u] = (jd (frsB (L.take (u + 1))) (u + 1), 0) := fun u hu => jd_take u hu hLo (by omega)
  have hfu : ∀ u, (frsB (L.take u)).length ≤ 100000 := fun u => frs_take L u (by omega)
  have hrcs := (bAV_def rc).symm
  have hnxs := (bAV_def nx).symm
  have hnl : (frsB (Wn ++ [nx])).length = (frsB Wn).length + (nx.length + 6) := by rw [frsB_snoc, List.length_append, frB_len]
  have hlen : (wn : List UInt8) → wn.length = wn.length := fun _ => rfl
  clear hlen
  generalize hfW : frsB Wn = fW at *
  generalize hfW2 : frsB (Wn ++ [nx]) = fW2 at *
  generalize Wn ++ [nx] = Wn2 at *
  have hx0 : jd [] 0 = jd (frsB (L.take 0)) 0 := rfl
  rw [hx0] at c2
  have hxL : jd (frsB L) L.length = jd (frsB (L.take L.length)) L.length := by rw [List.take_length]
  rw [hxL] at c4 c5
  generalize cutS (jd (frsB (L.take L.length)) L.length) (t : Int) = xcut at *
  generalize jd fW (L.length + 1) = z1 at *
  generalize jd fW2 (L.length + 1 + 1) = z2 at *
  clear hy1 hyC hy2 xC xA zC zA vC hfW hfW2 hW13 hWb hnl hW2o hW2b hWo hxL hx0
  refine ACall.of_body mixed Tryd.func5 rfl (by kernel_rfl) Tryd.ntmps5 (by kernel_rfl) rfl (by simp) (by simp) (by simp) fun σ N hp hpn hk hkn hfree => ?_
  have hd := hp _ (List.mem_singleton.2 rfl); have hdn := hpn _ (List.mem_singleton.2 rfl); simp only at hd hdn; clear hp hpn
  have hcs := And.intro c1 (And.intro c2 (And.intro (c3 (N + 21 + 1)) True.intro))
  clear c1 c2 c3 d0
  repeat (first | apply go_nil | apply go_kreg | apply go_kreg0 | apply go_kreg1 | (apply go_kregT; · (first | (simp [addT, CF, CFy, Ind, DisjF]; done) | (simp only [addT, CF, CFy, Ind]; repeat' (first | exact trivial | apply And.intro | exact Or.inl (by decide +kernel) | (refine Or.inr ⟨?_, ?_⟩ <;> (simp; try omega)))))) | apply go_then | apply go_then_exit | apply go_then_ret | apply go_blk | apply go_blk_ret | apply go_blk_here | (apply go_blk_there; · rfl) | apply go_seq | apply go_skip | apply go_block | apply go_scope | apply go_label | apply go_exit | apply go_ret | (apply go_mut; (· assumption); · (simp (disch := omega) [go_sem, *, -List.reduceReplicate]; first | exact ⟨rfl, rfl⟩ | (simp [go_sem, *]; exact ⟨rfl, rfl⟩))) | (apply go_mutP; (· assumption); · (simp (disch := omega) [go_sem, *, -List.reduceReplicate]; try first | rfl | exact ⟨rfl, rfl⟩ | exact ⟨rfl, rfl, rfl⟩)) | (apply go_guard_in; (· rfl); · (simp (disch := omega) [go_sem, *, -List.reduceReplicate]; try first | rfl | omega)) | (apply go_guard_off; (· rfl); · (simp (disch := omega) [go_sem, *, -List.reduceReplicate]; try first | rfl | omega)) | (apply go_guard_no; (· rfl); · (simp (disch := omega) [go_sem, *, -List.reduceReplicate]; try rfl)) | ((first | apply go_move | apply go_assign | apply go_load | apply go_store | apply go_append | apply go_copy | apply go_copy0 | apply go_clear0 | apply go_slice3 | apply go_indexA); · (simp (disch := omega) [go_sem, *, -List.reduceReplicate]; try first | rfl | exact ⟨rfl, rfl⟩ | exact ⟨rfl, rfl, rfl⟩)) | ((first | apply go_loadv | apply go_append0 | apply go_beyond); · (simp (disch := omega) [go_sem, *, -List.reduceReplicate]; try first | rfl | exact ⟨rfl, rfl⟩ | exact ⟨rfl, rfl, rfl⟩)) | (apply go_appself; · (simp (disch := omega) [go_sem, *, -List.reduceReplicate]; try first | rfl | exact ⟨rfl, rfl⟩ | exact ⟨rfl, rfl, rfl⟩)) | ((first | (apply go_appendz; · rfl) | (apply go_new; · rfl) | (apply go_pure; · rfl)); · (simp (disch := omega) [go_sem, *, -List.reduceReplicate]; try first | rfl | exact ⟨rfl, rfl⟩ | exact ⟨rfl, rfl, rfl⟩)) | ((apply go_glob; · assumption); · (simp (disch := omega) [go_sem, *, -List.reduceReplicate]; try first | rfl | exact ⟨rfl, rfl⟩ | exact ⟨rfl, rfl, rfl⟩)) | (apply go_read1; (· rfl); · (simp (disch := omega) [go_sem, *, -List.reduceReplicate]; try first | rfl | exact ⟨rfl, rfl⟩ | exact ⟨rfl, rfl, rfl⟩)) | (apply go_rw1; (· rfl); · (simp (disch := omega) [go_sem, *, -List.reduceReplicate]; try first | rfl | exact ⟨rfl, rfl⟩ | exact ⟨rfl, rfl, rfl⟩)) | (apply go_new1; (· rfl); · (simp (disch := omega) [go_sem, *, -List.reduceReplicate]; try first | rfl | exact ⟨rfl, rfl⟩ | exact ⟨rfl, rfl, rfl⟩)) | (apply go_conv; · (simp (disch := omega) [go_sem, *, -List.reduceReplicate]; try first | rfl | exact ⟨rfl, rfl⟩ | exact ⟨rfl, rfl, rfl⟩)) | ((first | (apply go_new; · rfl) | (apply go_pure; · rfl)); · (simp (disch := omega) [go_sem, *, -List.reduceReplicate]; simp [go_sem, *]; try first | rfl | exact ⟨rfl, rfl⟩)) | (apply go_condT; · (simp (disch := omega) [go_sem, *, -List.reduceReplicate]; try first | rfl | omega; done)) | (apply go_condF; · (simp (disch := omega) [go_sem, *, -List.reduceReplicate]; try first | rfl | omega; done)) | (obtain ⟨hcall, hcs⟩ := hcs; refine go_callw (hcall _) (by simp (disch := omega) [go_sem, *, -List.reduceReplicate]; try rfl) (by simp (disch := omega) [go_sem, *, -List.reduceReplicate]; repeat' first | exact ALe.nil | exact AV.le_refl _ | exact AV.le_nils | exact AV.le_own _ _ | apply ALe.cons | apply AV.sub_agg) (by simp (disch := omega) [go_sem, *, -List.reduceReplicate]) ?_; clear hcall))
  iterate 2 ((apply go_region; (· (simp only [List.length_cons, List.length_nil, Nat.reduceAdd, Nat.add_assoc]; rfl))); repeat (first | apply go_nil | apply go_kreg | apply go_kreg0 | apply go_kreg1 | (apply go_kregT; · (first | (simp [addT, CF, CFy, Ind, DisjF]; done) | (simp only [addT, CF, CFy, Ind]; repeat' (first | exact trivial | apply And.intro | exact Or.inl (by decide +kernel) | (refine Or.inr ⟨?_, ?_⟩ <;> (simp; try omega)))))) | apply go_then | apply go_then_exit | apply go_then_ret | apply go_blk | apply go_blk_ret | apply go_blk_here | (apply go_blk_there; · rfl) | apply go_seq | apply go_skip | apply go_block | apply go_scope | apply go_label | apply go_exit | apply go_ret | (apply go_mut; (· assumption); · (simp (disch := omega) [go_sem, *, -List.reduceReplicate]; first | exact ⟨rfl, rfl⟩ | (simp [go_sem, *]; exact ⟨rfl, rfl⟩))) | (apply go_mutP; (· assumption); · (simp (disch := omega) [go_sem, *, -List.reduceReplicate]; try first | rfl | exact ⟨rfl, rfl⟩ | exact ⟨rfl, rfl, rfl⟩)) | (apply go_guard_in; (· rfl); · (simp (disch := omega) [go_sem, *, -List.reduceReplicate]; try first | rfl | omega)) | (apply go_guard_off; (· rfl); · (simp (disch := omega) [go_sem, *, -List.reduceReplicate]; try first | rfl | omega)) | (apply go_guard_no; (· rfl); · (simp (disch := omega) [go_sem, *, -List.reduceReplicate]; try rfl)) | ((first | apply go_move | apply go_assign | apply go_load | apply go_store | apply go_append | apply go_copy | apply go_copy0 | apply go_clear0 | apply go_slice3 | apply go_indexA); · (simp (disch := omega) [go_sem, *, -List.reduceReplicate]; try first | rfl | exact ⟨rfl, rfl⟩ | exact ⟨rfl, rfl, rfl⟩)) | ((first | apply go_loadv | apply go_append0 | apply go_beyond); · (simp (disch := omega) [go_sem, *, -List.reduceReplicate]; try first | rfl | exact ⟨rfl, rfl⟩ | exact ⟨rfl, rfl, rfl⟩)) | (apply go_appself; · (simp (disch := omega) [go_sem, *, -List.reduceReplicate]; try first | rfl | exact ⟨rfl, rfl⟩ | exact ⟨rfl, rfl, rfl⟩)) | ((first | (apply go_appendz; · rfl) | (apply go_new; · rfl) | (apply go_pure; · rfl)); · (simp (disch := omega) [go_sem, *, -List.reduceReplicate]; try first | rfl | exact ⟨rfl, rfl⟩ | exact ⟨rfl, rfl, rfl⟩)) | ((apply go_glob; · assumption); · (simp (disch := omega) [go_sem, *, -List.reduceReplicate]; try first | rfl | exact ⟨rfl, rfl⟩ | exact ⟨rfl, rfl, rfl⟩)) | (apply go_read1; (· rfl); · (simp (disch := omega) [go_sem, *, -List.reduceReplicate]; try first | rfl | exact ⟨rfl, rfl⟩ | exact ⟨rfl, rfl, rfl⟩)) | (apply go_rw1; (· rfl); · (simp (disch := omega) [go_sem, *, -List.reduceReplicate]; try first | rfl | exact ⟨rfl, rfl⟩ | exact ⟨rfl, rfl, rfl⟩)) | (apply go_new1; (· rfl); · (simp (disch := omega) [go_sem, *, -List.reduceReplicate]; try first | rfl | exact ⟨rfl, rfl⟩ | exact ⟨rfl, rfl, rfl⟩)) | (apply go_conv; · (simp (disch := omega) [go_sem, *, -List.reduceReplicate]; try first | rfl | exact ⟨rfl, rfl⟩ | exact ⟨rfl, rfl, rfl⟩)) | ((first | (apply go_new; · rfl) | (apply go_pure; · rfl)); · (simp (disch := omega) [go_sem, *, -List.reduceReplicate]; simp [go_sem, *]; try first | rfl | exact ⟨rfl, rfl⟩)) | (apply go_condT; · (simp (disch := omega) [go_sem, *, -List.reduceReplicate]; try first | rfl | omega; done)) | (apply go_condF; · (simp (disch := omega) [go_sem, *, -List.reduceReplicate]; try first | rfl | omega; done)) | (obtain ⟨hcall, hcs⟩ := hcs; refine go_callw (hcall _) (by simp (disch := omega) [go_sem, *, -List.reduceReplicate]; try rfl) (by simp (disch := omega) [go_sem, *, -List.reduceReplicate]; repeat' first | exact ALe.nil | exact AV.le_refl _ | exact AV.le_nils | exact AV.le_own _ _ | apply ALe.cons | apply AV.sub_agg) (by simp (disch := omega) [go_sem, *, -List.reduceReplicate]) ?_; clear hcall)))
  refine go_less (x := .slice (some (N + 1)) (rc.map byteAV)) (y := .slice none (rc.map byteAV)) 1 (by simp (disch := omega) [go_sem, *, -List.reduceReplicate]) (AV.le_own _ _) ?_
  clear i1 i2 i5 j1 j2 j3 j5
  refine go_less (x := .slice (some (N + 10)) (nx.map byteAV)) (y := .slice none (nx.map byteAV)) 2 (by simp (disch := omega) [go_sem, *, -List.reduceReplicate]) (AV.le_own _ _) ?_
  refine Wk ?_
  refine go_loopF mixed (by kernel_rfl) [13, 47, 48, 49, 50, 51, 52, 53, 54, 55, 56, 57, 58, 59, 60, 61] [N+24+4] (fun m_ s_ σ_ n_ => ∃ (u : Nat), m_ = L.length - u ∧ s_ 13 = .lit (.int .i64 u) ∧ σ_ (N+24+4) = .box 49 (devAV (jd (frsB (L.take u)) u)) ∧ (u ≤ L.length)) ⟨_, 0, rfl, WF, WF, WC⟩ ?_
  intro m_1 s_1 σ_1 n_1 hs_1 hf_1 hn_1 hI_1
  obtain ⟨u, hm_1, h1_13, e1_0, hu⟩ := hI_1
  have h1_1 := (hs_1.at 1 (by decide)).trans WE
  have h1_2 := (hs_1.at 2 (by decide)).trans WE
  have h1_3 := (hs_1.at 3 (by decide)).trans WE
  have h1_8 := (hs_1.at 8 (by decide)).trans WE
  have h1_10 := (hs_1.at 10 (by decide)).trans WE
  have h1_12 := (hs_1.at 12 (by decide)).trans WE
  have k1_0 := (hf_1.at (g) (by omega) WQ).trans WE
  have hlow : ∀ id, id < N → σ_1 id = σ id := fun id hid => (hf_1.at id (by omega) WQ).trans WH
  by_cases hul : u = L.length
  · subst hul
    by_cases hf : rc.length + 6 ≤ t
    · rw [if_pos hf] at hwant
      have hmapW : L.map bAV ++ [bAV rc] = Wn.map bAV := by rw [hwant, List.map_append]; rfl
      have hfi : (rc.length : Int) + 6 ≤ t := le6 hf
      have hb24 : (L.length + 1) * 24 ≤ 140737488355328 := le24 l3
      have hb25 : (L.length + 1 + 1) * 24 ≤ 140737488355328 := le25 l3
      have hWl2 : Wn.length = L.length + 1 := by rw [hwant]; simp
      have hcs := And.intro c4 (And.intro c5 (And.intro c6 (And.intro c7 (And.intro c8 (And.intro c9 (And.intro c7 (And.intro c10 (And.intro c11 (And.intro c12 (And.intro c13 (And.intro c14 True.intro)))))))))))
      clear c4 c5 c6 c7 c8 c9 c10 c11 c12 c13 c14 hstep hwant
      exact W0
    · rw [if_neg hf] at hwant
      subst hwant
      have hfi : ¬ (rc.length : Int) + 6 ≤ t := nle6 hf
      have hfm : ¬ (m1 : Int) + 1 + 6 ≤ t := by rw [hrcl] at hfi; exact hfi
      have hb24 : (Wn.length + 1) * 24 ≤ 140737488355328 := le24 l3
      have hcs := And.intro c4 (And.intro c5 (And.intro c6 (And.intro c7 (And.intro c8 (And.intro c9 (And.intro c7 (And.intro c10 (And.intro c11 (And.intro c12 (And.intro c13 (And.intro c14 True.intro)))))))))))
      clear c4 c5 c6 c7 c8 c9 c10 c11 c12 c13 c14 hstep
      exact W0
  · have hu1 : u < L.length := lt_ne hu hul
    have hfl := hfu u
    have uC := jd_C (frsB (L.take u)) u
    have q1 := jAppend_spec (jd (frsB (L.take u)) u) L[u] (uC.A (by omega) (by omega)) g
    rw [hstep u hu1] at q1
    simp only at q1
    obtain ⟨z, hz⟩ : ∃ z, L[u] = z := ⟨_, rfl⟩
    rw [hz] at q1
    have hzb := bAV_def z
    have hcs := And.intro q1 True.intro
    clear q1 c4 c5 c6 c7 c8 c9 c10 c11 c12 c13 c14 hstep hfu hfl uC
    generalize hX : jd (frsB (L.take u)) u = X at *
    generalize hY : jd (frsB (L.take (u + 1))) (u + 1) = Y at *
    refine Wk ?_
    exact ⟨WS, WG, WN, _, (show L.length - (u + 1) < m_1 by omega), u + 1, rfl, WF, WF, WC⟩
end
theorem u8_nat {x : Int} (w : (Lit.int .u8 x).wf = true) : ∃ n : Nat, x = n ∧ n < 256 := by
  have hw : IntKind.u8.min ≤ x ∧ x ≤ IntKind.u8.max := by simpa [Lit.wf] using w
  have e1 : IntKind.u8.min = 0 := by decide
  have e2 : IntKind.u8.max = 255 := by decide
  exact ⟨x.toNat, by omega, by omega⟩
theorem JournalKeeps_spec (deck : List Int) (_ : ∀ n ∈ deck, (Lit.int .i64 n).wf = true) (hd : deck.length ≤ 9223372036854775807) (rcd nxt : List UInt8) (x : Int) (w : (Lit.int .u8 x).wf = true) (g k : Nat) :
    ACall Tryd.prog 5 [.slice none (deck.map intAV), .slice none (rcd.map byteAV), .slice none (nxt.map byteAV), .lit (.int .u8 x)] k [(g, shaG)] (.lit (.bool true)) [] := by
  obtain ⟨tn, rfl, ht⟩ := u8_nat w
  obtain ⟨m1, t1, p1, p2, p3, p4, p5⟩ := cutAt 60 rcd
  obtain ⟨m2, t2, q1, q2, q3, q4, q5⟩ := cutAt 30 nxt
  haveI := w32
  exact jkeeps_core deck hd rcd t1 m1 p1 p2 p3 p4 p5 nxt t2 m2 q1 q2 q3 q4 q5 tn ht g k
end Go.Proofs.YtaelnglalpiemaaDoor

/- The law JournalSwitch. -/
namespace Go.Proofs.YtaelnglalpiemaaDoor
open Go.Ab
attribute [local irreducible] Go.Ab.tyAV Go.Ab.aw Go.Ab.aops Go.Ab.kReg Go.Ab.aThen Go.Ab.aBlk Go.Ab.acond Go.Ab.aguard Go.Ab.astep Go.Ab.AStepX Go.Ab.aRet
attribute [local irreducible] shaG

theorem rep_C (a b : List UInt8) (w n : Nat) (ha : a.length ≤ n) (hb : b.length ≤ n) : DvC ⟨a, b, 1, 1048576, (w : Nat), 0, 0, false⟩ n w :=
  ⟨.inr rfl, by simp, by simp, ha, hb, by simp, by simp⟩
theorem rep2_C (a b : List UInt8) (w n t : Nat) (ha : a.length ≤ n) (hb : b.length ≤ n) : DvC ⟨a, b, 0, 1048576, (w : Nat), (w : Nat), (t : Nat), true⟩ n w :=
  ⟨.inl rfl, by simp, by simp, ha, hb, by simp, by simp⟩
theorem rep3_C (a b : List UInt8) (w n : Nat) (ha : a.length ≤ n) (hb : b.length ≤ n) : DvC ⟨a, b, 0, 1048576, (w : Nat), 0, 0, false⟩ n w :=
  ⟨.inl rfl, by simp, by simp, ha, hb, by simp, by simp⟩
section
variable [W : W32]
set_option maxHeartbeats 8000000 in
theorem jswitch_core (deck other : List Int) (hd : deck.length ≤ 9223372036854775807) (ho : other.length ≤ 9223372036854775807) (tn : Nat) (htn : tn < 256) (g k : Nat) :
    ACall Tryd.prog 7 [.slice none (deck.map intAV), .slice none (other.map intAV), .lit (.int .u8 tn)] k [(g, shaG)] (.lit (.bool true)) [] := by
  have d0 : Dk deck 0 := ⟨hd, Nat.zero_le _⟩
  have o0 : Dk other 0 := ⟨ho, Nat.zero_le _⟩
  have c1 := New_spec deck
  have c1o := New_spec other
  have c2 := New_ref 1048576
  rw [newS_jd] at c2
  have c3 := records_spec deck 0 5 d0 (by omega)
  have l3 : (recsD deck 0 5).1.length ≤ 5 := by
    unfold recsD; rw [recsK_len]; have := nextD_lt deck 0 (5 + 1) (by omega); omega
  have r3 : RecB (recsD deck 0 5).1 := recsK_B _ _ _
  have c3o := records_spec other 0 5 o0 (by omega)
  have l3o : (recsD other 0 5).1.length ≤ 5 := by
    unfold recsD; rw [recsK_len]; have := nextD_lt other 0 (5 + 1) (by omega); omega
  have r3o : RecB (recsD other 0 5).1 := recsK_B _ _ _
  generalize recsD deck 0 5 = X at *
  generalize recsD other 0 5 = Y at *
  obtain ⟨L, jj⟩ := X
  obtain ⟨K, ii⟩ := Y
  simp only at c2 c3 l3 r3 c3o l3o r3o
  have hLl := frsB_lenR r3
  have hLo := r3.ok
  have hKl := frsB_lenR r3o
  have hKo := r3o.ok
  have xC : DvC (jd (frsB L) L.length) (frsB L).length L.length := jd_C _ _
  have xA := xC.A (by omega) (by omega)
  have c4 := jReplace_spec (jd (frsB L) L.length) K xA (by omega) g
  rw [jRep_jd _ _ hKo (by omega)] at c4
  simp only at c4
  have yC := rep_C (frsB L) (frsB K) (L.length + 1) 100000 (by omega) (by omega)
  have yA := yC.A (by omega) (by omega)
  have c5 := Cut_spec (jd (frsB L) L.length) (tn : Int) xA.toDvOk
  have c6 := jReplace_spec (cutS (jd (frsB L) L.length) (tn : Int)) K ((cutS_C xC).A (by omega) (by omega)) (by omega) g
  obtain ⟨q, hq, hq2⟩ := jRep_cut (frsB L) L.length tn hKo (by omega)
  rw [hq2] at c6
  simp only at c6
  have zC := rep2_C (frsB L) q (L.length + 1) 100000 tn (by omega) hq
  have zA := zC.A (by omega) (by omega)
  have vC := rep3_C (frsB L) q (L.length + 1) 100000 (by omega) hq
  have vA := vC.A (by omega) (by omega)
  have c7 := Data_spec _ yA
  rw [show (Dv.mk (frsB L) (frsB K) 1 1048576 ((L.length + 1 : Nat) : Int) 0 0 false).data = frsB K from rfl] at c7
  have c8 := Records_spec (frsB K) (by omega) g
  rw [recS_frs hKo] at c8
  simp only at c8
  have c9 := jRestart_spec _ zA g
  rw [jRes_rep hLo] at c9
  have c10 := Data_spec _ vA
  rw [show (Dv.mk (frsB L) q 0 1048576 ((L.length + 1 : Nat) : Int) 0 0 false).data = frsB L from rfl] at c10
  have c11 := Records_spec (frsB L) (by omega) g
  rw [recS_frs hLo] at c11
  simp only at c11
  have c12 := SameLists_refl K (by omega) (fun r hr => by have := (r3o r hr).2; omega)
  have c13 := SameLists_refl L (by omega) (fun r hr => by have := (r3 r hr).2; omega)
  have c14 := awake19_spec g
  have hstep : ∀ u (hu : u < L.length), jAppS (jd (frsB (L.take u)) u) L[u] = (jd (frsB (L.take (u + 1))) (u + 1), 0) := fun u hu => jd_take u hu hLo (by omega)
  have hfu : ∀ u, (frsB (L.take u)).length ≤ 100000 := fun u => frs_take L u (by omega)
  have hx0 : jd [] 0 = jd (frsB (L.take 0)) 0 := rfl
  rw [hx0] at c2
  have hxL : jd (frsB L) L.length = jd (frsB (L.take L.length)) L.length := by rw [List.take_length]
  rw [hxL] at c4 c5 c6
  clear xC xA yC yA zC zA vC vA hq hq2 hLo hKo r3 r3o
  generalize hfL : frsB L = fL at *
  generalize hfK : frsB K = fK at *
  generalize cutS (jd (frsB (L.take L.length)) L.length) (tn : Int) = xcut at *
  generalize Dv.mk fL fK 1 1048576 ((L.length + 1 : Nat) : Int) 0 0 false = y1 at *
  generalize Dv.mk fL q 0 1048576 ((L.length + 1 : Nat) : Int) ((L.length + 1 : Nat) : Int) (tn : Int) true = z1 at *
  generalize Dv.mk fL q 0 1048576 ((L.length + 1 : Nat) : Int) 0 0 false = v1 at *
  have hnfK : fK.length = fK.length := rfl
  clear hnfK hxL hx0
  refine ACall.of_body mixed Tryd.func7 rfl (by kernel_rfl) Tryd.ntmps7 (by kernel_rfl) rfl (by simp) (by simp) (by simp) fun σ N hp hpn hk hkn hfree => ?_
  have hd := hp _ (List.mem_singleton.2 rfl); have hdn := hpn _ (List.mem_singleton.2 rfl); simp only at hd hdn; clear hp hpn
  have hcs := And.intro c1 (And.intro c2 (And.intro (c3 (N + 1 + 1)) (And.intro c1o (And.intro (c3o (N + 11 + 3)) True.intro))))
  clear c1 c2 c3 c1o c3o d0 o0
  refine Wk ?_
  refine go_loopF mixed (by kernel_rfl) [12, 32, 33, 34, 35, 36, 37, 38, 39, 40, 41, 42, 43, 44, 45, 46] [N+4+4] (fun m_ s_ σ_ n_ => ∃ (u : Nat), m_ = L.length - u ∧ s_ 12 = .lit (.int .i64 u) ∧ σ_ (N+4+4) = .box 49 (devAV (jd (frsB (L.take u)) u)) ∧ (u ≤ L.length)) ⟨_, 0, rfl, WF, WF, WC⟩ ?_
  intro m_1 s_1 σ_1 n_1 hs_1 hf_1 hn_1 hI_1
  obtain ⟨u, hm_1, h1_12, e1_0, hu⟩ := hI_1
  have h1_2 := (hs_1.at 2 (by decide)).trans WE
  have h1_6 := (hs_1.at 6 (by decide)).trans WE
  have h1_8 := (hs_1.at 8 (by decide)).trans WE
  have h1_10 := (hs_1.at 10 (by decide)).trans WE
  have h1_11 := (hs_1.at 11 (by decide)).trans WE
  have k1_0 := (hf_1.at (g) (by omega) WQ).trans WE
  have hlow : ∀ id, id < N → σ_1 id = σ id := fun id hid => (hf_1.at id (by omega) WQ).trans WH
  by_cases hul : u = L.length
  · subst hul
    have hcs := And.intro c4 (And.intro c5 (And.intro c6 (And.intro c7 (And.intro c8 (And.intro c9 (And.intro c10 (And.intro c11 (And.intro c12 (And.intro c13 (And.intro c14 True.intro))))))))))
    clear c4 c5 c6 c7 c8 c9 c10 c11 c12 c13 c14 hstep hfu hfL hfK hLl hKl
    exact W0
  · have hu1 : u < L.length := lt_ne hu hul
    have hfl := hfu u
    have uC := jd_C (frsB (L.take u)) u
    have q1 := jAppend_spec (jd (frsB (L.take u)) u) L[u] (uC.A (by omega) (by omega)) g
    rw [hstep u hu1] at q1
    simp only at q1
    obtain ⟨z, hz⟩ : ∃ z, L[u] = z := ⟨_, rfl⟩
    rw [hz] at q1
    have hzb := bAV_def z
    have hcs := And.intro q1 True.intro
    clear q1 c4 c5 c6 c7 c8 c9 c10 c11 c12 c13 c14 hstep hfu hfl uC
    generalize hX : jd (frsB (L.take u)) u = X at *
    generalize hY : jd (frsB (L.take (u + 1))) (u + 1) = Y at *
    refine Wk ?_
    exact ⟨WS, WG, WN, _, (show L.length - (u + 1) < m_1 by omega), u + 1, rfl, WF, WF, WC⟩
end
theorem JournalSwitch_spec (deck : List Int) (_ : ∀ n ∈ deck, (Lit.int .i64 n).wf = true) (hd : deck.length ≤ 9223372036854775807) (other : List Int) (_ : ∀ n ∈ other, (Lit.int .i64 n).wf = true) (ho : other.length ≤ 9223372036854775807) (x : Int) (w : (Lit.int .u8 x).wf = true) (g k : Nat) :
    ACall Tryd.prog 7 [.slice none (deck.map intAV), .slice none (other.map intAV), .lit (.int .u8 x)] k [(g, shaG)] (.lit (.bool true)) [] := by
  obtain ⟨tn, rfl, ht⟩ := u8_nat w
  haveI := w32
  exact jswitch_core deck other hd ho tn ht g k
end Go.Proofs.YtaelnglalpiemaaDoor
