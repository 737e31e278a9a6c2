/- Texts L3, L4, L5, L6, L7, L8, D1, L9, joined. -/
import Derived.Test.YtmhehlfocfhpkaaM4

/- Fields: what bytes are separated into; All of the reference. -/
namespace Go.Proofs.Ytmhehlfocfhpkaa
open Go.Ab
attribute [local irreducible] Go.Ab.tyAV Go.Ab.aw Go.Ab.aops Go.Ab.kReg Go.Ab.aThen Go.Ab.aBlk Go.Ab.acond Go.Ab.aguard Go.Ab.astep Go.Ab.AStepX Go.Ab.aRet

theorem rdF_ok {b : List UInt8} (h : (rdF b).2.2 = 0) : 1 ≤ (rdF b).2.1 ∧ (rdF b).2.1 ≤ b.length ∧ (rdF b).1.length ≤ 1024 ∧ fieldB (rdF b).1 = b.take (rdF b).2.1 := by
  unfold rdF at h ⊢
  by_cases h1 : (rdS b).2.2 ≠ 0
  · rw [if_pos h1] at h; exact absurd h h1
  · rw [if_neg h1] at h ⊢
    by_cases h2 : 1024 < (rdS b).1
    · rw [if_pos h2] at h; cases h
    · rw [if_neg h2] at h ⊢
      by_cases h3 : b.length - (rdS b).2.1 < (rdS b).1
      · rw [if_pos h3] at h; cases h
      · rw [if_neg h3]
        have e0 : (rdS b).2.2 = 0 := by omega
        obtain ⟨_, k2, k3⟩ := rdS_ok b (n := (rdS b).1) (u := (rdS b).2.1) (by rw [← e0])
        have k4 := leb_pos (rdS b).1
        rw [k3, List.length_take] at k4
        have hl : ((b.drop (rdS b).2.1).take (rdS b).1).length = (rdS b).1 := by rw [List.length_take, List.length_drop]; omega
        refine ⟨by simp only; omega, by simp only; omega, by simp only; omega, ?_⟩
        simp only [fieldB, hl, k3]
        rw [List.take_add]
theorem rdF_bad {b : List UInt8} (h : (rdF b).2.2 ≠ 0) : rdF b = ([], 0, (rdF b).2.2) := by
  unfold rdF at h ⊢
  by_cases h1 : (rdS b).2.2 ≠ 0
  · rw [if_pos h1]
  · rw [if_neg h1] at h ⊢
    by_cases h2 : 1024 < (rdS b).1
    · rw [if_pos h2]
    · rw [if_neg h2] at h ⊢
      by_cases h3 : b.length - (rdS b).2.1 < (rdS b).1
      · rw [if_pos h3]
      · rw [if_neg h3] at h; exact absurd rfl h
theorem rdF_field (x t : List UInt8) (hx : x.length ≤ 1024) : rdF (fieldB x ++ t) = (x, (fieldB x).length, 0) := by
  have h := rdS_leb x.length (by omega) (x ++ t)
  unfold rdF fieldB
  rw [List.append_assoc, h]
  simp only
  rw [if_neg (by simp), if_neg (by omega), if_neg (by simp)]
  simp

/-- The fields at the beginning, and the error that ends them. -/
def allK : Nat → List UInt8 → List (List UInt8) × Nat
  | 0, _ => ([], 0)
  | f + 1, b => if b = [] then ([], 0) else if (rdF b).2.2 = 0 then ((rdF b).1 :: (allK f (b.drop (rdF b).2.1)).1, (allK f (b.drop (rdF b).2.1)).2) else ([], (rdF b).2.2)
theorem allK_more : ∀ (f g : Nat) (b : List UInt8), b.length ≤ f → b.length ≤ g → allK f b = allK g b
  | 0, 0, _, _, _ => rfl
  | 0, g + 1, b, h, _ => by
    have : b = [] := List.eq_nil_of_length_eq_zero (by omega)
    simp [allK, this]
  | f + 1, 0, b, _, h => by
    have : b = [] := List.eq_nil_of_length_eq_zero (by omega)
    simp [allK, this]
  | f + 1, g + 1, b, h1, h2 => by
    unfold allK
    split
    · rfl
    · split
      · rename_i hb he
        obtain ⟨k1, k2, _⟩ := rdF_ok he
        have hl : (b.drop (rdF b).2.1).length = b.length - (rdF b).2.1 := List.length_drop ..
        rw [allK_more f g _ (by omega) (by omega)]
      · rfl
def allL (b : List UInt8) : List (List UInt8) × Nat := allK b.length b
theorem allL_nil : allL [] = ([], 0) := rfl
theorem allL_cons {b : List UInt8} (hb : b ≠ []) : allL b = if (rdF b).2.2 = 0 then ((rdF b).1 :: (allL (b.drop (rdF b).2.1)).1, (allL (b.drop (rdF b).2.1)).2) else ([], (rdF b).2.2) := by
  have hl : b.length = (b.length - 1) + 1 := by
    have := List.length_pos_iff.2 hb; omega
  unfold allL
  rw [hl, allK, if_neg hb]
  split
  · rename_i he
    obtain ⟨k1, k2, _⟩ := rdF_ok he
    have hl2 : (b.drop (rdF b).2.1).length = b.length - (rdF b).2.1 := List.length_drop ..
    rw [allK_more _ (b.drop (rdF b).2.1).length _ (by omega) (Nat.le_refl _)]
  · rfl
def allS (b : List UInt8) : List (List UInt8) × Nat := if (allL b).2 = 0 then ((allL b).1, 0) else ([], (allL b).2)
theorem allL_join : ∀ (n : Nat) (b : List UInt8), b.length ≤ n → (allL b).2 = 0 → joinOk (allL b).1 ∧ joinB (allL b).1 = b
  | n, b, hn, h => by
    by_cases hb : b = []
    · subst hb; simp [allL_nil]
    · rw [allL_cons hb] at h ⊢
      split at h
      · rename_i he
        rw [if_pos he]
        obtain ⟨k1, k2, k3, k4⟩ := rdF_ok he
        have hl2 : (b.drop (rdF b).2.1).length = b.length - (rdF b).2.1 := List.length_drop ..
        obtain ⟨n', rfl⟩ : ∃ n', n = n' + 1 := ⟨n - 1, by have := List.length_pos_iff.2 hb; omega⟩
        obtain ⟨q1, q2⟩ := allL_join n' (b.drop (rdF b).2.1) (by omega) h
        refine ⟨fun x hx => ?_, ?_⟩
        · rcases List.mem_cons.1 hx with rfl | hx
          · exact k3
          · exact q1 x hx
        · show fieldB (rdF b).1 ++ joinB (allL (b.drop (rdF b).2.1)).1 = b
          rw [q2, k4, List.take_append_drop]
      · rename_i he; exact absurd h he
theorem allL_back : ∀ (L : List (List UInt8)), joinOk L → allL (joinB L) = (L, 0)
  | [], _ => rfl
  | x :: L, h => by
    have hx := h x (List.mem_cons_self ..)
    have hr := rdF_field x (joinB L) hx
    have hj : joinB (x :: L) = fieldB x ++ joinB L := rfl
    have hne : joinB (x :: L) ≠ [] := by
      rw [hj]
      have : 0 < (fieldB x).length := by have := leb_pos x.length; simp [fieldB]; omega
      intro he
      rw [List.append_eq_nil_iff] at he
      rw [he.1] at this; cases this
    rw [allL_cons hne, hj, hr]
    simp only [if_true, List.drop_left]
    rw [allL_back L fun y hy => h y (List.mem_cons_of_mem _ hy)]
theorem allL_len : ∀ (n : Nat) (b : List UInt8), b.length ≤ n → (allL b).1.length ≤ b.length
  | n, b, hn => by
    by_cases hb : b = []
    · subst hb; simp [allL_nil]
    · rw [allL_cons hb]
      split
      · rename_i he
        obtain ⟨k1, k2, k3, k4⟩ := rdF_ok he
        have hl2 : (b.drop (rdF b).2.1).length = b.length - (rdF b).2.1 := List.length_drop ..
        obtain ⟨n', rfl⟩ : ∃ n', n = n' + 1 := ⟨n - 1, by have := List.length_pos_iff.2 hb; omega⟩
        have := allL_len n' (b.drop (rdF b).2.1) (by omega)
        simp only [List.length_cons]; omega
      · simp

set_option maxHeartbeats 1000000 in
theorem refAll_spec (b : List UInt8) (hb : b.length ≤ 100000) (k : Nat) : ACall Try.prog 33 [.slice none (b.map byteAV)] k [] (.tup [.slice none ((allS b).1.map bAV), .lit (.int .i64 ((allS b).2 : Nat))]) [] := by
  generalize hR : allS b = R
  obtain ⟨R1, R2⟩ := R
  simp only
  refine ACall.of_body mixed Try.func33 rfl (by kernel_rfl) Try.ntmps33 (by kernel_rfl) rfl (by simp) (by simp) (by simp) fun σ N hp hpn hk hkn hfree => ?_
  refine Wk ?_
  refine ALoop.nilrow 4 22 1 (by simp (disch := omega) [go_sem, *, -List.reduceReplicate]) ?_
  refine go_loopB (N) mixed (by kernel_rfl) [0, 2, 3, 4, 5, 6, 7, 8, 9, 10, 11, 12, 13, 14, 15, 16, 17, 18, 19, 20, 21, 22, 23, 24, 25, 26] [] (fun m_ s_ σ_ n_ => ∃ (rest : List UInt8) (r : Nat) (acc : List (List UInt8)), m_ = rest.length ∧ s_ 0 = .slice none (rest.map byteAV) ∧ s_ 4 = .slice (some r) (acc.map bAV) ∧ σ_ (r) = .row 22 1 acc.length ∧ (N ≤ r) ∧ (r < n_) ∧ (acc.length + rest.length ≤ b.length) ∧ ((acc ++ (allL rest).1, (allL rest).2) = allL b)) ⟨_, b, _, [], rfl, WF, WF, WF, WC, WC, WC, WC⟩ ?_
  intro m_1 s_1 σ_1 n_1 hs_1 hf_1 hn_1 hI_1
  obtain ⟨rest, r, acc, hm_1, h1_0, h1_4, e1_0, hNr, hrn, hal, hacc⟩ := hI_1
  have hlow : ∀ id, id < N → σ_1 id = σ id := fun id hid => (hf_1.at id (by omega) WQ).trans WH
  by_cases he : rest = []
  · subst he
    rw [allL_nil] at hacc
    simp only [List.append_nil] at hacc
    unfold allS at hR
    rw [← hacc, if_pos rfl] at hR
    simp only [Prod.mk.injEq] at hR
    obtain ⟨rfl, rfl⟩ := hR
    clear hacc
    exact WL
  · have hl : 0 < rest.length := List.length_pos_iff.2 he
    have hli : (0 : Int) < (rest.length : Int) := by omega
    have c1 := refReadField_spec rest (by omega)
    rw [allL_cons he] at hacc
    by_cases he0 : (rdF rest).2.2 = 0
    · obtain ⟨k1, k2, _⟩ := rdF_ok he0
      rw [if_pos he0] at hacc
      generalize rdF rest = X at *
      obtain ⟨x, u, e⟩ := X
      simp only at k1 k2 he0 hacc
      subst he0
      unfold rdFAV at c1
      simp only at c1
      have hxb := (bAV_def x).symm
      have hdr : (rest.map byteAV).drop u = (rest.drop u).map byteAV := by rw [List.map_drop]
      have hdl : (rest.drop u).length = rest.length - u := List.length_drop ..
      obtain ⟨y, hy⟩ : ∃ y, rest.drop u = y := ⟨_, rfl⟩
      rw [hy] at hacc hdr hdl
      obtain ⟨ac, hac⟩ : ∃ a, acc ++ [x] = a := ⟨_, rfl⟩
      have ham : acc.map bAV ++ [bAV x] = ac.map bAV := by rw [← hac, List.map_append]; rfl
      have haln : ac.length = acc.length + 1 := by rw [← hac, List.length_append]; rfl
      have hacc2 : (ac ++ (allL y).1, (allL y).2) = allL b := by rw [← hacc, ← hac]; simp
      have hb24 : (acc.length + 1) * 24 ≤ 140737488355328 := by omega
      have hcs := And.intro c1 True.intro
      clear c1 hR hacc he hac hy
      refine Wk ?_
      exact ⟨WS, WG, WN, _, (show (y).length < m_1 by omega), y, r, ac, rfl, WF, WF, WF, WC, WC, WC, WC⟩
    · have hbd := rdF_bad he0
      rw [if_neg he0] at hacc
      rw [hbd] at c1
      generalize (rdF rest).2.2 = e at *
      unfold rdFAV at c1
      simp only at c1
      unfold allS at hR
      rw [← hacc] at hR
      simp only [he0, if_false, Prod.mk.injEq] at hR
      obtain ⟨rfl, rfl⟩ := hR
      have hei : ¬ ((e : Int) = 0) := by omega
      have hcs := And.intro c1 True.intro
      clear c1 hacc he hbd he0
      exact WL
end Go.Proofs.Ytmhehlfocfhpkaa

/- Fields: the iterator. -/
namespace Go.Proofs.Ytmhehlfocfhpkaa
open Go.Ab
attribute [local irreducible] Go.Ab.tyAV Go.Ab.aw Go.Ab.aops Go.Ab.kReg Go.Ab.aThen Go.Ab.aBlk Go.Ab.acond Go.Ab.aguard Go.Ab.astep Go.Ab.AStepX Go.Ab.aRet

theorem fields_spec (b : List UInt8) (k : Nat) : ACall Try.prog 37 [.slice none (b.map byteAV)] k [] (.fn 38 [.ptr k [] 0]) [(k, .box 22 (.slice none (b.map byteAV)))] := by
  refine ACall.of_body mixed Try.func37 rfl (by kernel_rfl) Try.ntmps37 (by kernel_rfl) rfl (by simp) (by simp) (by simp) fun σ N hp hpn hk hkn hfree => ?_
  refine Wk ?_
  refine go_result1 (r0 := N) (by simp (disch := omega) [go_sem, *, -List.reduceReplicate]; rfl) (by omega) (by simp (disch := omega) [go_sem]; try rfl) (fun id hid => by simp (disch := omega) only [upd_ne, wr_cons, wr_nil]; try exact hlow id hid) (by simp (disch := omega) only [upd_same, upd_ne]; rfl) (by simp (disch := omega) [go_sem])

theorem allL_at {L : List (List UInt8)} {rest y : List UInt8} {x : List UInt8} {u : Nat} (h : L.drop u = x :: (allL y).1) : u < L.length ∧ (∀ hu : u < L.length, L[u] = x) ∧ L.drop (u + 1) = (allL y).1 := by
  have hu : u < L.length := by
    rcases Nat.lt_or_ge u L.length with h' | h'
    · exact h'
    · rw [List.drop_eq_nil_of_le h'] at h; cases h
  rw [List.drop_eq_getElem_cons hu] at h
  injection h with h1 h2
  exact ⟨hu, fun _ => h1, h2⟩

set_option maxHeartbeats 1000000 in
theorem fields1_ok (b : List UInt8) (hb : b.length ≤ 100000) (L : List (List UInt8)) (hL : allL b = (L, 0)) (l Nt : Nat) (r : Loop) (s : Slots) (D R : Nat → Ent) (d q kb j k : Nat) (h1 : d < kb) (h2 : kb < q) (h3 : q < j)
    (hD0 : D 0 ≠ .none) (hR0 : R 0 ≠ .none) (hDr : ∀ u n0 kk, j < n0 → (D u).ren (rn n0 kk none) = D u) (hRr : ∀ u n0 kk, j < n0 → (R u).ren (rn n0 kk none) = R u)
    (hY : ∀ u (hu : u < L.length) kk, AYield Try.prog l [bAV L[u], .lit (.int .i64 0)] kk [(j, .loop l Nt r s), (d, D u), (q, R u)] (.lit (.bool true)) [(j, .loop l Nt r s), (d, D (u + 1)), (q, R (u + 1))]) :
    ACall Try.prog 38 [.lit (.func (.yield l) #[] #[]), .ptr kb [] 0] k [(j, .loop l Nt r s), (kb, .box 22 (.slice none (b.map byteAV))), (d, D 0), (q, R 0)] (.tup [])
      [(kb, .box 22 (.slice none [])), (d, D L.length), (q, R L.length)] := by
  refine ACall.of_body mixed Try.func38 rfl (by kernel_rfl) Try.ntmps38 (by kernel_rfl) rfl (by simp) (by simp [hD0, hR0]) (by simp) fun σ N hp hpn hk hkn hfree => ?_
  simp only [List.mem_cons, List.not_mem_nil, or_false, forall_eq_or_imp, forall_eq] at hp hpn
  obtain ⟨hd1, hd2, hd3, hd4⟩ := hp
  obtain ⟨hn1, hn2, hn3, hn4⟩ := hpn
  refine Wk ?_
  refine go_loopB (N) mixed (by kernel_rfl) [3, 4, 5, 6, 7, 8, 9, 10, 11, 12, 13, 14, 15, 16, 17, 18, 19, 20, 21, 22, 23, 24, 25, 26] [j, kb, d, q] (fun m_ s_ σ_ n_ => ∃ (u : Nat) (rest : List UInt8), m_ = rest.length ∧ σ_ (j) = .loop l Nt r s ∧ σ_ (kb) = .box 22 (.slice none (rest.map byteAV)) ∧ σ_ (d) = D u ∧ σ_ (q) = R u ∧ (rest.length ≤ b.length) ∧ (u ≤ L.length) ∧ (L.drop u = (allL rest).1) ∧ ((allL rest).2 = 0)) ⟨_, 0, b, rfl, WF, WF, WF, WF, WC, WC, WC, WC⟩ ?_
  intro m_1 s_1 σ_1 n_1 hs_1 hf_1 hn_1 hI_1
  obtain ⟨u, rest, hm_1, e1_0, e1_1, e1_2, e1_3, hrl, hu, hLu, he0⟩ := hI_1
  have h1_0 := (hs_1.at 0 (by decide)).trans WE
  have h1_1 := (hs_1.at 1 (by decide)).trans WE
  have hlow : ∀ id, id < N → id ≠ j → id ≠ kb → id ≠ d → id ≠ q → σ_1 id = σ id := fun id hid hdd0 hdd1 hdd2 hdd3 => (hf_1.at id (by omega) (by simp [hdd0, hdd1, hdd2, hdd3])).trans (by simp (disch := omega) only [upd_ne, wr_cons, wr_nil]; try first | exact hlow id hid hdd0 hdd1 hdd2 hdd3 | exact hlow id hid)
  by_cases he : rest = []
  · subst he
    rw [allL_nil] at hLu
    have hul : u = L.length := by
      have := congrArg List.length hLu
      rw [List.length_drop] at this
      simp at this; omega
    subst hul
    clear hY hLu he0
    refine Wk ?_
    refine go_fall ?_
    refine go_resultW [(kb, .box 22 (.slice none [])), (d, D L.length), (q, R L.length)] (by simp (disch := omega) [go_sem, *, -List.reduceReplicate]; rfl) rfl (fun id hid => ?_) (by simp) (by simp only [renF, List.map_cons, List.map_nil, hDr _ _ _ hn1, hRr _ _ _ hn1, ent_ren_box, AV.ren, AV.renl, Option.bind_none])
    simp only [wr_cons, wr_nil]
    by_cases i1 : id = j
    · subst i1; simp (disch := omega) [go_sem, *]
    by_cases i2 : id = q
    · subst i2; simp (disch := omega) [go_sem, *]
    by_cases i3 : id = d
    · subst i3; simp (disch := omega) [go_sem, *]
    by_cases i4 : id = kb
    · subst i4; simp (disch := omega) [go_sem, *]
    simp (disch := omega) only [upd_ne]
    exact hlow id hid i1 i4 i3 i2
  · have hl : 0 < rest.length := List.length_pos_iff.2 he
    have hli : (0 : Int) < (rest.length : Int) := by omega
    have c1 := fieldRead_spec rest (by omega)
    rw [allL_cons he] at hLu he0
    by_cases hx0 : (rdF rest).2.2 = 0
    · obtain ⟨k1, k2, _⟩ := rdF_ok hx0
      rw [if_pos hx0] at hLu he0
      generalize rdF rest = X at *
      obtain ⟨x, v, e⟩ := X
      simp only at k1 k2 hx0 hLu he0
      subst hx0
      unfold rdFAV at c1
      simp only at c1
      obtain ⟨hu1, hLx, hLu2⟩ := allL_at (rest := rest) hLu
      have c2 := hY u hu1
      rw [hLx hu1] at c2
      simp only [bAV_def] at c2
      have hdr : (rest.map byteAV).drop v = (rest.drop v).map byteAV := by rw [List.map_drop]
      have hdl : (rest.drop v).length = rest.length - v := List.length_drop ..
      obtain ⟨y, hy⟩ : ∃ y, rest.drop v = y := ⟨_, rfl⟩
      rw [hy] at hdr hdl hLu2 he0
      have hcs := And.intro c1 (And.intro c2 True.intro)
      clear c1 c2 hY hLu hLx he hy
      refine Wk ?_
      exact ⟨WS, WG, WN, _, (show (y).length < m_1 by omega), u + 1, y, rfl, WF, WF, WF, WF, WC, WC, WC, WC⟩
    · rw [if_neg hx0] at he0
      exact absurd he0 hx0

set_option maxHeartbeats 1000000 in
theorem fields1_err (b : List UInt8) (hb : b.length ≤ 100000) (L : List (List UInt8)) (e : Nat) (hL : allL b = (L, e)) (he : e ≠ 0) (l Nt : Nat) (r r' : Loop) (s : Slots) (D R : Nat → Ent) (E2 E3 F2 F3 : Ent) (d2 d3 d q kb j k : Nat) (g1 : d2 < d3) (g2 : d3 < d) (h1 : d < kb) (h2 : kb < q) (h3 : q < j)
    (hD0 : D 0 ≠ .none) (hR0 : R 0 ≠ .none) (hE2 : E2 ≠ .none) (hE3 : E3 ≠ .none) (hDr : ∀ u n0 kk, j < n0 → (D u).ren (rn n0 kk none) = D u) (hRr : ∀ u n0 kk, j < n0 → (R u).ren (rn n0 kk none) = R u)
    (hF2 : ∀ n0 kk, j < n0 → F2.ren (rn n0 kk none) = F2) (hF3 : ∀ n0 kk, j < n0 → F3.ren (rn n0 kk none) = F3) (hsr : ∀ n0 kk, j < n0 → (fun t => (s t).ren (rn n0 kk none)) = s)
    (hY : ∀ u (hu : u < L.length) kk, AYield Try.prog l [bAV L[u], .lit (.int .i64 0)] kk [(j, .loop l Nt r s), (d, D u), (q, R u)] (.lit (.bool true)) [(j, .loop l Nt r s), (d, D (u + 1)), (q, R (u + 1))])
    (hZ : ∀ kk, AYield Try.prog l [.slice none [], .lit (.int .i64 e)] kk [(j, .loop l Nt r s), (d2, E2), (d3, E3)] (.lit (.bool false)) [(j, .loop l Nt r' s), (d2, F2), (d3, F3)]) :
    ACall Try.prog 38 [.lit (.func (.yield l) #[] #[]), .ptr kb [] 0] k [(j, .loop l Nt r s), (kb, .box 22 (.slice none (b.map byteAV))), (d, D 0), (q, R 0), (d2, E2), (d3, E3)] (.tup [])
      [(j, .loop l Nt r' s), (kb, .box 22 (.slice none ((b.drop (joinB L).length).map byteAV))), (d, D L.length), (q, R L.length), (d2, F2), (d3, F3)] := by
  refine ACall.of_body mixed Try.func38 rfl (by kernel_rfl) Try.ntmps38 (by kernel_rfl) rfl (by simp) (by simp [hD0, hR0, hE2, hE3]) (by simp) fun σ N hp hpn hk hkn hfree => ?_
  simp only [List.mem_cons, List.not_mem_nil, or_false, forall_eq_or_imp, forall_eq] at hp hpn
  obtain ⟨hd1, hd2, hd3, hd4, hd5, hd6⟩ := hp
  obtain ⟨hn1, hn2, hn3, hn4, hn5, hn6⟩ := hpn
  refine Wk ?_
  refine go_loopB (N) mixed (by kernel_rfl) [3, 4, 5, 6, 7, 8, 9, 10, 11, 12, 13, 14, 15, 16, 17, 18, 19, 20, 21, 22, 23, 24, 25, 26] [j, kb, d, q] (fun m_ s_ σ_ n_ => ∃ (u : Nat) (rest : List UInt8), m_ = rest.length ∧ σ_ (j) = .loop l Nt r s ∧ σ_ (kb) = .box 22 (.slice none (rest.map byteAV)) ∧ σ_ (d) = D u ∧ σ_ (q) = R u ∧ (rest.length ≤ b.length) ∧ (u ≤ L.length) ∧ (L.drop u = (allL rest).1) ∧ ((allL rest).2 = e) ∧ (joinB (L.take u) ++ rest = b)) ⟨_, 0, b, rfl, WF, WF, WF, WF, WC, WC, WC, WC, WC⟩ ?_
  intro m_2 s_2 σ_2 n_2 hs_2 hf_2 hn_2 hI_2
  obtain ⟨u, rest, hm_2, e2_0, e2_1, e2_2, e2_3, hrl, hu, hLu, he0, hbj⟩ := hI_2
  have h2_0 := (hs_2.at 0 (by decide)).trans WE
  have h2_1 := (hs_2.at 1 (by decide)).trans WE
  have k2_0 := (hf_2.at (d2) (by omega) WQ).trans WE
  have k2_1 := (hf_2.at (d3) (by omega) WQ).trans WE
  have hlow : ∀ id, id < N → id ≠ j → id ≠ kb → id ≠ d → id ≠ q → σ_2 id = σ id := fun id hid hdd0 hdd1 hdd2 hdd3 => (hf_2.at id (by omega) (by simp [hdd0, hdd1, hdd2, hdd3])).trans (by simp (disch := omega) only [upd_ne, wr_cons, wr_nil]; try first | exact hlow id hid hdd0 hdd1 hdd2 hdd3 | exact hlow id hid)
  by_cases hne : rest = []
  · subst hne
    rw [allL_nil] at he0
    exact absurd he0.symm he
  · have hl : 0 < rest.length := List.length_pos_iff.2 hne
    have hli : (0 : Int) < (rest.length : Int) := by omega
    have c1 := fieldRead_spec rest (by omega)
    rw [allL_cons hne] at hLu he0
    by_cases hx0 : (rdF rest).2.2 = 0
    · obtain ⟨k1, k2, _, k4⟩ := rdF_ok hx0
      rw [if_pos hx0] at hLu he0
      generalize rdF rest = X at *
      obtain ⟨x, v, e1⟩ := X
      simp only at k1 k2 k4 hx0 hLu he0
      subst hx0
      unfold rdFAV at c1
      simp only at c1
      obtain ⟨hu1, hLx, hLu2⟩ := allL_at (rest := rest) hLu
      have c2 := hY u hu1
      have hbj2 : joinB (L.take (u + 1)) ++ rest.drop v = b := by
        rw [List.take_succ_eq_append_getElem hu1, joinB_snoc, hLx hu1, k4, List.append_assoc, List.take_append_drop, hbj]
      rw [hLx hu1] at c2
      simp only [bAV_def] at c2
      have hdr : (rest.map byteAV).drop v = (rest.drop v).map byteAV := by rw [List.map_drop]
      have hdl : (rest.drop v).length = rest.length - v := List.length_drop ..
      obtain ⟨y, hy⟩ : ∃ y, rest.drop v = y := ⟨_, rfl⟩
      rw [hy] at hdr hdl hLu2 he0 hbj2
      have hcs := And.intro c1 (And.intro c2 True.intro)
      clear c1 c2 hY hZ hLu hLx hne hy hL k4 hbj
      refine Wk ?_
      exact ⟨WS, WG, WN, _, (show (y).length < m_2 by omega), u + 1, y, rfl, WF, WF, WF, WF, WC, WC, WC, WC, WC⟩
    · have hbd := rdF_bad hx0
      rw [if_neg hx0] at hLu he0
      simp only at hLu he0
      rw [hbd] at c1
      unfold rdFAV at c1
      simp only [List.map_nil] at c1
      rw [he0] at c1
      have hul : u = L.length := by
        have := congrArg List.length hLu
        rw [List.length_drop] at this
        simp at this; omega
      subst hul
      rw [List.take_length] at hbj
      have hrest : b.drop (joinB L).length = rest := by rw [← hbj, List.drop_left]
      rw [hrest]
      have hei : ¬ ((e : Int) = 0) := by omega
      have c2 := hZ
      have hcs := And.intro c1 (And.intro c2 True.intro)
      clear c1 c2 hY hZ hLu hne hL hbj hrest hbd hx0 he0
      refine Wk ?_
      refine go_resultW [(j, .loop l Nt r' s), (kb, .box 22 (.slice none (rest.map byteAV))), (d, D L.length), (q, R L.length), (d2, F2), (d3, F3)] (by simp (disch := omega) [go_sem, *, -List.reduceReplicate]; rfl) rfl (fun id hid => ?_) (by simp) (by simp only [renF, List.map_cons, List.map_nil, hDr _ _ _ hn1, hRr _ _ _ hn1, hF2 _ _ hn1, hF3 _ _ hn1, ent_ren_box, AV.ren, renl_bytes, Option.bind_none]; rw [show Ent.ren (rn N k none) (.loop l Nt r' s) = .loop l Nt r' (fun t => (s t).ren (rn N k none)) from rfl, hsr _ _ hn1])
      simp only [wr_cons, wr_nil]
      by_cases i1 : id = j
      · subst i1; simp (disch := omega) [go_sem, *]
      by_cases i2 : id = q
      · subst i2; simp (disch := omega) [go_sem, *]
      by_cases i3 : id = d
      · subst i3; simp (disch := omega) [go_sem, *]
      by_cases i4 : id = kb
      · subst i4; simp (disch := omega) [go_sem, *]
      by_cases i5 : id = d2
      · subst i5; simp (disch := omega) [go_sem, *]
      by_cases i6 : id = d3
      · subst i6; simp (disch := omega) [go_sem, *]
      simp (disch := omega) only [upd_ne]
      exact hlow id hid i1 i4 i3 i2
end Go.Proofs.Ytmhehlfocfhpkaa

/- Fields: All. -/
namespace Go.Proofs.Ytmhehlfocfhpkaa
open Go.Ab
attribute [local irreducible] Go.Ab.tyAV Go.Ab.aw Go.Ab.aops Go.Ab.kReg Go.Ab.aThen Go.Ab.aBlk Go.Ab.acond Go.Ab.aguard Go.Ab.astep Go.Ab.AStepX Go.Ab.aRet

def outB (q : Nat) (acc : List (List UInt8)) : Ent := .box 40 (.slice (some q) (acc.map bAV))
def outR (u : Nat) : Ent := .row 22 1 u
theorem outB_ren (q : Nat) (acc : List (List UInt8)) (n0 kk : Nat) (h : q < n0) : (outB q acc).ren (rn n0 kk none) = outB q acc := by
  simp only [outB, ent_ren_box, AV.ren, renl_bs, Option.bind_some, rn_lt h]
theorem outB_ne (q : Nat) (acc : List (List UInt8)) : outB q acc ≠ .none := by simp [outB]
theorem outR_ne (u : Nat) : outR u ≠ .none := by simp [outR]
def outS (N f : Nat) (b : List UInt8) : Slots := upd (upd (upd (upd (upd (initS [.slice none (b.map byteAV)]) 2 (.ptr N [] 0)) 3 (.ptr (N + 1) [] 0)) 4 (.ptr (N + 2) [] 0)) 7 (.slice none (b.map byteAV))) 8 (.fn f [.ptr (N + 3 + (0 + 1)) [] 0])
theorem outS_ren (N f : Nat) (b : List UInt8) (n0 kk : Nat) (h : N + 4 < n0) : (fun t => (outS N f b t).ren (rn n0 kk none)) = outS N f b := by
  unfold outS
  have r0 : rn n0 kk none N = some N := rn_lt (by omega)
  have r1 : rn n0 kk none (N + 1) = some (N + 1) := rn_lt (by omega)
  have r2 : rn n0 kk none (N + 2) = some (N + 2) := rn_lt (by omega)
  have r3 : rn n0 kk none (N + 3 + (0 + 1)) = some (N + 3 + (0 + 1)) := rn_lt (by omega)
  refine ren_upd _ _ (ren_upd _ _ (ren_upd _ _ (ren_upd _ _ (ren_upd _ _ (ren_init ?_) ?_) ?_) ?_) ?_) ?_
  · simp only [AV.renl, AV.ren, renl_bytes, Option.bind_none]
  · simp only [AV.ren, r0]
  · simp only [AV.ren, r1]
  · simp only [AV.ren, r2]
  · simp only [AV.ren, renl_bytes, Option.bind_none]
  · simp only [AV.ren, AV.renl, r3]

set_option maxHeartbeats 2000000 in
theorem All_ok (b : List UInt8) (hb : b.length ≤ 100000) (L : List (List UInt8)) (hL : allL b = (L, 0)) (k : Nat) : ACall Try.prog 32 [.slice none (b.map byteAV)] k [] (.tup [.slice none (L.map bAV), .lit (.int .i64 0)]) [] := by
  have c1 := fields_spec b
  have hll := allL_len b.length b (Nat.le_refl _)
  rw [hL] at hll
  simp only at hll
  refine ACall.of_body mixed Try.func32 rfl (by kernel_rfl) Try.ntmps32 (by kernel_rfl) rfl (by simp) (by simp) (by simp) fun σ N hp hpn hk hkn hfree => ?_
  have hcs := And.intro c1 True.intro
  clear c1
  refine Wk ?_
  refine go_nilrowIn (N + 2) [] 22 1 (bt := 40) (c := .nils) (by simp (disch := omega) [go_sem, *, -List.reduceReplicate]) rfl ?_
  change aw _ _ _ _ ⟨outS N 38 b, _, _⟩
  refine go_rangeFunc .normal (f := 38) (caps := [.ptr (N + 3 + (0 + 1)) [] 0]) (pre := [(N + 3 + (0 + 1), .box 22 (.slice none (b.map byteAV))), (N + 2, outB (N + 5) []), (N + 5, outR 0)])
    (post := [(N + 3 + (0 + 1), .box 22 (.slice none [])), (N + 2, outB (N + 5) L), (N + 5, outR L.length)]) (res := .tup []) (by unfold outS; simp (disch := omega) [go_sem, *, -List.reduceReplicate]) (by unfold outB outR; intro p hp; simp at hp; rcases hp with rfl | rfl | rfl <;> (simp (disch := omega) [go_sem, *, -List.reduceReplicate])) (by simp) (by simp) ?_ ?_
  · intro l r hst hpe hps hA hB
    refine ⟨.ready, by simp, ?_⟩
    have hr : ({ r with state := .ready, pending := jumpOf .normal } : Loop) = r := by cases r; simp only at hst hpe; subst hst; subst hpe; rfl
    rw [hr]
    have key := (fields1_ok b hb L hL l 19 r (outS N 38 b) (fun u => outB (N + 5) (L.take u)) (fun u => outR u) (N + 2) (N + 5) (N + 3 + (0 + 1)) (N + 5 + 1 + 1) (N + 5 + 1 + 2) (by omega) (by omega) (by omega) (outB_ne _ _) (outR_ne _) (fun u n0 kk h => outB_ren _ _ _ _ (by omega)) (fun u n0 kk h => rfl) ?_).keepPost
    · simp only [List.take_zero, List.take_length] at key
      exact key
    · intro u hu kk
      have hacc : L.take (u + 1) = L.take u ++ [L[u]] := List.take_succ_eq_append_getElem hu
      have hlen : (L.take u).length = u := by rw [List.length_take]; omega
      show AYield _ _ _ _ [_, (N + 2, outB (N + 5) (L.take u)), (N + 5, outR u)] _ [_, (N + 2, outB (N + 5) (L.take (u + 1))), (N + 5, outR (u + 1))]
      rw [hacc]
      generalize L.take u = acc at *
      generalize L[u] = z at *
      have hyl := AYield.of_body (P := Try.prog) (l := l) (N := 19) (r := r) (s := outS N 38 b) (j := N + 5 + 1 + 1) (k := kk) (args := [bAV z, .lit (.int .i64 0)]) (pre := [(N + 2, outB (N + 5) acc), (N + 5, outR u)]) (ws := [(N + 2, outB (N + 5) (acc ++ [z])), (N + 5, outR (u + 1))]) (post := [(N + 2, outB (N + 5) (acc ++ [z])), (N + 5, outR (u + 1))])
        .normal mixed hst (ps := [9, 10]) (by rw [hps]) hA hB rfl (by simp) (by kernel_rfl) (by kernel_rfl) (by kernel_rfl) (by kernel_rfl) (by simp [outB_ne, outR_ne]) (by simp) (by simp) (by simp) ?_
      · rw [endRec_normal hst hpe] at hyl
        exact hyl
      · clear hA hB hr hacc
        intro σ' N' hp' hpn' hj hjn hk' hkn' hfree'
        simp only [List.mem_cons, List.not_mem_nil, or_false, forall_eq_or_imp, forall_eq] at hp' hpn'
        obtain ⟨e1, e2⟩ := hp'
        obtain ⟨n1, n2⟩ := hpn'
        refine ⟨by simp only [renF, List.map_cons, List.map_nil, outB_ren _ _ _ _ n2]; rfl, ?_⟩
        unfold outB outR at *
        unfold outS sputs sputs sputs at *
        have hzb := bAV_def z
        have hb24 : (acc.length + 1) * 24 ≤ 140737488355328 := by omega
        refine Wk ?_
        refine ⟨rfl, by simp (disch := omega) [go_sem, *, -List.reduceReplicate], ?_⟩
        refine Wk ?_
        refine ⟨rfl, fun id hid => ?_⟩
        simp only [wr_cons, wr_nil]
        by_cases i1 : id = N + 5
        · subst i1; simp (disch := omega) [go_sem, *]
        by_cases i2 : id = N + 2
        · subst i2; simp (disch := omega) [go_sem, *]
        by_cases i3 : id = N + 5 + 1 + 1
        · subst i3; simp (disch := omega) [go_sem, *]
        simp (disch := omega) only [upd_ne]
  · intro l r
    unfold outB outR outS
    exact WL
set_option maxHeartbeats 2000000 in
theorem All_err (b : List UInt8) (hb : b.length ≤ 100000) (L : List (List UInt8)) (e : Nat) (hL : allL b = (L, e)) (he : e ≠ 0) (k : Nat) : ACall Try.prog 32 [.slice none (b.map byteAV)] k [] (.tup [.nils, .lit (.int .i64 e)]) [] := by
  have c1 := fields_spec b
  have hll := allL_len b.length b (Nat.le_refl _)
  rw [hL] at hll
  simp only at hll
  refine ACall.of_body mixed Try.func32 rfl (by kernel_rfl) Try.ntmps32 (by kernel_rfl) rfl (by simp) (by simp) (by simp) fun σ N hp hpn hk hkn hfree => ?_
  have hcs := And.intro c1 True.intro
  clear c1
  refine Wk ?_
  refine go_nilrowIn (N + 2) [] 22 1 (bt := 40) (c := .nils) (by simp (disch := omega) [go_sem, *, -List.reduceReplicate]) rfl ?_
  change aw _ _ _ _ ⟨outS N 38 b, _, _⟩
  refine go_rangeFunc .ret (f := 38) (caps := [.ptr (N + 3 + (0 + 1)) [] 0]) (pre := [(N + 3 + (0 + 1), .box 22 (.slice none (b.map byteAV))), (N + 2, outB (N + 5) []), (N + 5, outR 0), (N, .box 40 .nils), (N + 1, .box 24 (.lit (.int .i64 0)))])
    (post := [(N + 3 + (0 + 1), .box 22 (.slice none ((b.drop (joinB L).length).map byteAV))), (N + 2, outB (N + 5) L), (N + 5, outR L.length), (N, .box 40 .nils), (N + 1, .box 24 (.lit (.int .i64 e)))]) (res := .tup []) (by unfold outS; simp (disch := omega) [go_sem, *, -List.reduceReplicate]) (by unfold outB outR; intro p hp; simp at hp; rcases hp with rfl | rfl | rfl | rfl | rfl <;> (simp (disch := omega) [go_sem, *, -List.reduceReplicate])) (by simp; omega) (by simp; omega) ?_ ?_
  · intro l r hst hpe hps hA hB
    refine ⟨.done, by simp, ?_⟩
    have key := fields1_err b hb L e hL he l 19 r { r with state := .done, pending := jumpOf .ret } (outS N 38 b) (fun u => outB (N + 5) (L.take u)) (fun u => outR u) (.box 40 .nils) (.box 24 (.lit (.int .i64 0))) (.box 40 .nils) (.box 24 (.lit (.int .i64 e))) N (N + 1) (N + 2) (N + 5) (N + 3 + (0 + 1)) (N + 5 + 1 + 1) (N + 5 + 1 + 2) (by omega) (by omega) (by omega) (by omega) (by omega) (outB_ne _ _) (outR_ne _) (by simp) (by simp) (fun u n0 kk h => outB_ren _ _ _ _ (by omega)) (fun u n0 kk h => rfl) (fun n0 kk h => rfl) (fun n0 kk h => rfl) (fun n0 kk h => outS_ren _ _ _ _ _ (by omega)) ?_ ?_
    · simp only [List.take_zero, List.take_length] at key
      exact key
    · intro u hu kk
      have hacc : L.take (u + 1) = L.take u ++ [L[u]] := List.take_succ_eq_append_getElem hu
      have hlen : (L.take u).length = u := by rw [List.length_take]; omega
      show AYield _ _ _ _ [_, (N + 2, outB (N + 5) (L.take u)), (N + 5, outR u)] _ [_, (N + 2, outB (N + 5) (L.take (u + 1))), (N + 5, outR (u + 1))]
      rw [hacc]
      generalize L.take u = acc at *
      generalize L[u] = z at *
      have hyl := AYield.of_body (P := Try.prog) (l := l) (N := 19) (r := r) (s := outS N 38 b) (j := N + 5 + 1 + 1) (k := kk) (args := [bAV z, .lit (.int .i64 0)]) (pre := [(N + 2, outB (N + 5) acc), (N + 5, outR u)]) (ws := [(N + 2, outB (N + 5) (acc ++ [z])), (N + 5, outR (u + 1))]) (post := [(N + 2, outB (N + 5) (acc ++ [z])), (N + 5, outR (u + 1))])
        .normal mixed hst (ps := [9, 10]) (by rw [hps]) hA hB rfl (by simp) (by kernel_rfl) (by kernel_rfl) (by kernel_rfl) (by kernel_rfl) (by simp [outB_ne, outR_ne]) (by simp) (by simp) (by simp) ?_
      · rw [endRec_normal hst hpe] at hyl
        exact hyl
      · clear hA hB hacc
        intro σ' N' hp' hpn' hj hjn hk' hkn' hfree'
        simp only [List.mem_cons, List.not_mem_nil, or_false, forall_eq_or_imp, forall_eq] at hp' hpn'
        obtain ⟨e1, e2⟩ := hp'
        obtain ⟨n1, n2⟩ := hpn'
        refine ⟨by simp only [renF, List.map_cons, List.map_nil, outB_ren _ _ _ _ n2]; rfl, ?_⟩
        unfold outB outR at *
        unfold outS sputs sputs sputs at *
        have hzb := bAV_def z
        have hb24 : (acc.length + 1) * 24 ≤ 140737488355328 := by omega
        refine Wk ?_
        refine ⟨rfl, by simp (disch := omega) [go_sem, *, -List.reduceReplicate], ?_⟩
        refine Wk ?_
        refine ⟨rfl, fun id hid => ?_⟩
        simp only [wr_cons, wr_nil]
        by_cases i1 : id = N + 5
        · subst i1; simp (disch := omega) [go_sem, *]
        by_cases i2 : id = N + 2
        · subst i2; simp (disch := omega) [go_sem, *]
        by_cases i3 : id = N + 5 + 1 + 1
        · subst i3; simp (disch := omega) [go_sem, *]
        simp (disch := omega) only [upd_ne]
    · intro kk
      have hyl := AYield.of_body (P := Try.prog) (l := l) (N := 19) (r := r) (s := outS N 38 b) (j := N + 5 + 1 + 1) (k := kk) (args := [.slice none [], .lit (.int .i64 e)]) (pre := [(N, .box 40 .nils), (N + 1, .box 24 (.lit (.int .i64 0)))]) (ws := [(N, .box 40 .nils), (N + 1, .box 24 (.lit (.int .i64 e)))]) (post := [(N, .box 40 .nils), (N + 1, .box 24 (.lit (.int .i64 e)))])
        .ret mixed hst (ps := [9, 10]) (by rw [hps]) hA hB rfl (by simp) (by kernel_rfl) (by kernel_rfl) (by kernel_rfl) (by kernel_rfl) (by simp) (by simp; omega) (by simp) (by simp) ?_
      · exact hyl
      · clear hA hB
        intro σ' N' hp' hpn' hj hjn hk' hkn' hfree'
        simp only [List.mem_cons, List.not_mem_nil, or_false, forall_eq_or_imp, forall_eq] at hp' hpn'
        obtain ⟨e1, e2⟩ := hp'
        obtain ⟨n1, n2⟩ := hpn'
        refine ⟨rfl, ?_⟩
        unfold outS sputs sputs sputs at *
        have hei : ¬ ((e : Int) = 0) := by omega
        refine Wk ?_
        refine ⟨rfl, by simp (disch := omega) [go_sem, *, -List.reduceReplicate], ?_⟩
        refine Wk ?_
        refine ⟨rfl, fun id hid => ?_⟩
        simp only [wr_cons, wr_nil]
  · intro l r
    unfold outB outR outS
    exact W0

theorem All_spec (b : List UInt8) (hb : b.length ≤ 100000) (k : Nat) : ACall Try.prog 32 [.slice none (b.map byteAV)] k [] (.tup [.slice none ((allS b).1.map bAV), .lit (.int .i64 ((allS b).2 : Nat))]) [] := by
  unfold allS
  rcases hL : allL b with ⟨L, e⟩
  simp only
  by_cases he : e = 0
  · subst he
    rw [if_pos rfl]
    exact All_ok b hb L hL k
  · rw [if_neg he]
    exact (All_err b hb L e hL he k).result (AV.sub_tup (.cons AV.le_nils0 (.cons (AV.le_refl _) .nil)))
end Go.Proofs.Ytmhehlfocfhpkaa

/- The law FieldLists. -/
namespace Go.Proofs.Ytmhehlfocfhpkaa
open Go.Ab
attribute [local irreducible] Go.Ab.tyAV Go.Ab.aw Go.Ab.aops Go.Ab.kReg Go.Ab.aThen Go.Ab.aBlk Go.Ab.acond Go.Ab.aguard Go.Ab.astep Go.Ab.AStepX Go.Ab.aRet

theorem joinS_len (L : List (List UInt8)) (hl : L.length ≤ 1000) : (joinS L).1.length ≤ 2000000 := by
  unfold joinS
  split
  · rename_i h
    have := joinB_len L h
    simp only; omega
  · simp
theorem allS_len (b : List UInt8) : (allS b).1.length ≤ b.length ∧ ∀ x ∈ (allS b).1, x.length ≤ 1024 := by
  unfold allS
  split
  · rename_i h
    exact ⟨allL_len _ b (Nat.le_refl _), (allL_join _ b (Nat.le_refl _) h).1⟩
  · exact ⟨Nat.zero_le _, fun x hx => by cases hx⟩

theorem snocZ {F X : List (List UInt8)} {z : List UInt8} (hX : F ++ [z] = X) (a b : Option Nat) : AV.le (.slice a (F.map bAV ++ [.slice b (z.map byteAV)])) (.slice none (X.map bAV)) := fun g v h => by
  subst hX
  rw [List.map_append]
  exact AV.le_own _ _ g v (AV.le_sliceS _ (ALe.snoc (AV.le_own _ _)) g v h)
set_option maxHeartbeats 4000000 in
theorem lists_core (F : List (List UInt8)) (L0 : List (List UInt8)) (hL0 : L0.length ≤ 9223372036854775807) (hF : fewS L0 = F) (b0 b : List UInt8) (m1 : Nat) (i1 : (if (200 : Int) < (b0.length : Int) then (200 : Int) else (b0.length : Int)) = (m1 : Int)) (i2 : m1 ≤ b0.length) (i3 : m1 ≤ 200) (i4 : b.length = m1) (i5 : (b0.map byteAV).take m1 = b.map byteAV)
    (nn : Nat) (hnn : nn < 65536) (k : Nat) :
    ACall Try.prog 10 [.slice none (L0.map bAV), .slice none (b0.map byteAV), .lit (.int .u16 nn)] k [] (.lit (.bool true)) [] := by
  have a0 := few_spec L0 hL0
  have f1 := fewS_len L0
  have f2 := fewS_ok L0
  rw [hF] at a0 f1 f2
  have a1 := Join_spec F (by omega)
  have a2 := refJoin_spec F (by omega)
  have l1 := joinS_len F (by omega)
  have a3 := All_spec b (by omega)
  have a4 := refAll_spec b (by omega)
  obtain ⟨l2, l3⟩ := allS_len b
  obtain ⟨z, hz⟩ : ∃ z : List UInt8, List.replicate (1000 + nn % 50) (0 : UInt8) = z := ⟨_, rfl⟩
  have hzr : List.replicate ((1000 + ((nn % 50 : Nat) : Int)).toNat) (AV.lit (.int .u8 0)) = z.map byteAV := by rw [show (1000 + ((nn % 50 : Nat) : Int)).toNat = 1000 + nn % 50 by omega, ← hz, List.map_replicate]; rfl
  have e50 : ((nn : Int).tmod 50) = ((nn % 50 : Nat) : Int) := by rw [Int.tmod_eq_emod_of_nonneg (by omega)]; omega
  have hn50 : nn % 50 < 50 := Nat.mod_lt _ (by decide)
  have a5 := Join_spec (F ++ [z]) (by simp; omega)
  have a6 := refJoin_spec (F ++ [z]) (by simp; omega)
  have l4 := joinS_len (F ++ [z]) (by simp; omega)
  generalize joinS F = J1 at *
  generalize joinS (F ++ [z]) = J2 at *
  generalize allS b = J3 at *
  generalize nn % 50 = v at *
  obtain ⟨x1, e1⟩ := J1
  obtain ⟨x2, e2⟩ := J2
  obtain ⟨x3, e3⟩ := J3
  simp only at a1 a2 a3 a4 a5 a6 l1 l2 l3 l4
  have s1 := Same_spec x1 x1 (by omega)
  have s2 := Same_spec x2 x2 (by omega)
  have s3 := SameLists_refl x3 (by omega) (fun r hr => by have := l3 r hr; omega)
  rw [decide_eq_true rfl] at s1 s2
  have s4 := awake04_spec
  generalize hX : F ++ [z] = X at *
  have hzb := (bAV_def z).symm
  clear f2 l1 l2 l3 l4 hF hz
  refine ACall.of_body mixed Try.func10 rfl (by kernel_rfl) Try.ntmps10 (by kernel_rfl) rfl (by simp) (by simp) (by simp) fun σ N hp hpn hk hkn hfree => ?_
  have hcs := And.intro a0 (And.intro a1 (And.intro a2 (And.intro a3 (And.intro a4 True.intro))))
  clear a0 a1 a2 a3 a4
  repeat (first | apply go_nil | apply go_kreg | apply go_kreg0 | apply go_kreg1 | (apply go_kregT; · (first | (simp [addT, CF, CFy, Ind, DisjF]; done) | (simp only [addT, CF, CFy, Ind]; repeat' (first | exact trivial | apply And.intro | exact Or.inl (by decide +kernel) | (refine Or.inr ⟨?_, ?_⟩ <;> (simp; try omega)))))) | apply go_then | apply go_then_exit | apply go_then_ret | apply go_blk | apply go_blk_ret | apply go_blk_here | (apply go_blk_there; · rfl) | apply go_seq | apply go_skip | apply go_block | apply go_scope | apply go_label | apply go_exit | apply go_ret | (apply go_mut; (· assumption); · (simp (disch := omega) [go_sem, *, -List.reduceReplicate]; first | exact ⟨rfl, rfl⟩ | (simp [go_sem, *]; exact ⟨rfl, rfl⟩))) | (apply go_mutP; (· assumption); · (simp (disch := omega) [go_sem, *, -List.reduceReplicate]; try first | rfl | exact ⟨rfl, rfl⟩ | exact ⟨rfl, rfl, rfl⟩)) | (apply go_guard_in; (· rfl); · (simp (disch := omega) [go_sem, *, -List.reduceReplicate]; try first | rfl | omega)) | (apply go_guard_off; (· rfl); · (simp (disch := omega) [go_sem, *, -List.reduceReplicate]; try first | rfl | omega)) | (apply go_guard_no; (· rfl); · (simp (disch := omega) [go_sem, *, -List.reduceReplicate]; try rfl)) | ((first | apply go_move | apply go_assign | apply go_load | apply go_store | apply go_append | apply go_copy | apply go_copy0 | apply go_clear0 | apply go_slice3 | apply go_indexA); · (simp (disch := omega) [go_sem, *, -List.reduceReplicate]; try first | rfl | exact ⟨rfl, rfl⟩ | exact ⟨rfl, rfl, rfl⟩)) | ((first | apply go_loadv | apply go_append0 | apply go_beyond); · (simp (disch := omega) [go_sem, *, -List.reduceReplicate]; try first | rfl | exact ⟨rfl, rfl⟩ | exact ⟨rfl, rfl, rfl⟩)) | (apply go_appself; · (simp (disch := omega) [go_sem, *, -List.reduceReplicate]; try first | rfl | exact ⟨rfl, rfl⟩ | exact ⟨rfl, rfl, rfl⟩)) | ((first | (apply go_appendz; · rfl) | (apply go_new; · rfl) | (apply go_pure; · rfl)); · (simp (disch := omega) [go_sem, *, -List.reduceReplicate]; try first | rfl | exact ⟨rfl, rfl⟩ | exact ⟨rfl, rfl, rfl⟩)) | ((apply go_glob; · assumption); · (simp (disch := omega) [go_sem, *, -List.reduceReplicate]; try first | rfl | exact ⟨rfl, rfl⟩ | exact ⟨rfl, rfl, rfl⟩)) | (apply go_read1; (· rfl); · (simp (disch := omega) [go_sem, *, -List.reduceReplicate]; try first | rfl | exact ⟨rfl, rfl⟩ | exact ⟨rfl, rfl, rfl⟩)) | (apply go_rw1; (· rfl); · (simp (disch := omega) [go_sem, *, -List.reduceReplicate]; try first | rfl | exact ⟨rfl, rfl⟩ | exact ⟨rfl, rfl, rfl⟩)) | (apply go_new1; (· rfl); · (simp (disch := omega) [go_sem, *, -List.reduceReplicate]; try first | rfl | exact ⟨rfl, rfl⟩ | exact ⟨rfl, rfl, rfl⟩)) | (apply go_conv; · (simp (disch := omega) [go_sem, *, -List.reduceReplicate]; try first | rfl | exact ⟨rfl, rfl⟩ | exact ⟨rfl, rfl, rfl⟩)) | ((first | (apply go_new; · rfl) | (apply go_pure; · rfl)); · (simp (disch := omega) [go_sem, *, -List.reduceReplicate]; simp [go_sem, *]; try first | rfl | exact ⟨rfl, rfl⟩)) | (apply go_condT; · (simp (disch := omega) [go_sem, *, -List.reduceReplicate]; try first | rfl | omega; done)) | (apply go_condF; · (simp (disch := omega) [go_sem, *, -List.reduceReplicate]; try first | rfl | omega; done)) | (obtain ⟨hcall, hcs⟩ := hcs; (first | refine go_callw (hcall _) (by simp (disch := omega) [go_sem, *, -List.reduceReplicate]; try rfl) (by simp (disch := omega) [go_sem, *, -List.reduceReplicate]; repeat' first | exact ALe.nil | exact AV.le_refl _ | exact AV.le_nils | exact AV.le_own _ _ | apply ALe.cons | apply AV.sub_agg) (by simp (disch := omega) [go_sem, *, -List.reduceReplicate]) ?_ | refine go_yieldw (hcall _) (by simp (disch := omega) [go_sem, *, -List.reduceReplicate]; try rfl) (by simp (disch := omega) [go_sem, *, -List.reduceReplicate]; repeat' first | exact ALe.nil | exact AV.le_refl _ | exact AV.le_nils | exact AV.le_own _ _ | apply ALe.cons | apply AV.sub_agg) (by simp (disch := omega) [go_sem, *, -List.reduceReplicate]) ?_); clear hcall))
  iterate 7 ((apply go_region; (· (simp only [List.length_cons, List.length_nil, Nat.reduceAdd, Nat.add_assoc]; rfl))); repeat (first | apply go_nil | apply go_kreg | apply go_kreg0 | apply go_kreg1 | (apply go_kregT; · (first | (simp [addT, CF, CFy, Ind, DisjF]; done) | (simp only [addT, CF, CFy, Ind]; repeat' (first | exact trivial | apply And.intro | exact Or.inl (by decide +kernel) | (refine Or.inr ⟨?_, ?_⟩ <;> (simp; try omega)))))) | apply go_then | apply go_then_exit | apply go_then_ret | apply go_blk | apply go_blk_ret | apply go_blk_here | (apply go_blk_there; · rfl) | apply go_seq | apply go_skip | apply go_block | apply go_scope | apply go_label | apply go_exit | apply go_ret | (apply go_mut; (· assumption); · (simp (disch := omega) [go_sem, *, -List.reduceReplicate]; first | exact ⟨rfl, rfl⟩ | (simp [go_sem, *]; exact ⟨rfl, rfl⟩))) | (apply go_mutP; (· assumption); · (simp (disch := omega) [go_sem, *, -List.reduceReplicate]; try first | rfl | exact ⟨rfl, rfl⟩ | exact ⟨rfl, rfl, rfl⟩)) | (apply go_guard_in; (· rfl); · (simp (disch := omega) [go_sem, *, -List.reduceReplicate]; try first | rfl | omega)) | (apply go_guard_off; (· rfl); · (simp (disch := omega) [go_sem, *, -List.reduceReplicate]; try first | rfl | omega)) | (apply go_guard_no; (· rfl); · (simp (disch := omega) [go_sem, *, -List.reduceReplicate]; try rfl)) | ((first | apply go_move | apply go_assign | apply go_load | apply go_store | apply go_append | apply go_copy | apply go_copy0 | apply go_clear0 | apply go_slice3 | apply go_indexA); · (simp (disch := omega) [go_sem, *, -List.reduceReplicate]; try first | rfl | exact ⟨rfl, rfl⟩ | exact ⟨rfl, rfl, rfl⟩)) | ((first | apply go_loadv | apply go_append0 | apply go_beyond); · (simp (disch := omega) [go_sem, *, -List.reduceReplicate]; try first | rfl | exact ⟨rfl, rfl⟩ | exact ⟨rfl, rfl, rfl⟩)) | (apply go_appself; · (simp (disch := omega) [go_sem, *, -List.reduceReplicate]; try first | rfl | exact ⟨rfl, rfl⟩ | exact ⟨rfl, rfl, rfl⟩)) | ((first | (apply go_appendz; · rfl) | (apply go_new; · rfl) | (apply go_pure; · rfl)); · (simp (disch := omega) [go_sem, *, -List.reduceReplicate]; try first | rfl | exact ⟨rfl, rfl⟩ | exact ⟨rfl, rfl, rfl⟩)) | ((apply go_glob; · assumption); · (simp (disch := omega) [go_sem, *, -List.reduceReplicate]; try first | rfl | exact ⟨rfl, rfl⟩ | exact ⟨rfl, rfl, rfl⟩)) | (apply go_read1; (· rfl); · (simp (disch := omega) [go_sem, *, -List.reduceReplicate]; try first | rfl | exact ⟨rfl, rfl⟩ | exact ⟨rfl, rfl, rfl⟩)) | (apply go_rw1; (· rfl); · (simp (disch := omega) [go_sem, *, -List.reduceReplicate]; try first | rfl | exact ⟨rfl, rfl⟩ | exact ⟨rfl, rfl, rfl⟩)) | (apply go_new1; (· rfl); · (simp (disch := omega) [go_sem, *, -List.reduceReplicate]; try first | rfl | exact ⟨rfl, rfl⟩ | exact ⟨rfl, rfl, rfl⟩)) | (apply go_conv; · (simp (disch := omega) [go_sem, *, -List.reduceReplicate]; try first | rfl | exact ⟨rfl, rfl⟩ | exact ⟨rfl, rfl, rfl⟩)) | ((first | (apply go_new; · rfl) | (apply go_pure; · rfl)); · (simp (disch := omega) [go_sem, *, -List.reduceReplicate]; simp [go_sem, *]; try first | rfl | exact ⟨rfl, rfl⟩)) | (apply go_condT; · (simp (disch := omega) [go_sem, *, -List.reduceReplicate]; try first | rfl | omega; done)) | (apply go_condF; · (simp (disch := omega) [go_sem, *, -List.reduceReplicate]; try first | rfl | omega; done)) | (obtain ⟨hcall, hcs⟩ := hcs; (first | refine go_callw (hcall _) (by simp (disch := omega) [go_sem, *, -List.reduceReplicate]; try rfl) (by simp (disch := omega) [go_sem, *, -List.reduceReplicate]; repeat' first | exact ALe.nil | exact AV.le_refl _ | exact AV.le_nils | exact AV.le_own _ _ | apply ALe.cons | apply AV.sub_agg) (by simp (disch := omega) [go_sem, *, -List.reduceReplicate]) ?_ | refine go_yieldw (hcall _) (by simp (disch := omega) [go_sem, *, -List.reduceReplicate]; try rfl) (by simp (disch := omega) [go_sem, *, -List.reduceReplicate]; repeat' first | exact ALe.nil | exact AV.le_refl _ | exact AV.le_nils | exact AV.le_own _ _ | apply ALe.cons | apply AV.sub_agg) (by simp (disch := omega) [go_sem, *, -List.reduceReplicate]) ?_); clear hcall)))
  refine go_less (x := .slice (some (N + 38)) (F.map bAV ++ [.slice (some (N + 38 + 7)) (z.map byteAV)])) (y := .slice none (X.map bAV)) 15 (by simp (disch := omega) [go_sem, *, -List.reduceReplicate]) (snocZ hX _ _) ?_
  have hcs := And.intro a5 (And.intro a6 (And.intro s1 (And.intro s3 (And.intro s2 (And.intro s4 True.intro)))))
  clear a5 a6 s1 s2 s3 s4 hX
  exact W0
theorem FieldLists_spec (l : List (List UInt8)) (hl : l.length ≤ 9223372036854775807 ∧ ∀ d ∈ l, d.length ≤ 9223372036854775807) (b : List UInt8) (n : Int) (w2 : (Lit.int .u16 n).wf = true) (k : Nat) :
    ACall Try.prog 10 [.slice none (l.map bAV), .slice none (b.map byteAV), .lit (.int .u16 n)] k [] (.lit (.bool true)) [] := by
  obtain ⟨m1, t1, p1, p2, p3, p4, p5⟩ := cutAt 200 b
  have hn : 0 ≤ n ∧ n < 65536 := by
    have hw : IntKind.u16.min ≤ n ∧ n ≤ IntKind.u16.max := by simpa [Lit.wf] using w2
    have e1 : IntKind.u16.min = 0 := by decide
    have e2 : IntKind.u16.max = 65535 := by decide
    omega
  obtain ⟨nn, rfl⟩ := Int.eq_ofNat_of_zero_le hn.1
  exact lists_core (fewS l) l hl.1 rfl b t1 m1 p1 p2 p3 p4 p5 nn (by omega) k
end Go.Proofs.Ytmhehlfocfhpkaa

/- The law FieldBack. -/
namespace Go.Proofs.Ytmhehlfocfhpkaa
open Go.Ab
attribute [local irreducible] Go.Ab.tyAV Go.Ab.aw Go.Ab.aops Go.Ab.kReg Go.Ab.aThen Go.Ab.aBlk Go.Ab.acond Go.Ab.aguard Go.Ab.astep Go.Ab.AStepX Go.Ab.aRet

theorem FieldBack_spec (l : List (List UInt8)) (hl : l.length ≤ 9223372036854775807 ∧ ∀ d ∈ l, d.length ≤ 9223372036854775807) (k : Nat) :
    ACall Try.prog 11 [.slice none (l.map bAV)] k [] (.lit (.bool true)) [] := by
  have a0 := few_spec l hl.1
  have f1 := fewS_len l
  have f2 := fewS_ok l
  generalize fewS l = F at *
  have hok : joinOk F := fun x hx => by have := f2 x hx; omega
  have a1 := Join_spec F (by omega)
  have hj : joinS F = (joinB F, 0) := if_pos hok
  rw [hj] at a1
  have hbl := joinB_len F hok
  have a2 := All_spec (joinB F) (by omega)
  have hs : allS (joinB F) = (F, 0) := by unfold allS; rw [allL_back F hok]; rfl
  rw [hs] at a2
  simp only at a1 a2
  have a3 := SameLists_refl F (by omega) (fun r hr => by have := f2 r hr; omega)
  generalize joinB F = B at *
  have hcs := And.intro a0 (And.intro a1 (And.intro a2 (And.intro a3 (And.intro awake04_spec True.intro))))
  clear a0 a1 a2 a3 hok f2 hj hbl hs
  refine ACall.of_body mixed Try.func11 rfl (by kernel_rfl) Try.ntmps11 (by kernel_rfl) rfl (by simp) (by simp) (by simp) fun σ N hp hpn hk hkn hfree => ?_
  exact W0
end Go.Proofs.Ytmhehlfocfhpkaa

/- The law FieldUnique. -/
namespace Go.Proofs.Ytmhehlfocfhpkaa
open Go.Ab
attribute [local irreducible] Go.Ab.tyAV Go.Ab.aw Go.Ab.aops Go.Ab.kReg Go.Ab.aThen Go.Ab.aBlk Go.Ab.acond Go.Ab.aguard Go.Ab.astep Go.Ab.AStepX Go.Ab.aRet

theorem joinB_len200 (L : List (List UInt8)) (h : ∀ x ∈ L, x.length ≤ 200) : (joinB L).length ≤ 202 * L.length := by
  induction L with
  | nil => simp [joinB]
  | cons x L ih =>
    have h0 := h x (List.mem_cons_self ..)
    have h1 := leb_len1 x.length 1 (by omega)
    have h2 := ih fun y hy => h y (List.mem_cons_of_mem _ hy)
    simp only [joinB, List.flatMap_cons, List.length_append, List.length_cons, fieldB] at *
    omega

set_option maxHeartbeats 1000000 in
theorem refJoin_m (L : List (List UInt8)) (hl : L.length ≤ 9000) (hok : joinOk L) (k : Nat) : ACall Try.prog 31 [.slice none (L.map bAV)] k [] (.tup [.ms k L.length 1 0 (joinB L).length, .lit (.int .i64 0)]) [(k, .mrow L.length 5 1 ((joinB L).map byteAV))] := by
  have hall : L.take L.length = L := List.take_length
  refine ACall.of_body mixed Try.func31 rfl (by kernel_rfl) Try.ntmps31 (by kernel_rfl) rfl (by simp) (by simp) (by simp) fun σ N hp hpn hk hkn hfree => ?_
  refine Wk ?_
  refine go_nilM 4 5 1 (by simp (disch := omega) [go_sem, *, -List.reduceReplicate]) ?_
  refine go_loopF mixed (by kernel_rfl) [2, 3, 4, 5, 6, 7, 8, 9, 10, 11, 12, 13, 14, 15, 16, 17, 18, 19, 20, 21, 22, 23, 24] [N+4] (fun m_ s_ σ_ n_ => ∃ (u : Nat) (acc : List UInt8), m_ = L.length - u ∧ s_ 5 = .lit (.int .i64 u) ∧ s_ 4 = .ms (N + 4) u 1 0 acc.length ∧ σ_ (N+4) = .mrow u 5 1 (acc.map byteAV) ∧ (u ≤ L.length) ∧ (joinB (L.take u) = acc)) ⟨_, 0, [], rfl, WF, WF, WF, WC, WC⟩ ?_
  intro m_1 s_1 σ_1 n_1 hs_1 hf_1 hn_1 hI_1
  obtain ⟨u, acc, hm_1, h1_5, h1_4, e1_0, hu, hacc⟩ := hI_1
  have h1_0 := (hs_1.at 0 (by decide)).trans WE
  have hlow : ∀ id, id < N → σ_1 id = σ id := fun id hid => (hf_1.at id (by omega) WQ).trans WH
  by_cases hul : u = L.length
  · subst hul
    rw [hall] at hacc
    subst hacc
    clear hok hall
    refine Wk ?_
    refine go_result1 (r0 := N+4) (by simp (disch := omega) [go_sem, *, -List.reduceReplicate]; rfl) (by omega) (by simp (disch := omega) [go_sem]; try rfl) (fun id hid => by simp (disch := omega) only [upd_ne, wr_cons, wr_nil]; try exact hlow id hid) (by simp (disch := omega) [go_sem, *, -List.reduceReplicate]; rfl) (by simp (disch := omega) [go_sem])
  · have hu1 : u < L.length := by omega
    have hal := joinB_len (L.take u) (fun x hx => hok x (List.mem_of_mem_take hx))
    rw [hacc, List.length_take] at hal
    obtain ⟨z, hz⟩ : ∃ z, L[u] = z := ⟨_, rfl⟩
    have hzb := bAV_def z
    have hx : z.length ≤ 1024 := hz ▸ hok _ (List.getElem_mem hu1)
    have c1 := Field_spec_f z (by omega)
    have hfl := fieldB_len z hx
    have hacc2 : joinB (L.take (u + 1)) = acc ++ fieldB z := by rw [List.take_succ_eq_append_getElem hu1, joinB_snoc, hz, hacc]
    have hxi : ¬ (1024 : Int) < (z.length : Int) := by omega
    have hal2 : acc.length ≤ 10000000 := by omega
    obtain ⟨ac, ha⟩ : ∃ a, acc ++ fieldB z = a := ⟨_, rfl⟩
    have ham : acc.map byteAV ++ (fieldB z).map byteAV = ac.map byteAV := by rw [← List.map_append, ha]
    have haln : acc.length + (fieldB z).length = ac.length := by rw [← List.length_append, ha]
    rw [ha] at hacc2
    have hcs := And.intro c1 True.intro
    clear c1 hacc hok hall hal ha
    refine Wk ?_
    exact ⟨WS, WG, WN, _, (show L.length - (u + 1) < m_1 by omega), u + 1, ac, rfl, WF, WF, WF, WC, WC⟩
end Go.Proofs.Ytmhehlfocfhpkaa

/- The deck of numbers that the laws draw from. -/
namespace Go.Proofs.Ytmhehlfocfhpkaa
open Go.Ab
attribute [local irreducible] Go.Ab.tyAV Go.Ab.aw Go.Ab.aops Go.Ab.kReg Go.Ab.aThen Go.Ab.aBlk Go.Ab.acond Go.Ab.aguard Go.Ab.astep Go.Ab.AStepX Go.Ab.aRet

theorem within_eq (x n : Int) (h : 0 < n) : (x.tmod n + n).tmod n = x % n := by
  have h2 : -n < x.tmod n := by have := Int.lt_tmod_of_pos x h; omega
  rw [Int.tmod_eq_emod_of_nonneg (by omega), Int.add_emod_right, Int.tmod_eq_emod]
  split
  · rename_i hh; simp
  · rw [Int.sub_emod]; have : n ∣ n.natAbs := by rw [Int.dvd_natAbs]; exact Int.dvd_refl n
    simp [Int.emod_emod_of_dvd, Int.emod_eq_zero_of_dvd this]

theorem Within_spec (x n : Int) (h : 0 < n) (hn : n ≤ 1000000000000000000) (k : Nat) :
    ACall Try.prog 23 [.lit (.int .i64 x), .lit (.int .i64 n)] k [] (.lit (.int .i64 (x % n))) [] := by
  have h0 : n ≠ 0 := by omega
  have h1 : x.tmod n < n := Int.tmod_lt_of_pos x h
  have h2 : -n < x.tmod n := by have := Int.lt_tmod_of_pos x h; omega
  refine ACall.of_body mixed Try.func23 rfl (by kernel_rfl) Try.ntmps23 (by kernel_rfl) rfl (by simp) (by simp) (by simp) fun σ N hp hpn hk hkn hfree => ?_
  refine Wk ?_
  exact go_result (by simp (disch := omega) [go_sem, *, -List.reduceReplicate]; rfl) (by simp only [AV.ren, within_eq x n h]) (fun id _ => rfl)

def deckBox (l : List Int) (i : Nat) : Ent := .box 59 (.agg [.slice none (l.map intAV), .lit (.int .i64 i)])
@[simp, go_sem] theorem deckBox_ne (l : List Int) (i : Nat) : (deckBox l i = .none) = False := by simp [deckBox]
@[go_sem] theorem deckBox_ren (l : List Int) (i : Nat) (f : Nat → Option Nat) : (deckBox l i).ren f = deckBox l i := by
  simp only [deckBox, ent_ren_box, AV.ren, AV.renl, renl_ints, Option.bind_none]
/-- A deck as it may be. -/
def Dk (l : List Int) (i : Nat) : Prop := l.length ≤ 9223372036854775807 ∧ i ≤ l.length

theorem New_spec (l : List Int) (k : Nat) : ACall Try.prog 19 [.slice none (l.map intAV)] k [] (.ptr k [] 0) [(k, deckBox l 0)] := by
  unfold deckBox
  refine ACall.of_body mixed Try.func19 rfl (by kernel_rfl) Try.ntmps19 (by kernel_rfl) rfl (by simp) (by simp) (by simp) fun σ N hp hpn hk hkn hfree => ?_
  refine Wk ?_
  refine go_result1 (r0 := N+3) (by simp (disch := omega) [go_sem, *, -List.reduceReplicate]; rfl) (by omega) (by simp (disch := omega) [go_sem]; try rfl) (fun id hid => by simp (disch := omega) only [upd_ne, wr_cons, wr_nil]; try exact hlow id hid) (by simp (disch := omega) only [upd_same, upd_ne]; rfl) (by simp (disch := omega) [go_sem])

theorem Next_none (l : List Int) (i : Nat) (n : Int) (hi : l.length ≤ i) (hb : i ≤ 9223372036854775807) (d k : Nat) :
    ACall Try.prog 36 [.ptr d [] 0, .lit (.int .i64 n)] k [(d, deckBox l i)] (.lit (.int .i64 0)) [(d, deckBox l i)] := by
  unfold deckBox
  refine ACall.of_body mixed Try.func36 rfl (by kernel_rfl) Try.ntmps36 (by kernel_rfl) rfl (by simp) (by simp) (by simp) fun σ N hp hpn hk hkn hfree => ?_
  have hd := hp _ (List.mem_singleton.2 rfl)
  have hdn := hpn _ (List.mem_singleton.2 rfl)
  simp only at hd hdn
  clear hp hpn
  refine Wk ?_
  refine go_resultW [(d, .box 59 (.agg [.slice none (l.map intAV), .lit (.int .i64 i)]))] (by simp (disch := omega) [go_sem, *, -List.reduceReplicate]; rfl) (by first | rfl | (simp (disch := omega) [go_sem]; done) | (simp (disch := omega) [go_sem, *]; done) | simp (disch := omega) [go_sem]) (fun id hid => by simp only [wr_cons, wr_nil]; try (by_cases hdd : id = d; (· (subst hdd; simp (disch := omega) [go_sem, *])); (· (simp (disch := omega) only [upd_ne]; try (first | exact hlow id hid hdd | exact hlow id hid))))) (by simp) (by simp (disch := omega) [go_sem, *])

theorem Next_some (l : List Int) (i : Nat) (n : Int) (hi : i < l.length) (hb : l.length ≤ 9223372036854775807) (h0 : 0 < n) (hn : n ≤ 1000000000000000000) (d k : Nat) :
    ACall Try.prog 36 [.ptr d [] 0, .lit (.int .i64 n)] k [(d, deckBox l i)] (.lit (.int .i64 (l[i] % n))) [(d, deckBox l (i + 1))] := by
  obtain ⟨x, hx⟩ : ∃ x, l[i] = x := ⟨_, rfl⟩
  have c1 := Within_spec x n h0 hn
  have hxx : intAV x = .lit (.int .i64 x) := rfl
  rw [hx]
  unfold deckBox
  refine ACall.of_body mixed Try.func36 rfl (by kernel_rfl) Try.ntmps36 (by kernel_rfl) rfl (by simp) (by simp) (by simp) fun σ N hp hpn hk hkn hfree => ?_
  have hd := hp _ (List.mem_singleton.2 rfl)
  have hdn := hpn _ (List.mem_singleton.2 rfl)
  simp only at hd hdn
  clear hp hpn
  have hcs := And.intro c1 True.intro
  refine Wk ?_
  refine go_resultW [(d, .box 59 (.agg [.slice none (l.map intAV), .lit (.int .i64 ((i : Int) + 1))]))] (by simp (disch := omega) [go_sem, *, -List.reduceReplicate]; rfl) (by first | rfl | (simp (disch := omega) [go_sem]; done) | (simp (disch := omega) [go_sem, *]; done) | simp (disch := omega) [go_sem]) (fun id hid => by simp only [wr_cons, wr_nil]; try (by_cases hdd : id = d; (· (subst hdd; simp (disch := omega) [go_sem, *])); (· (simp (disch := omega) only [upd_ne]; try (first | exact hlow id hid hdd | exact hlow id hid))))) (by simp) (by simp (disch := omega) [go_sem, *])

def nextD (l : List Int) (i : Nat) (n : Nat) : Nat × Nat := if h : i < l.length then ((l[i] % (n : Int)).toNat, i + 1) else (0, i)
theorem nextD_lt (l : List Int) (i : Nat) (n : Nat) (h : 0 < n) : (nextD l i n).1 < n := by
  unfold nextD
  split
  · have := Int.emod_nonneg l[i] (show (n : Int) ≠ 0 by omega)
    have := Int.emod_lt_of_pos l[i] (show (0 : Int) < (n : Int) by omega)
    simp only; omega
  · exact h
theorem nextD_dk {l : List Int} {i : Nat} (n : Nat) (h : Dk l i) : Dk l (nextD l i n).2 := by
  unfold nextD Dk at *
  split
  · exact ⟨h.1, by simp only; omega⟩
  · exact h
theorem Next_spec (l : List Int) (i : Nat) (n : Nat) (h : Dk l i) (h0 : 0 < n) (hn : n ≤ 1000000000000000000) (d k : Nat) :
    ACall Try.prog 36 [.ptr d [] 0, .lit (.int .i64 n)] k [(d, deckBox l i)] (.lit (.int .i64 (nextD l i n).1)) [(d, deckBox l (nextD l i n).2)] := by
  unfold nextD
  split
  · rename_i hi
    have := Next_some l i n hi h.1 (by omega) (by omega) d k
    have e : ((l[i] % (n : Int)).toNat : Int) = l[i] % (n : Int) := Int.toNat_of_nonneg (Int.emod_nonneg _ (by omega))
    simp only [e]; exact this
  · rename_i hi; exact Next_none l i n (by omega) (by have := h.1; have := h.2; omega) d k
/-- The next number, when no more than its bound is asked. -/
theorem Next_ex (l : List Int) (i : Nat) (n : Nat) (h : Dk l i) (h0 : 0 < n) (hn : n ≤ 1000000000000000000) :
    ∃ x j : Nat, x < n ∧ Dk l j ∧ ∀ d k, ACall Try.prog 36 [.ptr d [] 0, .lit (.int .i64 n)] k [(d, deckBox l i)] (.lit (.int .i64 x)) [(d, deckBox l j)] :=
  ⟨_, _, nextD_lt l i n h0, nextD_dk n h, Next_spec l i n h h0 hn⟩
end Go.Proofs.Ytmhehlfocfhpkaa

/- The law FieldUnique. -/
namespace Go.Proofs.Ytmhehlfocfhpkaa
open Go.Ab
attribute [local irreducible] Go.Ab.tyAV Go.Ab.aw Go.Ab.aops Go.Ab.kReg Go.Ab.aThen Go.Ab.aBlk Go.Ab.acond Go.Ab.aguard Go.Ab.astep Go.Ab.AStepX Go.Ab.aRet

theorem allS_cases (y : List UInt8) : (∃ T, allS y = (T, 0) ∧ T.length ≤ y.length ∧ joinS T = (y, 0)) ∨ (∃ e, allS y = ([], e) ∧ e ≠ 0) := by
  unfold allS
  by_cases h : (allL y).2 = 0
  · left
    obtain ⟨h1, h2⟩ := allL_join _ y (Nat.le_refl _) h
    refine ⟨(allL y).1, by rw [if_pos h], allL_len _ y (Nat.le_refl _), ?_⟩
    unfold joinS; rw [if_pos h1, h2]
  · right
    exact ⟨(allL y).2, by rw [if_neg h], h⟩

set_option maxHeartbeats 4000000 in
theorem unique_core (b0 b : List UInt8) (m1 : Nat) (i1 : (if (200 : Int) < (b0.length : Int) then (200 : Int) else (b0.length : Int)) = (m1 : Int)) (i2 : m1 ≤ b0.length) (i3 : m1 ≤ 200) (i4 : b.length = m1) (i5 : (b0.map byteAV).take m1 = b.map byteAV)
    (l F : List (List UInt8)) (hl : l.length ≤ 9223372036854775807) (hF : fewS l = F) (at_ : Int) (xb : UInt8) (k : Nat) :
    ACall Try.prog 12 [.slice none (b0.map byteAV), .slice none (l.map bAV), .lit (.int .i64 at_), byteAV xb] k [] (.lit (.bool true)) [] := by
  have a0 := few_spec l hl
  have f1 := fewS_len l
  have f2 := fewS_ok l
  rw [hF] at a0 f1 f2
  have hok : joinOk F := fun x hx => by have := f2 x hx; omega
  have a1 := refJoin_m F (by omega) hok
  have hbl := joinB_len200 F f2
  generalize joinB F = B at *
  generalize F.length = v at *
  clear f2 hok hF
  by_cases hB : B.length = 0
  · have hBe : B = [] := List.length_eq_zero_iff.1 hB
    obtain ⟨cs, hcs0⟩ : ∃ cs : List UInt8, cs = [] := ⟨_, rfl⟩
    have hcl : cs.length ≤ 5000 := by rw [hcs0]; simp
    have hBi : ¬ (0 : Int) < (B.length : Int) := by omega
    refine ACall.of_body mixed Try.func12 rfl (by kernel_rfl) Try.ntmps12 (by kernel_rfl) rfl (by simp) (by simp) (by simp) fun σ N hp hpn hk hkn hfree => ?_
    have hcs := And.intro a0 (And.intro a1 True.intro)
    clear a0 a1
    refine Wk ?_
    refine go_freeze 9 (id := N + 7 + 2) (ver := v) (size := 1) (e := 5) (xs := B.map byteAV) (k := B.length) (by simp (disch := omega) [go_sem, *, -List.reduceReplicate]) (by simp (disch := omega) [go_sem, *, -List.reduceReplicate]) (by simp (disch := omega) [go_sem, *, -List.reduceReplicate]) ?_
    rw [hBe, ← hcs0]
    clear hBe hcs0 hB hBi
    refine go_less (x := .slice (some (N + 7 + 2)) (cs.map byteAV)) (y := .slice none (cs.map byteAV)) 9 (by simp (disch := omega) [go_sem, *, -List.reduceReplicate]) (AV.le_own _ _) ?_
    refine go_loopF mixed (by kernel_rfl) [0, 8, 11, 12, 13, 14, 15, 37, 38, 39, 40, 41, 42, 43, 44, 45, 46, 47, 48, 49, 50, 51, 52, 53, 54, 55, 56, 57, 58, 59, 60, 61, 62, 63, 64, 65, 66, 67, 68, 69, 70, 71, 72] [] (fun m_ s_ σ_ n_ => ∃ (i : Nat) (y : List UInt8), m_ = 2 - i ∧ s_ 11 = .lit (.int .i64 i) ∧ s_ 0 = .slice none (y.map byteAV) ∧ (i ≤ 2) ∧ (y.length ≤ 5000)) ⟨_, 0, b, rfl, WF, WF, WC, WC⟩ ?_
    intro m_1 s_1 σ_1 n_1 hs_1 hf_1 hn_1 hI_1
    obtain ⟨i, y, hm_1, h1_11, h1_0, hi, hy⟩ := hI_1
    have h1_9 := (hs_1.at 9 (by decide)).trans WE
    have hlow : ∀ id, id < N → σ_1 id = σ id := fun id hid => (hf_1.at id (by omega) WQ).trans WH
    by_cases hi2 : i = 2
    · subst hi2
      have hcs := And.intro awake04_spec True.intro
      exact W0
    · have hi2i : (i : Int) < 2 := by omega
      have q1 := All_spec y (by omega)
      rcases allS_cases y with ⟨T, hT, hTl, hTj⟩ | ⟨e, hT, he⟩
      · rw [hT] at q1
        have q2 := Join_spec T (by omega)
        rw [hTj] at q2
        simp only at q1 q2
        have q3 := Same_spec y y (by omega)
        rw [decide_eq_true rfl] at q3
        have hcs := And.intro q1 (And.intro q2 (And.intro q3 True.intro))
        clear q1 q2 q3 hT hTj
        refine Wk ?_
        exact ⟨WS, WG, WN, _, (show 2 - (i + 1) < m_1 by omega), i + 1, cs, rfl, WF, WF, WC, WC⟩
      · rw [hT] at q1
        have q2 := Join_spec [] (by simp)
        have hj0 : joinS [] = ([], 0) := rfl
        rw [hj0] at q2
        simp only [List.map_nil] at q1 q2
        have hei : ¬ ((e : Int) = 0) := by omega
        have hei2 : ((e : Int) == 0) = false := by rw [beq_eq_false_iff_ne]; omega
        have hei3 : ((e : Int) != 0) = true := by rw [bne_iff_ne]; omega
        have hcs := And.intro q1 (And.intro q2 True.intro)
        clear q1 q2 hT
        refine Wk ?_
        exact ⟨WS, WG, WN, _, (show 2 - (i + 1) < m_1 by omega), i + 1, cs, rfl, WF, WF, WC, WC⟩
  · have hBp : (0 : Int) < (B.length : Int) := by omega
    have g3 := Int.emod_nonneg at_ (show (B.length : Int) ≠ 0 by omega)
    have g4 := Int.emod_lt_of_pos at_ (show (0 : Int) < (B.length : Int) by omega)
    obtain ⟨j, hj⟩ := Int.eq_ofNat_of_zero_le g3
    have a2 := Within_spec at_ B.length (by omega) (by omega)
    have hjl : j < B.length := by omega
    rw [hj] at a2
    have hset := set_bytes B j xb
    obtain ⟨cs, hcs0⟩ : ∃ cs, B.set j xb = cs := ⟨_, rfl⟩
    have hcsl : cs.length = B.length := by rw [← hcs0]; simp
    have hcl : cs.length ≤ 5000 := by omega
    rw [hcs0] at hset
    clear hcs0 g3 g4 hj hB
    refine ACall.of_body mixed Try.func12 rfl (by kernel_rfl) Try.ntmps12 (by kernel_rfl) rfl (by simp) (by simp) (by simp) fun σ N hp hpn hk hkn hfree => ?_
    have hcs := And.intro a0 (And.intro a1 (And.intro a2 True.intro))
    clear a0 a1 a2
    refine Wk ?_
    refine go_freeze 9 (id := N + 7 + 2) (ver := v) (size := 1) (e := 5) (xs := cs.map byteAV) (k := B.length) (by simp (disch := omega) [go_sem, *, -List.reduceReplicate]) (by simp (disch := omega) [go_sem, *, -List.reduceReplicate]) (by simp (disch := omega) [go_sem, *, -List.reduceReplicate]) ?_
    clear hset hBp
    refine go_less (x := .slice (some (N + 7 + 2)) (cs.map byteAV)) (y := .slice none (cs.map byteAV)) 9 (by simp (disch := omega) [go_sem, *, -List.reduceReplicate]) (AV.le_own _ _) ?_
    refine go_loopF mixed (by kernel_rfl) [0, 8, 11, 12, 13, 14, 15, 37, 38, 39, 40, 41, 42, 43, 44, 45, 46, 47, 48, 49, 50, 51, 52, 53, 54, 55, 56, 57, 58, 59, 60, 61, 62, 63, 64, 65, 66, 67, 68, 69, 70, 71, 72] [] (fun m_ s_ σ_ n_ => ∃ (i : Nat) (y : List UInt8), m_ = 2 - i ∧ s_ 11 = .lit (.int .i64 i) ∧ s_ 0 = .slice none (y.map byteAV) ∧ (i ≤ 2) ∧ (y.length ≤ 5000)) ⟨_, 0, b, rfl, WF, WF, WC, WC⟩ ?_
    intro m_2 s_2 σ_2 n_2 hs_2 hf_2 hn_2 hI_2
    obtain ⟨i, y, hm_2, h2_11, h2_0, hi, hy⟩ := hI_2
    have h2_9 := (hs_2.at 9 (by decide)).trans WE
    have hlow : ∀ id, id < N → σ_2 id = σ id := fun id hid => (hf_2.at id (by omega) WQ).trans (by first | exact hlow id hid | exact WH)
    by_cases hi2 : i = 2
    · subst hi2
      have hcs := And.intro awake04_spec True.intro
      exact W0
    · have hi2i : (i : Int) < 2 := by omega
      have q1 := All_spec y (by omega)
      rcases allS_cases y with ⟨T, hT, hTl, hTj⟩ | ⟨e, hT, he⟩
      · rw [hT] at q1
        have q2 := Join_spec T (by omega)
        rw [hTj] at q2
        simp only at q1 q2
        have q3 := Same_spec y y (by omega)
        rw [decide_eq_true rfl] at q3
        have hcs := And.intro q1 (And.intro q2 (And.intro q3 True.intro))
        clear q1 q2 q3 hT hTj
        refine Wk ?_
        exact ⟨WS, WG, WN, _, (show 2 - (i + 1) < m_2 by omega), i + 1, cs, rfl, WF, WF, WC, WC⟩
      · rw [hT] at q1
        have q2 := Join_spec [] (by simp)
        have hj0 : joinS [] = ([], 0) := rfl
        rw [hj0] at q2
        simp only [List.map_nil] at q1 q2
        have hei : ¬ ((e : Int) = 0) := by omega
        have hei2 : ((e : Int) == 0) = false := by rw [beq_eq_false_iff_ne]; omega
        have hei3 : ((e : Int) != 0) = true := by rw [bne_iff_ne]; omega
        have hcs := And.intro q1 (And.intro q2 True.intro)
        clear q1 q2 hT
        refine Wk ?_
        exact ⟨WS, WG, WN, _, (show 2 - (i + 1) < m_2 by omega), i + 1, cs, rfl, WF, WF, WC, WC⟩

theorem FieldUnique_spec (b : List UInt8) (l : List (List UInt8)) (hl : l.length ≤ 9223372036854775807 ∧ ∀ d ∈ l, d.length ≤ 9223372036854775807) (at_ x : Int) (w : (Lit.int .u8 x).wf = true) (k : Nat) :
    ACall Try.prog 12 [.slice none (b.map byteAV), .slice none (l.map bAV), .lit (.int .i64 at_), .lit (.int .u8 x)] k [] (.lit (.bool true)) [] := by
  obtain ⟨xb, hx, _⟩ := byte_of_wf w
  rw [hx]
  obtain ⟨m1, t1, p1, p2, p3, p4, p5⟩ := cutAt 200 b
  exact unique_core b t1 m1 p1 p2 p3 p4 p5 l (fewS l) hl.1 rfl at_ xb k
end Go.Proofs.Ytmhehlfocfhpkaa
