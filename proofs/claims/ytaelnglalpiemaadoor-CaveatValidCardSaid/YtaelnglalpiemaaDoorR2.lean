/- The deck's Minute, Name, Bytes. -/
import Derived.Test.YtaelnglalpiemaaDoorR1
namespace Go.Proofs.YtaelnglalpiemaaDoor
open Go.Ab
attribute [local irreducible] Go.Ab.tyAV Go.Ab.aw Go.Ab.aops Go.Ab.kReg Go.Ab.aThen Go.Ab.aBlk Go.Ab.acond Go.Ab.aguard Go.Ab.astep Go.Ab.AStepX Go.Ab.aRet

def minuteD (l : List Int) (i : Nat) : Nat × Nat :=
  let k := nextD l i 4
  if k.1 = 0 then nextD l k.2 4320
  else if k.1 = 1 then (min ((nextD l k.2 60).1 * 1440 + (nextD l (nextD l k.2 60).2 3).1) 67108864, (nextD l (nextD l k.2 60).2 3).2)
  else if k.1 = 2 then (67108864 - (nextD l k.2 4320).1, (nextD l k.2 4320).2)
  else nextD l k.2 67108865
theorem minuteD_le (l : List Int) (i : Nat) : (minuteD l i).1 ≤ 67108864 := by
  unfold minuteD
  simp only
  split
  · have := nextD_lt l (nextD l i 4).2 4320 (by omega); omega
  · split
    · simp only; omega
    · split
      · simp only; omega
      · have := nextD_lt l (nextD l i 4).2 67108865 (by omega); omega
theorem minuteD_dk {l : List Int} {i : Nat} (h : Dk l i) : Dk l (minuteD l i).2 := by
  unfold minuteD
  simp only
  split
  · exact nextD_dk _ (nextD_dk _ h)
  · split
    · exact nextD_dk _ (nextD_dk _ (nextD_dk _ h))
    · split
      · exact nextD_dk _ (nextD_dk _ h)
      · exact nextD_dk _ (nextD_dk _ h)

theorem Minute_spec (l : List Int) (i : Nat) (h : Dk l i) (d k : Nat) :
    ACall Tryd.prog 83 [.ptr d [] 0] k [(d, deckBox l i)] (.lit (.int .i64 (minuteD l i).1)) [(d, deckBox l (minuteD l i).2)] := by
  have c1 := Next_spec l i 4 h (by omega) (by omega)
  have d1 := nextD_dk 4 h
  unfold minuteD
  generalize nextD l i 4 = X at c1 d1 ⊢
  obtain ⟨x, j⟩ := X
  simp only at c1 d1 ⊢
  clear h
  by_cases e0 : x = 0
  · subst e0
    simp only [if_true]
    have c2 := Next_spec l j 4320 d1 (by omega) (by omega)
    generalize nextD l j 4320 = X at c2 ⊢
    obtain ⟨y, j2⟩ := X
    simp only at c2 ⊢
    clear d1
    refine ACall.of_body mixed Tryd.func83 rfl (by kernel_rfl) Tryd.ntmps83 (by kernel_rfl) rfl (by simp) (by simp) (by simp) fun σ N hp hpn hk hkn hfree => ?_
    have hd := hp _ (List.mem_singleton.2 rfl)
    have hdn := hpn _ (List.mem_singleton.2 rfl)
    simp only at hd hdn
    clear hp hpn
    have hcs := And.intro (c1 d) (And.intro (c2 d) True.intro)
    refine Wk ?_
    refine go_resultW [(d, deckBox l j2)] (by simp (disch := omega) [go_sem, *, -List.reduceReplicate]; rfl) (by first | rfl | (simp (disch := omega) [go_sem]; done) | (simp (disch := omega) [go_sem, *]; done) | simp (disch := omega) [go_sem]) (fun id hid => by simp only [wr_cons, wr_nil]; try (by_cases hdd : id = d; (· (subst hdd; simp (disch := omega) [go_sem, *])); (· (simp (disch := omega) only [upd_ne]; try (first | exact hlow id hid hdd | exact hlow id hid))))) (by simp) (by simp (disch := omega) [go_sem, *])
  · simp only [e0, if_false]
    by_cases e1 : x = 1
    · subst e1
      simp only [if_true]
      have c2 := Next_spec l j 60 d1 (by omega) (by omega)
      have d2 := nextD_dk 60 d1
      have b2 := nextD_lt l j 60 (by omega)
      generalize nextD l j 60 = X at c2 d2 b2 ⊢
      obtain ⟨y, j2⟩ := X
      simp only at c2 d2 b2 ⊢
      have c3 := Next_spec l j2 3 d2 (by omega) (by omega)
      have b3 := nextD_lt l j2 3 (by omega)
      generalize nextD l j2 3 = X at c3 b3 ⊢
      obtain ⟨z, j3⟩ := X
      simp only at c3 b3 ⊢
      obtain ⟨w, hw⟩ : ∃ w : Nat, min (y * 1440 + z) 67108864 = w := ⟨_, rfl⟩
      have hw1 : (if (67108864 : Int) < (y : Int) * 1440 + z then (67108864 : Int) else (y : Int) * 1440 + z) = w := by split <;> omega
      rw [hw]
      clear d1 d2 hw
      refine ACall.of_body mixed Tryd.func83 rfl (by kernel_rfl) Tryd.ntmps83 (by kernel_rfl) rfl (by simp) (by simp) (by simp) fun σ N hp hpn hk hkn hfree => ?_
      have hd := hp _ (List.mem_singleton.2 rfl)
      have hdn := hpn _ (List.mem_singleton.2 rfl)
      simp only at hd hdn
      clear hp hpn
      have hcs := And.intro (c1 d) (And.intro (c2 d) (And.intro (c3 d) True.intro))
      refine Wk ?_
      refine go_resultW [(d, deckBox l j3)] (by simp (disch := omega) [go_sem, *, -List.reduceReplicate]; rfl) (by first | rfl | (simp (disch := omega) [go_sem]; done) | (simp (disch := omega) [go_sem, *]; done) | simp (disch := omega) [go_sem]) (fun id hid => by simp only [wr_cons, wr_nil]; try (by_cases hdd : id = d; (· (subst hdd; simp (disch := omega) [go_sem, *])); (· (simp (disch := omega) only [upd_ne]; try (first | exact hlow id hid hdd | exact hlow id hid))))) (by simp) (by simp (disch := omega) [go_sem, *])
    · simp only [e1, if_false]
      by_cases e2 : x = 2
      · subst e2
        simp only [if_true]
        have c2 := Next_spec l j 4320 d1 (by omega) (by omega)
        have b2 := nextD_lt l j 4320 (by omega)
        generalize nextD l j 4320 = X at c2 b2 ⊢
        obtain ⟨y, j2⟩ := X
        simp only at c2 b2 ⊢
        have hw : (67108864 : Int) - (y : Int) = ((67108864 - y : Nat) : Int) := by omega
        rw [← hw]
        clear d1 hw
        refine ACall.of_body mixed Tryd.func83 rfl (by kernel_rfl) Tryd.ntmps83 (by kernel_rfl) rfl (by simp) (by simp) (by simp) fun σ N hp hpn hk hkn hfree => ?_
        have hd := hp _ (List.mem_singleton.2 rfl)
        have hdn := hpn _ (List.mem_singleton.2 rfl)
        simp only at hd hdn
        clear hp hpn
        have hcs := And.intro (c1 d) (And.intro (c2 d) True.intro)
        refine Wk ?_
        refine go_resultW [(d, deckBox l j2)] (by simp (disch := omega) [go_sem, *, -List.reduceReplicate]; rfl) (by first | rfl | (simp (disch := omega) [go_sem]; done) | (simp (disch := omega) [go_sem, *]; done) | simp (disch := omega) [go_sem]) (fun id hid => by simp only [wr_cons, wr_nil]; try (by_cases hdd : id = d; (· (subst hdd; simp (disch := omega) [go_sem, *])); (· (simp (disch := omega) only [upd_ne]; try (first | exact hlow id hid hdd | exact hlow id hid))))) (by simp) (by simp (disch := omega) [go_sem, *])
      · simp only [e2, if_false]
        have c2 := Next_spec l j 67108865 d1 (by omega) (by omega)
        generalize nextD l j 67108865 = X at c2 ⊢
        obtain ⟨y, j2⟩ := X
        simp only at c2 ⊢
        clear d1
        refine ACall.of_body mixed Tryd.func83 rfl (by kernel_rfl) Tryd.ntmps83 (by kernel_rfl) rfl (by simp) (by simp) (by simp) fun σ N hp hpn hk hkn hfree => ?_
        have hd := hp _ (List.mem_singleton.2 rfl)
        have hdn := hpn _ (List.mem_singleton.2 rfl)
        simp only at hd hdn
        clear hp hpn
        have hcs := And.intro (c1 d) (And.intro (c2 d) True.intro)
        refine Wk ?_
        refine go_resultW [(d, deckBox l j2)] (by simp (disch := omega) [go_sem, *, -List.reduceReplicate]; rfl) (by first | rfl | (simp (disch := omega) [go_sem]; done) | (simp (disch := omega) [go_sem, *]; done) | simp (disch := omega) [go_sem]) (fun id hid => by simp only [wr_cons, wr_nil]; try (by_cases hdd : id = d; (· (subst hdd; simp (disch := omega) [go_sem, *])); (· (simp (disch := omega) only [upd_ne]; try (first | exact hlow id hid hdd | exact hlow id hid))))) (by simp) (by simp (disch := omega) [go_sem, *])

def names8 : List (List UInt8) := [[97], [98], [97, 110, 110], [98, 111, 98], [99, 105, 100], [122, 111, 101], [97, 97], [97, 98, 99, 100, 101, 102, 103, 104, 105, 106, 107, 108, 109, 110, 111, 112]]
def nameD (l : List Int) (i : Nat) : List UInt8 × Nat := (names8.getD (nextD l i 8).1 [], (nextD l i 8).2)
theorem nameD_dk {l : List Int} {i : Nat} (h : Dk l i) : Dk l (nameD l i).2 := nextD_dk 8 h
theorem Name_spec0 (l : List Int) (i : Nat) (h : Dk l i) (d k : Nat) :
    ACall Tryd.prog 84 [.ptr d [] 0] k [(d, deckBox l i)] (strAV (nameD l i).1) [(d, deckBox l (nameD l i).2)] := by
  have c1 := Next_spec l i 8 h (by omega) (by omega)
  have b1 := nextD_lt l i 8 (by omega)
  unfold nameD
  generalize nextD l i 8 = X at c1 b1 ⊢
  obtain ⟨x, j⟩ := X
  simp only at c1 b1 ⊢
  have hx : ∀ h : x < 8, ([AV.lit (.string (ByteArray.mk #[97])), .lit (.string (ByteArray.mk #[98])), .lit (.string (ByteArray.mk #[97, 110, 110])), .lit (.string (ByteArray.mk #[98, 111, 98])), .lit (.string (ByteArray.mk #[99, 105, 100])), .lit (.string (ByteArray.mk #[122, 111, 101])), .lit (.string (ByteArray.mk #[97, 97])), .lit (.string (ByteArray.mk #[97, 98, 99, 100, 101, 102, 103, 104, 105, 106, 107, 108, 109, 110, 111, 112]))] : List AV)[x] = strAV (names8.getD x []) := by
    intro h
    have : x = 0 ∨ x = 1 ∨ x = 2 ∨ x = 3 ∨ x = 4 ∨ x = 5 ∨ x = 6 ∨ x = 7 := by omega
    rcases this with rfl | rfl | rfl | rfl | rfl | rfl | rfl | rfl <;> rfl
  have hx2 := hx b1
  have hsz : (strAV (names8.getD x [])).sz = 1 := rfl
  have hag : (strAV (names8.getD x [])).isAgg = false := rfl
  have hrn : ∀ f, (strAV (names8.getD x [])).ren f = strAV (names8.getD x []) := fun _ => rfl
  generalize strAV (names8.getD x []) = r at *
  clear hx
  refine ACall.of_body mixed Tryd.func84 rfl (by kernel_rfl) Tryd.ntmps84 (by kernel_rfl) rfl (by simp) (by simp) (by simp) fun σ N hp hpn hk hkn hfree => ?_
  have hd := hp _ (List.mem_singleton.2 rfl)
  have hdn := hpn _ (List.mem_singleton.2 rfl)
  simp only at hd hdn
  clear hp hpn
  have hcs := And.intro (c1 d) True.intro
  refine Wk ?_
  refine go_resultW [(d, deckBox l j)] (by simp (disch := omega) [go_sem, *, -List.reduceReplicate]; rfl) (by first | rfl | (simp (disch := omega) [go_sem]; done) | (simp (disch := omega) [go_sem, *]; done) | simp (disch := omega) [go_sem]) (fun id hid => by simp only [wr_cons, wr_nil]; try (by_cases hdd : id = d; (· (subst hdd; simp (disch := omega) [go_sem, *])); (· (simp (disch := omega) only [upd_ne]; try (first | exact hlow id hid hdd | exact hlow id hid))))) (by simp) (by simp (disch := omega) [go_sem, *])
def bytesK (l : List Int) : Nat → Nat → List UInt8 × Nat
  | 0, i => ([], i)
  | f + 1, i => (UInt8.ofNat (nextD l i 256).1 :: (bytesK l f (nextD l i 256).2).1, (bytesK l f (nextD l i 256).2).2)
theorem bytesK_len (l : List Int) : ∀ f i, (bytesK l f i).1.length = f
  | 0, i => rfl
  | f + 1, i => by simp [bytesK, bytesK_len l f]
theorem bytesK_dk {l : List Int} : ∀ f i, Dk l i → Dk l (bytesK l f i).2
  | 0, i, h => h
  | f + 1, i, h => bytesK_dk f _ (nextD_dk 256 h)
def bytesD (l : List Int) (i n : Nat) : List UInt8 × Nat := bytesK l (nextD l i (n + 1)).1 (nextD l i (n + 1)).2
theorem bytesD_dk {l : List Int} {i : Nat} (n : Nat) (h : Dk l i) : Dk l (bytesD l i n).2 := bytesK_dk _ _ (nextD_dk _ h)
theorem bytesD_len (l : List Int) (i n : Nat) : (bytesD l i n).1.length ≤ n := by
  have := nextD_lt l i (n + 1) (by omega)
  rw [bytesD, bytesK_len]; omega

theorem Bytes_spec (l : List Int) (i n : Nat) (h : Dk l i) (hn : n ≤ 100000) (d k : Nat) :
    ACall Tryd.prog 52 [.ptr d [] 0, .lit (.int .i64 n)] k [(d, deckBox l i)] (.slice none ((bytesD l i n).1.map byteAV)) [(d, deckBox l (bytesD l i n).2)] := by
  have c1 := Next_spec l i (n + 1) h (by omega) (by omega)
  have d1 := nextD_dk (n + 1) h
  have b1 := nextD_lt l i (n + 1) (by omega)
  have hn1 : ((n + 1 : Nat) : Int) = (n : Int) + 1 := by omega
  unfold bytesD
  rw [hn1] at c1
  generalize nextD l i (n + 1) = X at *
  obtain ⟨K, j⟩ := X
  simp only at c1 d1 b1 ⊢
  clear h hn1
  have hcs := And.intro (c1 d) True.intro
  generalize hR : bytesK l K j = R
  obtain ⟨R1, R2⟩ := R
  simp only
  refine ACall.of_body mixed Tryd.func52 rfl (by kernel_rfl) Tryd.ntmps52 (by kernel_rfl) rfl (by simp) (by simp) (by simp) fun σ N hp hpn hk hkn hfree => ?_
  have hd := hp _ (List.mem_singleton.2 rfl); have hdn := hpn _ (List.mem_singleton.2 rfl); simp only at hd hdn; clear hp hpn
  clear c1
  refine Wk ?_
  refine ALoop.nilrow 5 5 1 (by simp (disch := omega) [go_sem, *, -List.reduceReplicate]) ?_
  refine go_loopB (N) mixed (by kernel_rfl) [5, 6, 11, 12, 13, 14, 15, 16, 17, 18, 19, 20] [d] (fun m_ s_ σ_ n_ => ∃ (f : Nat) (j' : Nat) (r : Nat) (acc : List UInt8), m_ = f ∧ s_ 6 = .lit (.int .i64 f) ∧ s_ 5 = .slice (some r) (acc.map byteAV) ∧ σ_ (d) = deckBox l j' ∧ σ_ (r) = .row 5 1 acc.length ∧ (N ≤ r) ∧ (r < n_) ∧ (f + acc.length ≤ 100000) ∧ (Dk l j') ∧ ((acc ++ (bytesK l f j').1, (bytesK l f j').2) = (R1, R2))) ⟨_, K, j, _, [], rfl, WF, WF, WF, WF, WC, WC, WC, WC, WC⟩ ?_
  intro m_1 s_1 σ_1 n_1 hs_1 hf_1 hn_1 hI_1
  obtain ⟨f, j', r, acc, hm_1, h1_6, h1_5, e1_0, e1_1, hNr, hrn, hfl, hdj, hacc⟩ := hI_1
  have h1_0 := (hs_1.at 0 (by decide)).trans WE
  have h1_4 := (hs_1.at 4 (by decide)).trans WE
  have hlow : ∀ id, id < N → id ≠ d → σ_1 id = σ id := fun id hid hdd => (hf_1.at id (by omega) WQ).trans WH
  have hne : ¬ r = d := by omega
  have hne2 : ¬ d = r := by omega
  cases f with
  | zero =>
    simp only [bytesK, List.append_nil, Prod.mk.injEq] at hacc
    obtain ⟨rfl, rfl⟩ := hacc
    refine Wk ?_
    refine go_resultWI [(d, deckBox l j')] (by simp (disch := omega) [go_sem, *, -List.reduceReplicate]; rfl) (by first | exact AV.le_refl _ | ((first | apply AV.le_slices | apply AV.le_nilsE | apply AV.le_clipE); first | rfl | (simp (disch := omega) [go_sem, *, -List.reduceReplicate]; done)) | (apply AV.sub_tup; repeat' first | exact ALe.nil | exact AV.le_refl _ | apply ALe.cons | ((first | apply AV.le_slices | apply AV.le_nilsE | apply AV.le_clipE); first | rfl | (simp (disch := omega) [go_sem, *, -List.reduceReplicate]; done)))) (by first | rfl | (simp (disch := omega) [go_sem]; done) | (simp (disch := omega) [go_sem, *]; done) | simp (disch := omega) [go_sem]) (fun id hid => by simp only [wr_cons, wr_nil]; try (by_cases hdd : id = d; (· (subst hdd; simp (disch := omega) [go_sem, *])); (· (simp (disch := omega) only [upd_ne]; try (first | exact hlow id hid hdd | exact hlow id hid))))) (by simp) (by simp (disch := omega) [go_sem, *])
  | succ f =>
    have c1 := Next_spec l j' 256 hdj (by omega) (by omega)
    have d1 := nextD_dk 256 hdj
    have b1 := nextD_lt l j' 256 (by omega)
    rw [bytesK] at hacc
    generalize nextD l j' 256 = X at *
    obtain ⟨x, j2⟩ := X
    simp only at c1 d1 b1 hacc
    have hw : IntKind.u8.wrap (x : Int) = x := by rw [IntKind.wrap_u8]; omega
    have hbx : AV.lit (.int .u8 (x : Int)) = byteAV (UInt8.ofNat x) := by simp [byteAV, Nat.mod_eq_of_lt b1]
    have hcs := And.intro (c1 d) True.intro
    clear c1 hdj
    refine Wk ?_
    exact ⟨WS, WG, WN, _, (show (f) < m_1 by omega), f, j2, r, acc ++ [UInt8.ofNat x], rfl, WF, WF, WF, WF, WC, WC, WC, WC, WC⟩
end Go.Proofs.YtaelnglalpiemaaDoor
