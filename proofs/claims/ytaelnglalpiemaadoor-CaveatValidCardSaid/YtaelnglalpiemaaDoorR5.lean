/- The deck's Bytes as a row of one's own; Caveat. -/
import Derived.Test.YtaelnglalpiemaaDoorR4
import Derived.Test.YtaelnglalpiemaaDoorK9
namespace Go.Proofs.YtaelnglalpiemaaDoor
open Go.Ab
attribute [local irreducible] Go.Ab.tyAV Go.Ab.aw Go.Ab.aops Go.Ab.kReg Go.Ab.aThen Go.Ab.aBlk Go.Ab.acond Go.Ab.aguard Go.Ab.astep Go.Ab.AStepX Go.Ab.aRet

theorem Bytes_row (l : List Int) (i n : Nat) (h : Dk l i) (hn : n ≤ 100000) (d k : Nat) :
    ACall Tryd.prog 52 [.ptr d [] 0, .lit (.int .i64 n)] k [(d, deckBox l i)] (.slice (some k) ((bytesD l i n).1.map byteAV)) [(d, deckBox l (bytesD l i n).2), (k, .row 5 1 (bytesD l i n).1.length)] := by
  have c1 := Next_spec l i (n + 1) h (by omega) (by omega)
  have d1 := nextD_dk (n + 1) h
  have b1 := nextD_lt l i (n + 1) (by omega)
  have hn1 : ((n + 1 : Nat) : Int) = (n : Int) + 1 := by omega
  unfold bytesD
  rw [hn1] at c1
  generalize nextD l i (n + 1) = X at *
  obtain ⟨K, j⟩ := X
  simp only at c1 d1 b1 ⊢
  clear h hn1
  have hcs := And.intro (c1 d) True.intro
  generalize hR : bytesK l K j = R
  obtain ⟨R1, R2⟩ := R
  simp only
  refine ACall.of_body mixed Tryd.func52 rfl (by kernel_rfl) Tryd.ntmps52 (by kernel_rfl) rfl (by simp) (by simp) (by simp) fun σ N hp hpn hk hkn hfree => ?_
  have hd := hp _ (List.mem_singleton.2 rfl); have hdn := hpn _ (List.mem_singleton.2 rfl); simp only at hd hdn; clear hp hpn
  clear c1
  refine Wk ?_
  refine ALoop.nilrow 5 5 1 (by simp (disch := omega) [go_sem, *, -List.reduceReplicate]) ?_
  refine go_loopB (N) mixed (by kernel_rfl) [5, 6, 11, 12, 13, 14, 15, 16, 17, 18, 19, 20] [d] (fun m_ s_ σ_ n_ => ∃ (f : Nat) (j' : Nat) (r : Nat) (acc : List UInt8), m_ = f ∧ s_ 6 = .lit (.int .i64 f) ∧ s_ 5 = .slice (some r) (acc.map byteAV) ∧ σ_ (d) = deckBox l j' ∧ σ_ (r) = .row 5 1 acc.length ∧ (N ≤ r) ∧ (r < n_) ∧ (f + acc.length ≤ 100000) ∧ (Dk l j') ∧ ((acc ++ (bytesK l f j').1, (bytesK l f j').2) = (R1, R2))) ⟨_, K, j, _, [], rfl, WF, WF, WF, WF, WC, WC, WC, WC, WC⟩ ?_
  intro m_1 s_1 σ_1 n_1 hs_1 hf_1 hn_1 hI_1
  obtain ⟨f, j', r, acc, hm_1, h1_6, h1_5, e1_0, e1_1, hNr, hrn, hfl, hdj, hacc⟩ := hI_1
  have h1_0 := (hs_1.at 0 (by decide)).trans WE
  have h1_4 := (hs_1.at 4 (by decide)).trans WE
  have hlow : ∀ id, id < N → id ≠ d → σ_1 id = σ id := fun id hid hdd => (hf_1.at id (by omega) WQ).trans WH
  have hne : ¬ r = d := by omega
  have hne2 : ¬ d = r := by omega
  cases f with
  | zero =>
    simp only [bytesK, List.append_nil, Prod.mk.injEq] at hacc
    obtain ⟨rfl, rfl⟩ := hacc
    refine Wk ?_
    refine go_result1W (E := .none) (r0 := r) [(d, deckBox l j')] (by simp (disch := omega) [go_sem, *, -List.reduceReplicate]; rfl) (by omega) (by simp (disch := omega) [go_sem]; try rfl) (fun id hid => by simp only [wr_cons, wr_nil]; try (by_cases hdd : id = d; (· (subst hdd; simp (disch := omega) [go_sem, *])); (· (simp (disch := omega) only [upd_ne]; try (first | exact hlow id hid hdd | exact hlow id hid))))) (by simp) (by simp (disch := omega) [go_sem, *, -List.reduceReplicate]; rfl) (by simp (disch := omega) [go_sem, *])
  | succ f =>
    have c1 := Next_spec l j' 256 hdj (by omega) (by omega)
    have d1 := nextD_dk 256 hdj
    have b1 := nextD_lt l j' 256 (by omega)
    rw [bytesK] at hacc
    generalize nextD l j' 256 = X at *
    obtain ⟨x, j2⟩ := X
    simp only at c1 d1 b1 hacc
    have hw : IntKind.u8.wrap (x : Int) = x := by rw [IntKind.wrap_u8]; omega
    have hbx : AV.lit (.int .u8 (x : Int)) = byteAV (UInt8.ofNat x) := by simp [byteAV, Nat.mod_eq_of_lt b1]
    have hcs := And.intro (c1 d) True.intro
    clear c1 hdj
    refine Wk ?_
    exact ⟨WS, WG, WN, _, (show (f) < m_1 by omega), f, j2, r, acc ++ [UInt8.ofNat x], rfl, WF, WF, WF, WF, WC, WC, WC, WC, WC⟩
theorem Bytes_ex (l : List Int) (i n : Nat) (h : Dk l i) (hn : n ≤ 100000) : ∃ (b : List UInt8) (j : Nat), b.length ≤ n ∧ Dk l j ∧ ∀ d k, ACall Tryd.prog 52 [.ptr d [] 0, .lit (.int .i64 n)] k [(d, deckBox l i)] (.slice (some k) (b.map byteAV)) [(d, deckBox l j), (k, .row 5 1 b.length)] :=
  ⟨_, _, bytesD_len l i n, bytesD_dk n h, fun d k => Bytes_row l i n h hn d k⟩
set_option maxHeartbeats 4000000 in
theorem Caveat_ex (l : List Int) (i : Nat) (h : Dk l i) :
    ∃ (c : Ca) (j : Nat), cavB c = true ∧ PrOk c.first ∧ CaSm c ∧ Dk l j ∧ ∀ d k, ACall Tryd.prog 13 [.ptr d [] 0] k [(d, deckBox l i)] (caAV c) [(d, deckBox l j)] := by
  obtain ⟨x, j1, x1, d1, c1⟩ := Next_at l i 4 h (by omega) (by omega)
  by_cases hx : x = 0
  · subst hx
    obtain ⟨p, j2, p1, d2, c2⟩ := Next_at l j1 8 d1 (by omega) (by omega)
    obtain ⟨t, j3, t1, d3, c3⟩ := Bytes_ex l j2 20 d2 (by omega)
    obtain ⟨b, j4, b1, d4, c4⟩ := Bytes_ex l j3 20 d3 (by omega)
    refine ⟨⟨true, zeroPr, p, t ++ [1], b ++ [2]⟩, j4, (CV.third p (by omega) _ _ (by simp; omega) (by simp; omega)).ok, zeroPr_ok, ⟨by simp; omega, by simp; omega⟩, d4, fun d k => ?_⟩
    have hb1 : byteAV 1 = .lit (.int .u8 1) := rfl
    have hb2 : byteAV 2 = .lit (.int .u8 2) := rfl
    simp only [caAV, prAV, zeroPr]
    refine ACall.of_body mixed Tryd.func13 rfl (by kernel_rfl) Tryd.ntmps13 (by kernel_rfl) rfl (by simp) (by simp) (by simp) fun σ N hp hpn hk hkn hfree => ?_
    have hd := hp _ (List.mem_singleton.2 rfl); have hdn := hpn _ (List.mem_singleton.2 rfl); simp only at hd hdn; clear hp hpn
    have hcs := And.intro (c1 d) (And.intro (c2 d) (And.intro (c3 d) (And.intro (c4 d) True.intro)))
    clear c1 c2 c3 c4
    refine Wk ?_
    refine go_resultWI [(d, deckBox l j4)] (by simp (disch := omega) [go_sem, *, -List.reduceReplicate]; rfl) (AV.sub_agg (by repeat' first | exact ALe.nil | exact AV.le_refl _ | apply ALe.cons | ((first | apply AV.le_slices | apply AV.le_nilsE | apply AV.le_clipE); first | rfl | (simp (disch := omega) [go_sem, *, -List.reduceReplicate]; done)))) (by first | rfl | (simp (disch := omega) [go_sem]; done) | (simp (disch := omega) [go_sem, *]; done) | simp (disch := omega) [go_sem]) (fun id hid => by simp only [wr_cons, wr_nil]; try (by_cases hdd : id = d; (· (subst hdd; simp (disch := omega) [go_sem, *])); (· (simp (disch := omega) only [upd_ne]; try (first | exact hlow id hid hdd | exact hlow id hid))))) (by simp) (by simp (disch := omega) [go_sem, *])
  · obtain ⟨p, j2, p1, p2, _, d2, c2⟩ := Predicate_ex l j1 d1 true
    refine ⟨⟨false, p, 0, [], []⟩, j2, (CV.first p p1).ok, p2, ⟨by simp, by simp⟩, d2, fun d k => ?_⟩
    have hx0 : (0 : Int) < x := by omega
    simp only [caAV]
    refine ACall.of_body mixed Tryd.func13 rfl (by kernel_rfl) Tryd.ntmps13 (by kernel_rfl) rfl (by simp) (by simp) (by simp) fun σ N hp hpn hk hkn hfree => ?_
    have hd := hp _ (List.mem_singleton.2 rfl); have hdn := hpn _ (List.mem_singleton.2 rfl); simp only at hd hdn; clear hp hpn
    have hcs := And.intro (c1 d) (And.intro (c2 d) True.intro)
    clear c1 c2
    refine Wk ?_
    refine go_resultWI [(d, deckBox l j2)] (by simp (disch := omega) [go_sem, *, -List.reduceReplicate]; rfl) (AV.sub_agg (by repeat' first | exact ALe.nil | exact AV.le_refl _ | apply ALe.cons | ((first | apply AV.le_slices | apply AV.le_nilsE | apply AV.le_clipE); first | rfl | (simp (disch := omega) [go_sem, *, -List.reduceReplicate]; done)))) (by first | rfl | (simp (disch := omega) [go_sem]; done) | (simp (disch := omega) [go_sem, *]; done) | simp (disch := omega) [go_sem]) (fun id hid => by simp only [wr_cons, wr_nil]; try (by_cases hdd : id = d; (· (subst hdd; simp (disch := omega) [go_sem, *])); (· (simp (disch := omega) only [upd_ne]; try (first | exact hlow id hid hdd | exact hlow id hid))))) (by simp) (by simp (disch := omega) [go_sem, *])
end Go.Proofs.YtaelnglalpiemaaDoor
