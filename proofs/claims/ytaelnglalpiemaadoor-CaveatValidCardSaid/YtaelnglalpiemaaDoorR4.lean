/- The deck's Upto and Predicate: what exists. -/
import Derived.Test.YtaelnglalpiemaaDoorR3
import Derived.Test.YtaelnglalpiemaaDoorK2
namespace Go.Proofs.YtaelnglalpiemaaDoor
open Go.Ab
attribute [local irreducible] Go.Ab.tyAV Go.Ab.aw Go.Ab.aops Go.Ab.kReg Go.Ab.aThen Go.Ab.aBlk Go.Ab.acond Go.Ab.aguard Go.Ab.astep Go.Ab.AStepX Go.Ab.aRet

@[go_sem] theorem ba_empty_eq : (ByteArray.empty = { data := #[] }) = True := eq_true rfl
theorem Upto_ex (l : List Int) (i : Nat) (h : Dk l i) (most : Nat) (hm : most ≤ 900000000) :
    ∃ v j : Nat, v ≤ most ∧ Dk l j ∧ ∀ d k, ACall Tryd.prog 85 [.ptr d [] 0, .lit (.int .i64 most)] k [(d, deckBox l i)] (.lit (.int .i64 v)) [(d, deckBox l j)] := by
  obtain ⟨x, j1, x1, d1, c1⟩ := Next_at l i 4 h (by omega) (by omega)
  have hx : x = 0 ∨ x = 1 ∨ x = 2 ∨ x = 3 := by omega
  rcases hx with rfl | rfl | rfl | rfl
  · obtain ⟨a, j2, a1, d2, c2⟩ := Next_at l j1 4 d1 (by omega) (by omega)
    obtain ⟨v, hv, hvm⟩ : ∃ v : Nat, (if most < a then (most : Int) else (a : Int)) = (v : Int) ∧ v ≤ most := ⟨min a most, by split <;> omega, by omega⟩
    refine ⟨v, j2, hvm, d2, fun d k => ?_⟩
    refine ACall.of_body mixed Tryd.func85 rfl (by kernel_rfl) Tryd.ntmps85 (by kernel_rfl) rfl (by simp) (by simp) (by simp) fun σ N hp hpn hk hkn hfree => ?_
    have hd := hp _ (List.mem_singleton.2 rfl); have hdn := hpn _ (List.mem_singleton.2 rfl); simp only at hd hdn; clear hp hpn
    have hcs := And.intro (c1 d) (And.intro (c2 d) True.intro)
    clear c1 c2
    refine Wk ?_
    refine go_resultW [(d, deckBox l j2)] (by simp (disch := omega) [go_sem, *, -List.reduceReplicate]; rfl) (by first | rfl | (simp (disch := omega) [go_sem]; done) | (simp (disch := omega) [go_sem, *]; done) | simp (disch := omega) [go_sem]) (fun id hid => by simp only [wr_cons, wr_nil]; try (by_cases hdd : id = d; (· (subst hdd; simp (disch := omega) [go_sem, *])); (· (simp (disch := omega) only [upd_ne]; try (first | exact hlow id hid hdd | exact hlow id hid))))) (by simp) (by simp (disch := omega) [go_sem, *])
  · obtain ⟨a, j2, a1, d2, c2⟩ := Next_at l j1 300 d1 (by omega) (by omega)
    obtain ⟨v, hv, hvm⟩ : ∃ v : Nat, (if most < a then (most : Int) else (a : Int)) = (v : Int) ∧ v ≤ most := ⟨min a most, by split <;> omega, by omega⟩
    refine ⟨v, j2, hvm, d2, fun d k => ?_⟩
    refine ACall.of_body mixed Tryd.func85 rfl (by kernel_rfl) Tryd.ntmps85 (by kernel_rfl) rfl (by simp) (by simp) (by simp) fun σ N hp hpn hk hkn hfree => ?_
    have hd := hp _ (List.mem_singleton.2 rfl); have hdn := hpn _ (List.mem_singleton.2 rfl); simp only at hd hdn; clear hp hpn
    have hcs := And.intro (c1 d) (And.intro (c2 d) True.intro)
    clear c1 c2
    refine Wk ?_
    refine go_resultW [(d, deckBox l j2)] (by simp (disch := omega) [go_sem, *, -List.reduceReplicate]; rfl) (by first | rfl | (simp (disch := omega) [go_sem]; done) | (simp (disch := omega) [go_sem, *]; done) | simp (disch := omega) [go_sem]) (fun id hid => by simp only [wr_cons, wr_nil]; try (by_cases hdd : id = d; (· (subst hdd; simp (disch := omega) [go_sem, *])); (· (simp (disch := omega) only [upd_ne]; try (first | exact hlow id hid hdd | exact hlow id hid))))) (by simp) (by simp (disch := omega) [go_sem, *])
  · obtain ⟨q, hq, hq0, hq1⟩ : ∃ q : Nat, (if (most : Int) + 1 < 3 then (most : Int) + 1 else 3) = (q : Int) ∧ 0 < q ∧ q ≤ most + 1 := ⟨min 3 (most + 1), by split <;> omega, by omega, by omega⟩
    obtain ⟨a, j2, a1, d2, c2⟩ := Next_at l j1 q d1 hq0 (by omega)
    refine ⟨most - a, j2, by omega, d2, fun d k => ?_⟩
    have hsub : ((most - a : Nat) : Int) = (most : Int) - (a : Int) := by omega
    rw [hsub]
    refine ACall.of_body mixed Tryd.func85 rfl (by kernel_rfl) Tryd.ntmps85 (by kernel_rfl) rfl (by simp) (by simp) (by simp) fun σ N hp hpn hk hkn hfree => ?_
    have hd := hp _ (List.mem_singleton.2 rfl); have hdn := hpn _ (List.mem_singleton.2 rfl); simp only at hd hdn; clear hp hpn
    have hcs := And.intro (c1 d) (And.intro (c2 d) True.intro)
    clear c1 c2 hsub
    refine Wk ?_
    refine go_resultW [(d, deckBox l j2)] (by simp (disch := omega) [go_sem, *, -List.reduceReplicate]; rfl) (by first | rfl | (simp (disch := omega) [go_sem]; done) | (simp (disch := omega) [go_sem, *]; done) | simp (disch := omega) [go_sem]) (fun id hid => by simp only [wr_cons, wr_nil]; try (by_cases hdd : id = d; (· (subst hdd; simp (disch := omega) [go_sem, *])); (· (simp (disch := omega) only [upd_ne]; try (first | exact hlow id hid hdd | exact hlow id hid))))) (by simp) (by simp (disch := omega) [go_sem, *])
  · obtain ⟨a, j2, a1, d2, c2⟩ := Next_at l j1 (most + 1) d1 (by omega) (by omega)
    have hc : ((most + 1 : Nat) : Int) = (most : Int) + 1 := by omega
    rw [hc] at c2
    refine ⟨a, j2, by omega, d2, fun d k => ?_⟩
    refine ACall.of_body mixed Tryd.func85 rfl (by kernel_rfl) Tryd.ntmps85 (by kernel_rfl) rfl (by simp) (by simp) (by simp) fun σ N hp hpn hk hkn hfree => ?_
    have hd := hp _ (List.mem_singleton.2 rfl); have hdn := hpn _ (List.mem_singleton.2 rfl); simp only at hd hdn; clear hp hpn
    have hcs := And.intro (c1 d) (And.intro (c2 d) True.intro)
    clear c1 c2 hc
    refine Wk ?_
    refine go_resultW [(d, deckBox l j2)] (by simp (disch := omega) [go_sem, *, -List.reduceReplicate]; rfl) (by first | rfl | (simp (disch := omega) [go_sem]; done) | (simp (disch := omega) [go_sem, *]; done) | simp (disch := omega) [go_sem]) (fun id hid => by simp only [wr_cons, wr_nil]; try (by_cases hdd : id = d; (· (subst hdd; simp (disch := omega) [go_sem, *])); (· (simp (disch := omega) only [upd_ne]; try (first | exact hlow id hid hdd | exact hlow id hid))))) (by simp) (by simp (disch := omega) [go_sem, *])

theorem Minute_ex (l : List Int) (i : Nat) (h : Dk l i) : ∃ v j : Nat, v ≤ 67108864 ∧ Dk l j ∧ ∀ d k, ACall Tryd.prog 83 [.ptr d [] 0] k [(d, deckBox l i)] (.lit (.int .i64 v)) [(d, deckBox l j)] :=
  ⟨_, _, minuteD_le l i, minuteD_dk h, Minute_spec l i h⟩
theorem Name_ex (l : List Int) (i : Nat) (h : Dk l i) : ∃ (s : List UInt8) (j : Nat), nameB s = true ∧ s.length ≤ 16 ∧ Dk l j ∧ ∀ d k, ACall Tryd.prog 84 [.ptr d [] 0] k [(d, deckBox l i)] (.lit (.string ⟨s.toArray⟩)) [(d, deckBox l j)] := by
  have b := nextD_lt l i 8 (by omega)
  refine ⟨_, _, ?_, ?_, nameD_dk h, fun d k => Name_spec0 l i h d k⟩
  all_goals
    unfold nameD
    generalize (nextD l i 8).1 = x at b
    have : x = 0 ∨ x = 1 ∨ x = 2 ∨ x = 3 ∨ x = 4 ∨ x = 5 ∨ x = 6 ∨ x = 7 := by omega
    rcases this with rfl | rfl | rfl | rfl | rfl | rfl | rfl | rfl <;> (simp only; decide)

theorem PrOk.mk0 {k m f t x : Int} {n : List UInt8} (h0 : 0 ≤ m) (h1 : m < 18446744073709551616) (h2 : n.length ≤ 100) : PrOk ⟨k, m, f, t, n, x⟩ := ⟨h0, h1, by simp only; omega⟩
set_option maxHeartbeats 4000000 in
theorem Predicate_ex (l : List Int) (i : Nat) (h : Dk l i) (rides : Bool) :
    ∃ (p : Pr) (j : Nat), predB p = true ∧ PrOk p ∧ (rides = false → p.kind ≠ 7) ∧ Dk l j ∧ ∀ d k, ACall Tryd.prog 51 [.ptr d [] 0, .lit (.bool rides)] k [(d, deckBox l i)] (prAV p) [(d, deckBox l j)] := by
  have c1 := Range_spec l i 1 7 7 h (by omega) (by omega) (by omega) (by omega)
  have d1 := rangeD_dk (lo := 1) (n := 7) h
  have b1 := nextD_lt l i 7 (by omega)
  have hk : (rangeD l i 1 7).1 = 1 ∨ (rangeD l i 1 7).1 = 2 ∨ (rangeD l i 1 7).1 = 3 ∨ (rangeD l i 1 7).1 = 4 ∨ (rangeD l i 1 7).1 = 5 ∨ (rangeD l i 1 7).1 = 6 ∨ (rangeD l i 1 7).1 = 7 := by unfold rangeD; simp only; omega
  generalize rangeD l i 1 7 = X at *
  obtain ⟨kd, j1⟩ := X
  simp only at c1 d1 hk
  clear b1 h
  rcases hk with rfl | rfl | rfl | rfl | rfl | rfl | rfl
  · obtain ⟨m, j2, m0, m1, d2, c2⟩ := mask64_ex l j1 d1
    refine ⟨⟨1, m, 0, 0, [], 0⟩, j2, (by simp [predB, maskB]; simp at m1; omega), .mk0 (by omega) (by simp at m1; omega) (by simp), by simp, d2, fun d k => ?_⟩
    simp only [prAV]
    refine ACall.of_body mixed Tryd.func51 rfl (by kernel_rfl) Tryd.ntmps51 (by kernel_rfl) rfl (by simp) (by simp) (by simp) fun σ N hp hpn hk hkn hfree => ?_
    have hd := hp _ (List.mem_singleton.2 rfl); have hdn := hpn _ (List.mem_singleton.2 rfl); simp only at hd hdn; clear hp hpn
    have hcs := And.intro (c1 d) (And.intro (c2 d) True.intro)
    clear c1 c2
    refine Wk ?_
    refine go_resultW [(d, deckBox l j2)] (by simp (disch := omega) [go_sem, *, -List.reduceReplicate]; rfl) (by first | rfl | (simp (disch := omega) [go_sem]; done) | (simp (disch := omega) [go_sem, *]; done) | simp (disch := omega) [go_sem]) (fun id hid => by simp only [wr_cons, wr_nil]; try (by_cases hdd : id = d; (· (subst hdd; simp (disch := omega) [go_sem, *])); (· (simp (disch := omega) only [upd_ne]; try (first | exact hlow id hid hdd | exact hlow id hid))))) (by simp) (by simp (disch := omega) [go_sem, *])
  · obtain ⟨m, j2, m0, m1, d2, c2⟩ := mask32_ex l j1 d1
    refine ⟨⟨2, m, 0, 0, [], 0⟩, j2, (by simp [predB, maskB]; simp at m1; omega), .mk0 (by omega) (by simp at m1; omega) (by simp), by simp, d2, fun d k => ?_⟩
    simp only [prAV]
    refine ACall.of_body mixed Tryd.func51 rfl (by kernel_rfl) Tryd.ntmps51 (by kernel_rfl) rfl (by simp) (by simp) (by simp) fun σ N hp hpn hk hkn hfree => ?_
    have hd := hp _ (List.mem_singleton.2 rfl); have hdn := hpn _ (List.mem_singleton.2 rfl); simp only at hd hdn; clear hp hpn
    have hcs := And.intro (c1 d) (And.intro (c2 d) True.intro)
    clear c1 c2
    refine Wk ?_
    refine go_resultW [(d, deckBox l j2)] (by simp (disch := omega) [go_sem, *, -List.reduceReplicate]; rfl) (by first | rfl | (simp (disch := omega) [go_sem]; done) | (simp (disch := omega) [go_sem, *]; done) | simp (disch := omega) [go_sem]) (fun id hid => by simp only [wr_cons, wr_nil]; try (by_cases hdd : id = d; (· (subst hdd; simp (disch := omega) [go_sem, *])); (· (simp (disch := omega) only [upd_ne]; try (first | exact hlow id hid hdd | exact hlow id hid))))) (by simp) (by simp (disch := omega) [go_sem, *])
  · obtain ⟨m, j2, m0, m1, d2, c2⟩ := mask7_ex l j1 d1
    refine ⟨⟨3, m, 0, 0, [], 0⟩, j2, (by simp [predB, maskB]; simp at m1; omega), .mk0 (by omega) (by simp at m1; omega) (by simp), by simp, d2, fun d k => ?_⟩
    simp only [prAV]
    refine ACall.of_body mixed Tryd.func51 rfl (by kernel_rfl) Tryd.ntmps51 (by kernel_rfl) rfl (by simp) (by simp) (by simp) fun σ N hp hpn hk hkn hfree => ?_
    have hd := hp _ (List.mem_singleton.2 rfl); have hdn := hpn _ (List.mem_singleton.2 rfl); simp only at hd hdn; clear hp hpn
    have hcs := And.intro (c1 d) (And.intro (c2 d) True.intro)
    clear c1 c2
    refine Wk ?_
    refine go_resultW [(d, deckBox l j2)] (by simp (disch := omega) [go_sem, *, -List.reduceReplicate]; rfl) (by first | rfl | (simp (disch := omega) [go_sem]; done) | (simp (disch := omega) [go_sem, *]; done) | simp (disch := omega) [go_sem]) (fun id hid => by simp only [wr_cons, wr_nil]; try (by_cases hdd : id = d; (· (subst hdd; simp (disch := omega) [go_sem, *])); (· (simp (disch := omega) only [upd_ne]; try (first | exact hlow id hid hdd | exact hlow id hid))))) (by simp) (by simp (disch := omega) [go_sem, *])
  · obtain ⟨a, j2, a1, d2, c2⟩ := Minute_ex l j1 d1
    obtain ⟨b, j3, b1, d3, c3⟩ := Minute_ex l j2 d2
    obtain ⟨lo, hlo, hlo1⟩ : ∃ lo : Nat, (if b < a then (b : Int) else (a : Int)) = (lo : Int) ∧ lo = min a b := ⟨min a b, by split <;> omega, rfl⟩
    obtain ⟨hi, hhi, hhi1⟩ : ∃ hi : Nat, (if a < b then (b : Int) else (a : Int)) = (hi : Int) ∧ hi = max a b := ⟨max a b, by split <;> omega, rfl⟩
    have hlo2 : ((min a b : Nat) : Int) = lo := by omega
    have hhi2 : ((max a b : Nat) : Int) = hi := by omega
    refine ⟨⟨4, 0, lo, hi, [], 0⟩, j3, (by simp [predB]; omega), .mk0 (by omega) (by omega) (by simp), by simp, d3, fun d k => ?_⟩
    simp only [prAV]
    refine ACall.of_body mixed Tryd.func51 rfl (by kernel_rfl) Tryd.ntmps51 (by kernel_rfl) rfl (by simp) (by simp) (by simp) fun σ N hp hpn hk hkn hfree => ?_
    have hd := hp _ (List.mem_singleton.2 rfl); have hdn := hpn _ (List.mem_singleton.2 rfl); simp only at hd hdn; clear hp hpn
    have hcs := And.intro (c1 d) (And.intro (c2 d) (And.intro (c3 d) True.intro))
    clear c1 c2 c3
    refine Wk ?_
    refine go_resultW [(d, deckBox l j3)] (by simp (disch := omega) [go_sem, *, -List.reduceReplicate]; rfl) (by first | rfl | (simp (disch := omega) [go_sem]; done) | (simp (disch := omega) [go_sem, *]; done) | simp (disch := omega) [go_sem]) (fun id hid => by simp only [wr_cons, wr_nil]; try (by_cases hdd : id = d; (· (subst hdd; simp (disch := omega) [go_sem, *])); (· (simp (disch := omega) only [upd_ne]; try (first | exact hlow id hid hdd | exact hlow id hid))))) (by simp) (by simp (disch := omega) [go_sem, *])
  · obtain ⟨a, j2, a1, d2, c2⟩ := Next_at l j1 1440 d1 (by omega) (by omega)
    obtain ⟨b, j3, b1, d3, c3⟩ := Next_at l j2 1440 d2 (by omega) (by omega)
    obtain ⟨c, j4, e1, d4, c4⟩ := Next_at l j3 3 d3 (by omega) (by omega)
    by_cases hc : c = 0
    · subst hc
      obtain ⟨e, j5, f1, d5, c5⟩ := Next_at l j4 3 d4 (by omega) (by omega)
      obtain ⟨g, hg, hg1⟩ : ∃ g : Nat, ((a : Int) + e + 1440 - 1).tmod 1440 = (g : Int) ∧ g < 1440 := ⟨(a + e + 1440 - 1) % 1440, by rw [Int.tmod_eq_emod_of_nonneg (by omega)]; omega, by omega⟩
      refine ⟨⟨5, 0, a, g, [], 0⟩, j5, (by simp [predB]; omega), .mk0 (by omega) (by omega) (by simp), by simp, d5, fun d k => ?_⟩
      simp only [prAV]
      refine ACall.of_body mixed Tryd.func51 rfl (by kernel_rfl) Tryd.ntmps51 (by kernel_rfl) rfl (by simp) (by simp) (by simp) fun σ N hp hpn hk hkn hfree => ?_
      have hd := hp _ (List.mem_singleton.2 rfl); have hdn := hpn _ (List.mem_singleton.2 rfl); simp only at hd hdn; clear hp hpn
      have hcs := And.intro (c1 d) (And.intro (c2 d) (And.intro (c3 d) (And.intro (c4 d) (And.intro (c5 d) True.intro))))
      clear c1 c2 c3 c4 c5
      refine Wk ?_
      refine go_resultW [(d, deckBox l j5)] (by simp (disch := omega) [go_sem, *, -List.reduceReplicate]; rfl) (by first | rfl | (simp (disch := omega) [go_sem]; done) | (simp (disch := omega) [go_sem, *]; done) | simp (disch := omega) [go_sem]) (fun id hid => by simp only [wr_cons, wr_nil]; try (by_cases hdd : id = d; (· (subst hdd; simp (disch := omega) [go_sem, *])); (· (simp (disch := omega) only [upd_ne]; try (first | exact hlow id hid hdd | exact hlow id hid))))) (by simp) (by simp (disch := omega) [go_sem, *])
    · have hcb : ((c : Int) == 0) = false := by rw [beq_eq_false_iff_ne]; omega
      refine ⟨⟨5, 0, a, b, [], 0⟩, j4, (by simp [predB]; omega), .mk0 (by omega) (by omega) (by simp), by simp, d4, fun d k => ?_⟩
      simp only [prAV]
      refine ACall.of_body mixed Tryd.func51 rfl (by kernel_rfl) Tryd.ntmps51 (by kernel_rfl) rfl (by simp) (by simp) (by simp) fun σ N hp hpn hk hkn hfree => ?_
      have hd := hp _ (List.mem_singleton.2 rfl); have hdn := hpn _ (List.mem_singleton.2 rfl); simp only at hd hdn; clear hp hpn
      have hcs := And.intro (c1 d) (And.intro (c2 d) (And.intro (c3 d) (And.intro (c4 d) True.intro)))
      clear c1 c2 c3 c4
      refine Wk ?_
      refine go_resultW [(d, deckBox l j4)] (by simp (disch := omega) [go_sem, *, -List.reduceReplicate]; rfl) (by first | rfl | (simp (disch := omega) [go_sem]; done) | (simp (disch := omega) [go_sem, *]; done) | simp (disch := omega) [go_sem]) (fun id hid => by simp only [wr_cons, wr_nil]; try (by_cases hdd : id = d; (· (subst hdd; simp (disch := omega) [go_sem, *])); (· (simp (disch := omega) only [upd_ne]; try (first | exact hlow id hid hdd | exact hlow id hid))))) (by simp) (by simp (disch := omega) [go_sem, *])
  · obtain ⟨n, j2, n0, n1, d2, c2⟩ := Name_ex l j1 d1
    refine ⟨⟨6, 0, 0, 0, n, 0⟩, j2, (by simp [predB, n0]), .mk0 (by omega) (by omega) (by omega), by simp, d2, fun d k => ?_⟩
    simp only [prAV]
    refine ACall.of_body mixed Tryd.func51 rfl (by kernel_rfl) Tryd.ntmps51 (by kernel_rfl) rfl (by simp) (by simp) (by simp) fun σ N hp hpn hk hkn hfree => ?_
    have hd := hp _ (List.mem_singleton.2 rfl); have hdn := hpn _ (List.mem_singleton.2 rfl); simp only at hd hdn; clear hp hpn
    have hcs := And.intro (c1 d) (And.intro (c2 d) True.intro)
    clear c1 c2
    refine Wk ?_
    refine go_resultW [(d, deckBox l j2)] (by simp (disch := omega) [go_sem, *, -List.reduceReplicate]; rfl) (by first | rfl | (simp (disch := omega) [go_sem]; done) | (simp (disch := omega) [go_sem, *]; done) | simp (disch := omega) [go_sem]) (fun id hid => by simp only [wr_cons, wr_nil]; try (by_cases hdd : id = d; (· (subst hdd; simp (disch := omega) [go_sem, *])); (· (simp (disch := omega) only [upd_ne]; try (first | exact hlow id hid hdd | exact hlow id hid))))) (by simp) (by simp (disch := omega) [go_sem, *])
  · cases rides with
    | true =>
      obtain ⟨v, j2, v1, d2, c2⟩ := Upto_ex l j1 d1 1000000 (by omega)
      refine ⟨⟨7, 0, 0, 0, [], v⟩, j2, (by simp [predB]; omega), .mk0 (by omega) (by omega) (by simp), by simp, d2, fun d k => ?_⟩
      simp only [prAV]
      refine ACall.of_body mixed Tryd.func51 rfl (by kernel_rfl) Tryd.ntmps51 (by kernel_rfl) rfl (by simp) (by simp) (by simp) fun σ N hp hpn hk hkn hfree => ?_
      have hd := hp _ (List.mem_singleton.2 rfl); have hdn := hpn _ (List.mem_singleton.2 rfl); simp only at hd hdn; clear hp hpn
      have hcs := And.intro (c1 d) (And.intro (c2 d) True.intro)
      clear c1 c2
      refine Wk ?_
      refine go_resultW [(d, deckBox l j2)] (by simp (disch := omega) [go_sem, *, -List.reduceReplicate]; rfl) (by first | rfl | (simp (disch := omega) [go_sem]; done) | (simp (disch := omega) [go_sem, *]; done) | simp (disch := omega) [go_sem]) (fun id hid => by simp only [wr_cons, wr_nil]; try (by_cases hdd : id = d; (· (subst hdd; simp (disch := omega) [go_sem, *])); (· (simp (disch := omega) only [upd_ne]; try (first | exact hlow id hid hdd | exact hlow id hid))))) (by simp) (by simp (disch := omega) [go_sem, *])
    | false =>
      obtain ⟨a, j2, a1, d2, c2⟩ := Minute_ex l j1 d1
      obtain ⟨b, j3, b1, d3, c3⟩ := Minute_ex l j2 d2
      obtain ⟨lo, hlo, hlo1⟩ : ∃ lo : Nat, (if b < a then (b : Int) else (a : Int)) = (lo : Int) ∧ lo = min a b := ⟨min a b, by split <;> omega, rfl⟩
      obtain ⟨hi, hhi, hhi1⟩ : ∃ hi : Nat, (if a < b then (b : Int) else (a : Int)) = (hi : Int) ∧ hi = max a b := ⟨max a b, by split <;> omega, rfl⟩
      have hlo2 : ((min a b : Nat) : Int) = lo := by omega
      have hhi2 : ((max a b : Nat) : Int) = hi := by omega
      refine ⟨⟨4, 0, lo, hi, [], 0⟩, j3, (by simp [predB]; omega), .mk0 (by omega) (by omega) (by simp), by simp, d3, fun d k => ?_⟩
      simp only [prAV]
      refine ACall.of_body mixed Tryd.func51 rfl (by kernel_rfl) Tryd.ntmps51 (by kernel_rfl) rfl (by simp) (by simp) (by simp) fun σ N hp hpn hk hkn hfree => ?_
      have hd := hp _ (List.mem_singleton.2 rfl); have hdn := hpn _ (List.mem_singleton.2 rfl); simp only at hd hdn; clear hp hpn
      have hcs := And.intro (c1 d) (And.intro (c2 d) (And.intro (c3 d) True.intro))
      clear c1 c2 c3
      refine Wk ?_
      refine go_resultW [(d, deckBox l j3)] (by simp (disch := omega) [go_sem, *, -List.reduceReplicate]; rfl) (by first | rfl | (simp (disch := omega) [go_sem]; done) | (simp (disch := omega) [go_sem, *]; done) | simp (disch := omega) [go_sem]) (fun id hid => by simp only [wr_cons, wr_nil]; try (by_cases hdd : id = d; (· (subst hdd; simp (disch := omega) [go_sem, *])); (· (simp (disch := omega) only [upd_ne]; try (first | exact hlow id hid hdd | exact hlow id hid))))) (by simp) (by simp (disch := omega) [go_sem, *])
end Go.Proofs.YtaelnglalpiemaaDoor
