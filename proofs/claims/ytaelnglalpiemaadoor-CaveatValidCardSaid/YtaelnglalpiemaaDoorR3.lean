/- The deck's mask, Upto; what exists. -/
import Derived.Test.YtaelnglalpiemaaDoorR2
namespace Go.Proofs.YtaelnglalpiemaaDoor
open Go.Ab
attribute [local irreducible] Go.Ab.tyAV Go.Ab.aw Go.Ab.aops Go.Ab.kReg Go.Ab.aThen Go.Ab.aBlk Go.Ab.acond Go.Ab.aguard Go.Ab.astep Go.Ab.AStepX Go.Ab.aRet

theorem u64_wrap_range (x : Int) : 0 ≤ IntKind.u64.wrap x ∧ IntKind.u64.wrap x < 18446744073709551616 := by
  have : IntKind.u64.wrap x = x % 18446744073709551616 := by simp [IntKind.wrap, IntKind.bits, IntKind.signed]
  rw [this]; omega
theorem u64_bits_range (op : BinOp) (a b : Int) : 0 ≤ bits op .u64 a b ∧ bits op .u64 a b < 18446744073709551616 := by
  unfold bits
  split <;> exact u64_wrap_range _
theorem u64_and32 (x : Int) (h0 : 0 ≤ x) (h1 : x < 18446744073709551616) : bits .and .u64 x 4294967295 = x % 4294967296 := bits_mask .u64 64 (by decide) (fun n a b => wrap_u64r a (by omega)) 32 (by decide) x h0 h1
theorem u64_and7 (x : Int) (h0 : 0 ≤ x) (h1 : x < 18446744073709551616) : bits .and .u64 x 127 = x % 128 := bits_mask .u64 64 (by decide) (fun n a b => wrap_u64r a (by omega)) 7 (by decide) x h0 h1

theorem Next_at (l : List Int) (i : Nat) (n : Nat) (h : Dk l i) (h0 : 0 < n) (hn : n ≤ 1000000000000000000) :
    ∃ x j : Nat, x < n ∧ Dk l j ∧ ∀ d k, ACall Tryd.prog 50 [.ptr d [] 0, .lit (.int .i64 n)] k [(d, deckBox l i)] (.lit (.int .i64 x)) [(d, deckBox l j)] := Next_ex l i n h h0 hn
theorem pow_lt (y n : Nat) (h : y < n) (hn : n ≤ 64) : ∃ p : Int, (2 : Int) ^ y = p ∧ 0 < p ∧ p < 2 ^ n := by
  refine ⟨_, rfl, Int.pow_pos (by omega), ?_⟩
  exact_mod_cast Nat.pow_lt_pow_right (by omega) h

set_option maxHeartbeats 4000000 in
theorem mask64_ex (l : List Int) (i : Nat) (h : Dk l i) :
    ∃ (m : Int) (j : Nat), 0 < m ∧ m < 2 ^ 64 ∧ Dk l j ∧ ∀ d k, ACall Tryd.prog 82 [.ptr d [] 0, .lit (.int .i64 64)] k [(d, deckBox l i)] (.lit (.int .u64 m)) [(d, deckBox l j)] := by
  obtain ⟨x, j1, x1, d1, c1⟩ := Next_at l i 3 h (by omega) (by omega)
  have hx : x = 0 ∨ x = 1 ∨ x = 2 := by omega
  rcases hx with rfl | rfl | rfl
  · obtain ⟨a, j2, a1, d2, c2⟩ := Next_at l j1 16 d1 (by omega) (by omega)
    obtain ⟨v, hv⟩ : ∃ v : Int, (a : Int) = v := ⟨_, rfl⟩
    have v0 : 0 ≤ v := by omega
    have v1 : v < 18446744073709551616 := by omega
    have hvw : IntKind.u64.wrap v = v := wrap_u64r v0 (by omega)
    by_cases hz : v = 0
    · obtain ⟨y, j9, y1, d9, c9⟩ := Next_at l j2 64 d2 (by omega) (by omega)
      obtain ⟨p, hp1, hp2, hp3⟩ := pow_lt y 64 y1 (by omega)
      have hmn : min y 64 = y := by omega
      refine ⟨p, j9, hp2, hp3, d9, fun d k => ?_⟩
      have hpw : IntKind.u64.wrap p = p := wrap_u64r (by omega) (by simp at hp3; omega)
      have hyw : IntKind.u64.wrap (y : Int) = y := wrap_u64r (by omega) (by omega)
      have hzb : (v == 0) = true := by simp [hz]
      refine ACall.of_body mixed Tryd.func82 rfl (by kernel_rfl) Tryd.ntmps82 (by kernel_rfl) rfl (by simp) (by simp) (by simp) fun σ N hp hpn hk hkn hfree => ?_
      have hd := hp _ (List.mem_singleton.2 rfl); have hdn := hpn _ (List.mem_singleton.2 rfl); simp only at hd hdn; clear hp hpn
      have hcs := And.intro (c1 d) (And.intro (c2 d) (And.intro (c9 d) True.intro))
      clear c1 c2 c9
      refine Wk ?_
      refine go_resultW [(d, deckBox l j9)] (by simp (disch := omega) [go_sem, *, -List.reduceReplicate]; rfl) (by first | rfl | (simp (disch := omega) [go_sem]; done) | (simp (disch := omega) [go_sem, *]; done) | simp (disch := omega) [go_sem]) (fun id hid => by simp only [wr_cons, wr_nil]; try (by_cases hdd : id = d; (· (subst hdd; simp (disch := omega) [go_sem, *])); (· (simp (disch := omega) only [upd_ne]; try (first | exact hlow id hid hdd | exact hlow id hid))))) (by simp) (by simp (disch := omega) [go_sem, *])
    · have hzb : (v == 0) = false := by simp [hz]
      refine ⟨v, j2, by omega, by simp; omega, d2, fun d k => ?_⟩
      refine ACall.of_body mixed Tryd.func82 rfl (by kernel_rfl) Tryd.ntmps82 (by kernel_rfl) rfl (by simp) (by simp) (by simp) fun σ N hp hpn hk hkn hfree => ?_
      have hd := hp _ (List.mem_singleton.2 rfl); have hdn := hpn _ (List.mem_singleton.2 rfl); simp only at hd hdn; clear hp hpn
      have hcs := And.intro (c1 d) (And.intro (c2 d) True.intro)
      clear c1 c2
      refine Wk ?_
      refine go_resultW [(d, deckBox l j2)] (by simp (disch := omega) [go_sem, *, -List.reduceReplicate]; rfl) (by first | rfl | (simp (disch := omega) [go_sem]; done) | (simp (disch := omega) [go_sem, *]; done) | simp (disch := omega) [go_sem]) (fun id hid => by simp only [wr_cons, wr_nil]; try (by_cases hdd : id = d; (· (subst hdd; simp (disch := omega) [go_sem, *])); (· (simp (disch := omega) only [upd_ne]; try (first | exact hlow id hid hdd | exact hlow id hid))))) (by simp) (by simp (disch := omega) [go_sem, *])
  · obtain ⟨a, j2, a1, d2, c2⟩ := Next_at l j1 65536 d1 (by omega) (by omega)
    obtain ⟨b, j3, b1, d3, c3⟩ := Next_at l j2 65536 d2 (by omega) (by omega)
    obtain ⟨v, hv⟩ : ∃ v : Int, bits .or .u64 (a : Int) ((b : Int) * 281474976710656) = v := ⟨_, rfl⟩
    obtain ⟨v0, v1⟩ := u64_bits_range .or (a : Int) ((b : Int) * 281474976710656)
    rw [hv] at v0 v1
    have haw : IntKind.u64.wrap (a : Int) = a := wrap_u64r (by omega) (by omega)
    have hbw : IntKind.u64.wrap (b : Int) = b := wrap_u64r (by omega) (by omega)
    have hbs : IntKind.u64.wrap ((b : Int) * 281474976710656) = (b : Int) * 281474976710656 := wrap_u64r (by omega) (by omega)
    by_cases hz : v = 0
    · obtain ⟨y, j9, y1, d9, c9⟩ := Next_at l j3 64 d3 (by omega) (by omega)
      obtain ⟨p, hp1, hp2, hp3⟩ := pow_lt y 64 y1 (by omega)
      have hmn : min y 64 = y := by omega
      refine ⟨p, j9, hp2, hp3, d9, fun d k => ?_⟩
      have hpw : IntKind.u64.wrap p = p := wrap_u64r (by omega) (by simp at hp3; omega)
      have hyw : IntKind.u64.wrap (y : Int) = y := wrap_u64r (by omega) (by omega)
      have hzb : (v == 0) = true := by simp [hz]
      refine ACall.of_body mixed Tryd.func82 rfl (by kernel_rfl) Tryd.ntmps82 (by kernel_rfl) rfl (by simp) (by simp) (by simp) fun σ N hp hpn hk hkn hfree => ?_
      have hd := hp _ (List.mem_singleton.2 rfl); have hdn := hpn _ (List.mem_singleton.2 rfl); simp only at hd hdn; clear hp hpn
      have hcs := And.intro (c1 d) (And.intro (c2 d) (And.intro (c3 d) (And.intro (c9 d) True.intro)))
      clear c1 c2 c3 c9
      refine Wk ?_
      refine go_resultW [(d, deckBox l j9)] (by simp (disch := omega) [go_sem, *, -List.reduceReplicate]; rfl) (by first | rfl | (simp (disch := omega) [go_sem]; done) | (simp (disch := omega) [go_sem, *]; done) | simp (disch := omega) [go_sem]) (fun id hid => by simp only [wr_cons, wr_nil]; try (by_cases hdd : id = d; (· (subst hdd; simp (disch := omega) [go_sem, *])); (· (simp (disch := omega) only [upd_ne]; try (first | exact hlow id hid hdd | exact hlow id hid))))) (by simp) (by simp (disch := omega) [go_sem, *])
    · have hzb : (v == 0) = false := by simp [hz]
      refine ⟨v, j3, by omega, by simp; omega, d3, fun d k => ?_⟩
      refine ACall.of_body mixed Tryd.func82 rfl (by kernel_rfl) Tryd.ntmps82 (by kernel_rfl) rfl (by simp) (by simp) (by simp) fun σ N hp hpn hk hkn hfree => ?_
      have hd := hp _ (List.mem_singleton.2 rfl); have hdn := hpn _ (List.mem_singleton.2 rfl); simp only at hd hdn; clear hp hpn
      have hcs := And.intro (c1 d) (And.intro (c2 d) (And.intro (c3 d) True.intro))
      clear c1 c2 c3
      refine Wk ?_
      refine go_resultW [(d, deckBox l j3)] (by simp (disch := omega) [go_sem, *, -List.reduceReplicate]; rfl) (by first | rfl | (simp (disch := omega) [go_sem]; done) | (simp (disch := omega) [go_sem, *]; done) | simp (disch := omega) [go_sem]) (fun id hid => by simp only [wr_cons, wr_nil]; try (by_cases hdd : id = d; (· (subst hdd; simp (disch := omega) [go_sem, *])); (· (simp (disch := omega) only [upd_ne]; try (first | exact hlow id hid hdd | exact hlow id hid))))) (by simp) (by simp (disch := omega) [go_sem, *])
  · obtain ⟨a, j2, a1, d2, c2⟩ := Next_at l j1 65536 d1 (by omega) (by omega)
    obtain ⟨v, hv⟩ : ∃ v : Int, bits .xor .u64 18446744073709551615 (a : Int) = v := ⟨_, rfl⟩
    obtain ⟨v0, v1⟩ := u64_bits_range .xor 18446744073709551615 (a : Int)
    rw [hv] at v0 v1
    have haw : IntKind.u64.wrap (a : Int) = a := wrap_u64r (by omega) (by omega)
    have hsx : (if IntKind.u64.signed = true then (-1 : Int) else IntKind.u64.max) = 18446744073709551615 := by decide
    by_cases hz : v = 0
    · obtain ⟨y, j9, y1, d9, c9⟩ := Next_at l j2 64 d2 (by omega) (by omega)
      obtain ⟨p, hp1, hp2, hp3⟩ := pow_lt y 64 y1 (by omega)
      have hmn : min y 64 = y := by omega
      refine ⟨p, j9, hp2, hp3, d9, fun d k => ?_⟩
      have hpw : IntKind.u64.wrap p = p := wrap_u64r (by omega) (by simp at hp3; omega)
      have hyw : IntKind.u64.wrap (y : Int) = y := wrap_u64r (by omega) (by omega)
      have hzb : (v == 0) = true := by simp [hz]
      refine ACall.of_body mixed Tryd.func82 rfl (by kernel_rfl) Tryd.ntmps82 (by kernel_rfl) rfl (by simp) (by simp) (by simp) fun σ N hp hpn hk hkn hfree => ?_
      have hd := hp _ (List.mem_singleton.2 rfl); have hdn := hpn _ (List.mem_singleton.2 rfl); simp only at hd hdn; clear hp hpn
      have hcs := And.intro (c1 d) (And.intro (c2 d) (And.intro (c9 d) True.intro))
      clear c1 c2 c9
      refine Wk ?_
      refine go_resultW [(d, deckBox l j9)] (by simp (disch := omega) [go_sem, *, -List.reduceReplicate]; rfl) (by first | rfl | (simp (disch := omega) [go_sem]; done) | (simp (disch := omega) [go_sem, *]; done) | simp (disch := omega) [go_sem]) (fun id hid => by simp only [wr_cons, wr_nil]; try (by_cases hdd : id = d; (· (subst hdd; simp (disch := omega) [go_sem, *])); (· (simp (disch := omega) only [upd_ne]; try (first | exact hlow id hid hdd | exact hlow id hid))))) (by simp) (by simp (disch := omega) [go_sem, *])
    · have hzb : (v == 0) = false := by simp [hz]
      refine ⟨v, j2, by omega, by simp; omega, d2, fun d k => ?_⟩
      refine ACall.of_body mixed Tryd.func82 rfl (by kernel_rfl) Tryd.ntmps82 (by kernel_rfl) rfl (by simp) (by simp) (by simp) fun σ N hp hpn hk hkn hfree => ?_
      have hd := hp _ (List.mem_singleton.2 rfl); have hdn := hpn _ (List.mem_singleton.2 rfl); simp only at hd hdn; clear hp hpn
      have hcs := And.intro (c1 d) (And.intro (c2 d) True.intro)
      clear c1 c2
      refine Wk ?_
      refine go_resultW [(d, deckBox l j2)] (by simp (disch := omega) [go_sem, *, -List.reduceReplicate]; rfl) (by first | rfl | (simp (disch := omega) [go_sem]; done) | (simp (disch := omega) [go_sem, *]; done) | simp (disch := omega) [go_sem]) (fun id hid => by simp only [wr_cons, wr_nil]; try (by_cases hdd : id = d; (· (subst hdd; simp (disch := omega) [go_sem, *])); (· (simp (disch := omega) only [upd_ne]; try (first | exact hlow id hid hdd | exact hlow id hid))))) (by simp) (by simp (disch := omega) [go_sem, *])

set_option maxHeartbeats 4000000 in
theorem mask32_ex (l : List Int) (i : Nat) (h : Dk l i) :
    ∃ (m : Int) (j : Nat), 0 < m ∧ m < 2 ^ 32 ∧ Dk l j ∧ ∀ d k, ACall Tryd.prog 82 [.ptr d [] 0, .lit (.int .i64 32)] k [(d, deckBox l i)] (.lit (.int .u64 m)) [(d, deckBox l j)] := by
  obtain ⟨x, j1, x1, d1, c1⟩ := Next_at l i 3 h (by omega) (by omega)
  have hx : x = 0 ∨ x = 1 ∨ x = 2 := by omega
  rcases hx with rfl | rfl | rfl
  · obtain ⟨a, j2, a1, d2, c2⟩ := Next_at l j1 16 d1 (by omega) (by omega)
    obtain ⟨v, hv⟩ : ∃ v : Int, (a : Int) = v := ⟨_, rfl⟩
    have v0 : 0 ≤ v := by omega
    have v1 : v < 18446744073709551616 := by omega
    have hvw : IntKind.u64.wrap v = v := wrap_u64r v0 (by omega)
    have ha := u64_and32 v v0 v1
    obtain ⟨w, hw⟩ : ∃ w, v % 4294967296 = w := ⟨_, rfl⟩
    have w0 : 0 ≤ w := by omega
    have w1 : w < 4294967296 := by omega
    rw [hw] at ha
    by_cases hz : w = 0
    · obtain ⟨y, j9, y1, d9, c9⟩ := Next_at l j2 32 d2 (by omega) (by omega)
      obtain ⟨p, hp1, hp2, hp3⟩ := pow_lt y 32 y1 (by omega)
      have hmn : min y 64 = y := by omega
      refine ⟨p, j9, hp2, hp3, d9, fun d k => ?_⟩
      have hpw : IntKind.u64.wrap p = p := wrap_u64r (by omega) (by simp at hp3; omega)
      have hyw : IntKind.u64.wrap (y : Int) = y := wrap_u64r (by omega) (by omega)
      have hzb : (w == 0) = true := by simp [hz]
      refine ACall.of_body mixed Tryd.func82 rfl (by kernel_rfl) Tryd.ntmps82 (by kernel_rfl) rfl (by simp) (by simp) (by simp) fun σ N hp hpn hk hkn hfree => ?_
      have hd := hp _ (List.mem_singleton.2 rfl); have hdn := hpn _ (List.mem_singleton.2 rfl); simp only at hd hdn; clear hp hpn
      have hcs := And.intro (c1 d) (And.intro (c2 d) (And.intro (c9 d) True.intro))
      clear c1 c2 c9
      refine Wk ?_
      refine go_resultW [(d, deckBox l j9)] (by simp (disch := omega) [go_sem, *, -List.reduceReplicate]; rfl) (by first | rfl | (simp (disch := omega) [go_sem]; done) | (simp (disch := omega) [go_sem, *]; done) | simp (disch := omega) [go_sem]) (fun id hid => by simp only [wr_cons, wr_nil]; try (by_cases hdd : id = d; (· (subst hdd; simp (disch := omega) [go_sem, *])); (· (simp (disch := omega) only [upd_ne]; try (first | exact hlow id hid hdd | exact hlow id hid))))) (by simp) (by simp (disch := omega) [go_sem, *])
    · have hzb : (w == 0) = false := by simp [hz]
      refine ⟨w, j2, by omega, by simp; omega, d2, fun d k => ?_⟩
      refine ACall.of_body mixed Tryd.func82 rfl (by kernel_rfl) Tryd.ntmps82 (by kernel_rfl) rfl (by simp) (by simp) (by simp) fun σ N hp hpn hk hkn hfree => ?_
      have hd := hp _ (List.mem_singleton.2 rfl); have hdn := hpn _ (List.mem_singleton.2 rfl); simp only at hd hdn; clear hp hpn
      have hcs := And.intro (c1 d) (And.intro (c2 d) True.intro)
      clear c1 c2
      refine Wk ?_
      refine go_resultW [(d, deckBox l j2)] (by simp (disch := omega) [go_sem, *, -List.reduceReplicate]; rfl) (by first | rfl | (simp (disch := omega) [go_sem]; done) | (simp (disch := omega) [go_sem, *]; done) | simp (disch := omega) [go_sem]) (fun id hid => by simp only [wr_cons, wr_nil]; try (by_cases hdd : id = d; (· (subst hdd; simp (disch := omega) [go_sem, *])); (· (simp (disch := omega) only [upd_ne]; try (first | exact hlow id hid hdd | exact hlow id hid))))) (by simp) (by simp (disch := omega) [go_sem, *])
  · obtain ⟨a, j2, a1, d2, c2⟩ := Next_at l j1 65536 d1 (by omega) (by omega)
    obtain ⟨b, j3, b1, d3, c3⟩ := Next_at l j2 65536 d2 (by omega) (by omega)
    obtain ⟨v, hv⟩ : ∃ v : Int, bits .or .u64 (a : Int) ((b : Int) * 281474976710656) = v := ⟨_, rfl⟩
    obtain ⟨v0, v1⟩ := u64_bits_range .or (a : Int) ((b : Int) * 281474976710656)
    rw [hv] at v0 v1
    have haw : IntKind.u64.wrap (a : Int) = a := wrap_u64r (by omega) (by omega)
    have hbw : IntKind.u64.wrap (b : Int) = b := wrap_u64r (by omega) (by omega)
    have hbs : IntKind.u64.wrap ((b : Int) * 281474976710656) = (b : Int) * 281474976710656 := wrap_u64r (by omega) (by omega)
    have ha := u64_and32 v v0 v1
    obtain ⟨w, hw⟩ : ∃ w, v % 4294967296 = w := ⟨_, rfl⟩
    have w0 : 0 ≤ w := by omega
    have w1 : w < 4294967296 := by omega
    rw [hw] at ha
    by_cases hz : w = 0
    · obtain ⟨y, j9, y1, d9, c9⟩ := Next_at l j3 32 d3 (by omega) (by omega)
      obtain ⟨p, hp1, hp2, hp3⟩ := pow_lt y 32 y1 (by omega)
      have hmn : min y 64 = y := by omega
      refine ⟨p, j9, hp2, hp3, d9, fun d k => ?_⟩
      have hpw : IntKind.u64.wrap p = p := wrap_u64r (by omega) (by simp at hp3; omega)
      have hyw : IntKind.u64.wrap (y : Int) = y := wrap_u64r (by omega) (by omega)
      have hzb : (w == 0) = true := by simp [hz]
      refine ACall.of_body mixed Tryd.func82 rfl (by kernel_rfl) Tryd.ntmps82 (by kernel_rfl) rfl (by simp) (by simp) (by simp) fun σ N hp hpn hk hkn hfree => ?_
      have hd := hp _ (List.mem_singleton.2 rfl); have hdn := hpn _ (List.mem_singleton.2 rfl); simp only at hd hdn; clear hp hpn
      have hcs := And.intro (c1 d) (And.intro (c2 d) (And.intro (c3 d) (And.intro (c9 d) True.intro)))
      clear c1 c2 c3 c9
      refine Wk ?_
      refine go_resultW [(d, deckBox l j9)] (by simp (disch := omega) [go_sem, *, -List.reduceReplicate]; rfl) (by first | rfl | (simp (disch := omega) [go_sem]; done) | (simp (disch := omega) [go_sem, *]; done) | simp (disch := omega) [go_sem]) (fun id hid => by simp only [wr_cons, wr_nil]; try (by_cases hdd : id = d; (· (subst hdd; simp (disch := omega) [go_sem, *])); (· (simp (disch := omega) only [upd_ne]; try (first | exact hlow id hid hdd | exact hlow id hid))))) (by simp) (by simp (disch := omega) [go_sem, *])
    · have hzb : (w == 0) = false := by simp [hz]
      refine ⟨w, j3, by omega, by simp; omega, d3, fun d k => ?_⟩
      refine ACall.of_body mixed Tryd.func82 rfl (by kernel_rfl) Tryd.ntmps82 (by kernel_rfl) rfl (by simp) (by simp) (by simp) fun σ N hp hpn hk hkn hfree => ?_
      have hd := hp _ (List.mem_singleton.2 rfl); have hdn := hpn _ (List.mem_singleton.2 rfl); simp only at hd hdn; clear hp hpn
      have hcs := And.intro (c1 d) (And.intro (c2 d) (And.intro (c3 d) True.intro))
      clear c1 c2 c3
      refine Wk ?_
      refine go_resultW [(d, deckBox l j3)] (by simp (disch := omega) [go_sem, *, -List.reduceReplicate]; rfl) (by first | rfl | (simp (disch := omega) [go_sem]; done) | (simp (disch := omega) [go_sem, *]; done) | simp (disch := omega) [go_sem]) (fun id hid => by simp only [wr_cons, wr_nil]; try (by_cases hdd : id = d; (· (subst hdd; simp (disch := omega) [go_sem, *])); (· (simp (disch := omega) only [upd_ne]; try (first | exact hlow id hid hdd | exact hlow id hid))))) (by simp) (by simp (disch := omega) [go_sem, *])
  · obtain ⟨a, j2, a1, d2, c2⟩ := Next_at l j1 65536 d1 (by omega) (by omega)
    obtain ⟨v, hv⟩ : ∃ v : Int, bits .xor .u64 18446744073709551615 (a : Int) = v := ⟨_, rfl⟩
    obtain ⟨v0, v1⟩ := u64_bits_range .xor 18446744073709551615 (a : Int)
    rw [hv] at v0 v1
    have haw : IntKind.u64.wrap (a : Int) = a := wrap_u64r (by omega) (by omega)
    have hsx : (if IntKind.u64.signed = true then (-1 : Int) else IntKind.u64.max) = 18446744073709551615 := by decide
    have ha := u64_and32 v v0 v1
    obtain ⟨w, hw⟩ : ∃ w, v % 4294967296 = w := ⟨_, rfl⟩
    have w0 : 0 ≤ w := by omega
    have w1 : w < 4294967296 := by omega
    rw [hw] at ha
    by_cases hz : w = 0
    · obtain ⟨y, j9, y1, d9, c9⟩ := Next_at l j2 32 d2 (by omega) (by omega)
      obtain ⟨p, hp1, hp2, hp3⟩ := pow_lt y 32 y1 (by omega)
      have hmn : min y 64 = y := by omega
      refine ⟨p, j9, hp2, hp3, d9, fun d k => ?_⟩
      have hpw : IntKind.u64.wrap p = p := wrap_u64r (by omega) (by simp at hp3; omega)
      have hyw : IntKind.u64.wrap (y : Int) = y := wrap_u64r (by omega) (by omega)
      have hzb : (w == 0) = true := by simp [hz]
      refine ACall.of_body mixed Tryd.func82 rfl (by kernel_rfl) Tryd.ntmps82 (by kernel_rfl) rfl (by simp) (by simp) (by simp) fun σ N hp hpn hk hkn hfree => ?_
      have hd := hp _ (List.mem_singleton.2 rfl); have hdn := hpn _ (List.mem_singleton.2 rfl); simp only at hd hdn; clear hp hpn
      have hcs := And.intro (c1 d) (And.intro (c2 d) (And.intro (c9 d) True.intro))
      clear c1 c2 c9
      refine Wk ?_
      refine go_resultW [(d, deckBox l j9)] (by simp (disch := omega) [go_sem, *, -List.reduceReplicate]; rfl) (by first | rfl | (simp (disch := omega) [go_sem]; done) | (simp (disch := omega) [go_sem, *]; done) | simp (disch := omega) [go_sem]) (fun id hid => by simp only [wr_cons, wr_nil]; try (by_cases hdd : id = d; (· (subst hdd; simp (disch := omega) [go_sem, *])); (· (simp (disch := omega) only [upd_ne]; try (first | exact hlow id hid hdd | exact hlow id hid))))) (by simp) (by simp (disch := omega) [go_sem, *])
    · have hzb : (w == 0) = false := by simp [hz]
      refine ⟨w, j2, by omega, by simp; omega, d2, fun d k => ?_⟩
      refine ACall.of_body mixed Tryd.func82 rfl (by kernel_rfl) Tryd.ntmps82 (by kernel_rfl) rfl (by simp) (by simp) (by simp) fun σ N hp hpn hk hkn hfree => ?_
      have hd := hp _ (List.mem_singleton.2 rfl); have hdn := hpn _ (List.mem_singleton.2 rfl); simp only at hd hdn; clear hp hpn
      have hcs := And.intro (c1 d) (And.intro (c2 d) True.intro)
      clear c1 c2
      refine Wk ?_
      refine go_resultW [(d, deckBox l j2)] (by simp (disch := omega) [go_sem, *, -List.reduceReplicate]; rfl) (by first | rfl | (simp (disch := omega) [go_sem]; done) | (simp (disch := omega) [go_sem, *]; done) | simp (disch := omega) [go_sem]) (fun id hid => by simp only [wr_cons, wr_nil]; try (by_cases hdd : id = d; (· (subst hdd; simp (disch := omega) [go_sem, *])); (· (simp (disch := omega) only [upd_ne]; try (first | exact hlow id hid hdd | exact hlow id hid))))) (by simp) (by simp (disch := omega) [go_sem, *])

set_option maxHeartbeats 4000000 in
theorem mask7_ex (l : List Int) (i : Nat) (h : Dk l i) :
    ∃ (m : Int) (j : Nat), 0 < m ∧ m < 2 ^ 7 ∧ Dk l j ∧ ∀ d k, ACall Tryd.prog 82 [.ptr d [] 0, .lit (.int .i64 7)] k [(d, deckBox l i)] (.lit (.int .u64 m)) [(d, deckBox l j)] := by
  obtain ⟨x, j1, x1, d1, c1⟩ := Next_at l i 3 h (by omega) (by omega)
  have hx : x = 0 ∨ x = 1 ∨ x = 2 := by omega
  rcases hx with rfl | rfl | rfl
  · obtain ⟨a, j2, a1, d2, c2⟩ := Next_at l j1 16 d1 (by omega) (by omega)
    obtain ⟨v, hv⟩ : ∃ v : Int, (a : Int) = v := ⟨_, rfl⟩
    have v0 : 0 ≤ v := by omega
    have v1 : v < 18446744073709551616 := by omega
    have hvw : IntKind.u64.wrap v = v := wrap_u64r v0 (by omega)
    have ha := u64_and7 v v0 v1
    obtain ⟨w, hw⟩ : ∃ w, v % 128 = w := ⟨_, rfl⟩
    have w0 : 0 ≤ w := by omega
    have w1 : w < 128 := by omega
    rw [hw] at ha
    by_cases hz : w = 0
    · obtain ⟨y, j9, y1, d9, c9⟩ := Next_at l j2 7 d2 (by omega) (by omega)
      obtain ⟨p, hp1, hp2, hp3⟩ := pow_lt y 7 y1 (by omega)
      have hmn : min y 64 = y := by omega
      refine ⟨p, j9, hp2, hp3, d9, fun d k => ?_⟩
      have hpw : IntKind.u64.wrap p = p := wrap_u64r (by omega) (by simp at hp3; omega)
      have hyw : IntKind.u64.wrap (y : Int) = y := wrap_u64r (by omega) (by omega)
      have hzb : (w == 0) = true := by simp [hz]
      refine ACall.of_body mixed Tryd.func82 rfl (by kernel_rfl) Tryd.ntmps82 (by kernel_rfl) rfl (by simp) (by simp) (by simp) fun σ N hp hpn hk hkn hfree => ?_
      have hd := hp _ (List.mem_singleton.2 rfl); have hdn := hpn _ (List.mem_singleton.2 rfl); simp only at hd hdn; clear hp hpn
      have hcs := And.intro (c1 d) (And.intro (c2 d) (And.intro (c9 d) True.intro))
      clear c1 c2 c9
      refine Wk ?_
      refine go_resultW [(d, deckBox l j9)] (by simp (disch := omega) [go_sem, *, -List.reduceReplicate]; rfl) (by first | rfl | (simp (disch := omega) [go_sem]; done) | (simp (disch := omega) [go_sem, *]; done) | simp (disch := omega) [go_sem]) (fun id hid => by simp only [wr_cons, wr_nil]; try (by_cases hdd : id = d; (· (subst hdd; simp (disch := omega) [go_sem, *])); (· (simp (disch := omega) only [upd_ne]; try (first | exact hlow id hid hdd | exact hlow id hid))))) (by simp) (by simp (disch := omega) [go_sem, *])
    · have hzb : (w == 0) = false := by simp [hz]
      refine ⟨w, j2, by omega, by simp; omega, d2, fun d k => ?_⟩
      refine ACall.of_body mixed Tryd.func82 rfl (by kernel_rfl) Tryd.ntmps82 (by kernel_rfl) rfl (by simp) (by simp) (by simp) fun σ N hp hpn hk hkn hfree => ?_
      have hd := hp _ (List.mem_singleton.2 rfl); have hdn := hpn _ (List.mem_singleton.2 rfl); simp only at hd hdn; clear hp hpn
      have hcs := And.intro (c1 d) (And.intro (c2 d) True.intro)
      clear c1 c2
      refine Wk ?_
      refine go_resultW [(d, deckBox l j2)] (by simp (disch := omega) [go_sem, *, -List.reduceReplicate]; rfl) (by first | rfl | (simp (disch := omega) [go_sem]; done) | (simp (disch := omega) [go_sem, *]; done) | simp (disch := omega) [go_sem]) (fun id hid => by simp only [wr_cons, wr_nil]; try (by_cases hdd : id = d; (· (subst hdd; simp (disch := omega) [go_sem, *])); (· (simp (disch := omega) only [upd_ne]; try (first | exact hlow id hid hdd | exact hlow id hid))))) (by simp) (by simp (disch := omega) [go_sem, *])
  · obtain ⟨a, j2, a1, d2, c2⟩ := Next_at l j1 65536 d1 (by omega) (by omega)
    obtain ⟨b, j3, b1, d3, c3⟩ := Next_at l j2 65536 d2 (by omega) (by omega)
    obtain ⟨v, hv⟩ : ∃ v : Int, bits .or .u64 (a : Int) ((b : Int) * 281474976710656) = v := ⟨_, rfl⟩
    obtain ⟨v0, v1⟩ := u64_bits_range .or (a : Int) ((b : Int) * 281474976710656)
    rw [hv] at v0 v1
    have haw : IntKind.u64.wrap (a : Int) = a := wrap_u64r (by omega) (by omega)
    have hbw : IntKind.u64.wrap (b : Int) = b := wrap_u64r (by omega) (by omega)
    have hbs : IntKind.u64.wrap ((b : Int) * 281474976710656) = (b : Int) * 281474976710656 := wrap_u64r (by omega) (by omega)
    have ha := u64_and7 v v0 v1
    obtain ⟨w, hw⟩ : ∃ w, v % 128 = w := ⟨_, rfl⟩
    have w0 : 0 ≤ w := by omega
    have w1 : w < 128 := by omega
    rw [hw] at ha
    by_cases hz : w = 0
    · obtain ⟨y, j9, y1, d9, c9⟩ := Next_at l j3 7 d3 (by omega) (by omega)
      obtain ⟨p, hp1, hp2, hp3⟩ := pow_lt y 7 y1 (by omega)
      have hmn : min y 64 = y := by omega
      refine ⟨p, j9, hp2, hp3, d9, fun d k => ?_⟩
      have hpw : IntKind.u64.wrap p = p := wrap_u64r (by omega) (by simp at hp3; omega)
      have hyw : IntKind.u64.wrap (y : Int) = y := wrap_u64r (by omega) (by omega)
      have hzb : (w == 0) = true := by simp [hz]
      refine ACall.of_body mixed Tryd.func82 rfl (by kernel_rfl) Tryd.ntmps82 (by kernel_rfl) rfl (by simp) (by simp) (by simp) fun σ N hp hpn hk hkn hfree => ?_
      have hd := hp _ (List.mem_singleton.2 rfl); have hdn := hpn _ (List.mem_singleton.2 rfl); simp only at hd hdn; clear hp hpn
      have hcs := And.intro (c1 d) (And.intro (c2 d) (And.intro (c3 d) (And.intro (c9 d) True.intro)))
      clear c1 c2 c3 c9
      refine Wk ?_
      refine go_resultW [(d, deckBox l j9)] (by simp (disch := omega) [go_sem, *, -List.reduceReplicate]; rfl) (by first | rfl | (simp (disch := omega) [go_sem]; done) | (simp (disch := omega) [go_sem, *]; done) | simp (disch := omega) [go_sem]) (fun id hid => by simp only [wr_cons, wr_nil]; try (by_cases hdd : id = d; (· (subst hdd; simp (disch := omega) [go_sem, *])); (· (simp (disch := omega) only [upd_ne]; try (first | exact hlow id hid hdd | exact hlow id hid))))) (by simp) (by simp (disch := omega) [go_sem, *])
    · have hzb : (w == 0) = false := by simp [hz]
      refine ⟨w, j3, by omega, by simp; omega, d3, fun d k => ?_⟩
      refine ACall.of_body mixed Tryd.func82 rfl (by kernel_rfl) Tryd.ntmps82 (by kernel_rfl) rfl (by simp) (by simp) (by simp) fun σ N hp hpn hk hkn hfree => ?_
      have hd := hp _ (List.mem_singleton.2 rfl); have hdn := hpn _ (List.mem_singleton.2 rfl); simp only at hd hdn; clear hp hpn
      have hcs := And.intro (c1 d) (And.intro (c2 d) (And.intro (c3 d) True.intro))
      clear c1 c2 c3
      refine Wk ?_
      refine go_resultW [(d, deckBox l j3)] (by simp (disch := omega) [go_sem, *, -List.reduceReplicate]; rfl) (by first | rfl | (simp (disch := omega) [go_sem]; done) | (simp (disch := omega) [go_sem, *]; done) | simp (disch := omega) [go_sem]) (fun id hid => by simp only [wr_cons, wr_nil]; try (by_cases hdd : id = d; (· (subst hdd; simp (disch := omega) [go_sem, *])); (· (simp (disch := omega) only [upd_ne]; try (first | exact hlow id hid hdd | exact hlow id hid))))) (by simp) (by simp (disch := omega) [go_sem, *])
  · obtain ⟨a, j2, a1, d2, c2⟩ := Next_at l j1 65536 d1 (by omega) (by omega)
    obtain ⟨v, hv⟩ : ∃ v : Int, bits .xor .u64 18446744073709551615 (a : Int) = v := ⟨_, rfl⟩
    obtain ⟨v0, v1⟩ := u64_bits_range .xor 18446744073709551615 (a : Int)
    rw [hv] at v0 v1
    have haw : IntKind.u64.wrap (a : Int) = a := wrap_u64r (by omega) (by omega)
    have hsx : (if IntKind.u64.signed = true then (-1 : Int) else IntKind.u64.max) = 18446744073709551615 := by decide
    have ha := u64_and7 v v0 v1
    obtain ⟨w, hw⟩ : ∃ w, v % 128 = w := ⟨_, rfl⟩
    have w0 : 0 ≤ w := by omega
    have w1 : w < 128 := by omega
    rw [hw] at ha
    by_cases hz : w = 0
    · obtain ⟨y, j9, y1, d9, c9⟩ := Next_at l j2 7 d2 (by omega) (by omega)
      obtain ⟨p, hp1, hp2, hp3⟩ := pow_lt y 7 y1 (by omega)
      have hmn : min y 64 = y := by omega
      refine ⟨p, j9, hp2, hp3, d9, fun d k => ?_⟩
      have hpw : IntKind.u64.wrap p = p := wrap_u64r (by omega) (by simp at hp3; omega)
      have hyw : IntKind.u64.wrap (y : Int) = y := wrap_u64r (by omega) (by omega)
      have hzb : (w == 0) = true := by simp [hz]
      refine ACall.of_body mixed Tryd.func82 rfl (by kernel_rfl) Tryd.ntmps82 (by kernel_rfl) rfl (by simp) (by simp) (by simp) fun σ N hp hpn hk hkn hfree => ?_
      have hd := hp _ (List.mem_singleton.2 rfl); have hdn := hpn _ (List.mem_singleton.2 rfl); simp only at hd hdn; clear hp hpn
      have hcs := And.intro (c1 d) (And.intro (c2 d) (And.intro (c9 d) True.intro))
      clear c1 c2 c9
      refine Wk ?_
      refine go_resultW [(d, deckBox l j9)] (by simp (disch := omega) [go_sem, *, -List.reduceReplicate]; rfl) (by first | rfl | (simp (disch := omega) [go_sem]; done) | (simp (disch := omega) [go_sem, *]; done) | simp (disch := omega) [go_sem]) (fun id hid => by simp only [wr_cons, wr_nil]; try (by_cases hdd : id = d; (· (subst hdd; simp (disch := omega) [go_sem, *])); (· (simp (disch := omega) only [upd_ne]; try (first | exact hlow id hid hdd | exact hlow id hid))))) (by simp) (by simp (disch := omega) [go_sem, *])
    · have hzb : (w == 0) = false := by simp [hz]
      refine ⟨w, j2, by omega, by simp; omega, d2, fun d k => ?_⟩
      refine ACall.of_body mixed Tryd.func82 rfl (by kernel_rfl) Tryd.ntmps82 (by kernel_rfl) rfl (by simp) (by simp) (by simp) fun σ N hp hpn hk hkn hfree => ?_
      have hd := hp _ (List.mem_singleton.2 rfl); have hdn := hpn _ (List.mem_singleton.2 rfl); simp only at hd hdn; clear hp hpn
      have hcs := And.intro (c1 d) (And.intro (c2 d) True.intro)
      clear c1 c2
      refine Wk ?_
      refine go_resultW [(d, deckBox l j2)] (by simp (disch := omega) [go_sem, *, -List.reduceReplicate]; rfl) (by first | rfl | (simp (disch := omega) [go_sem]; done) | (simp (disch := omega) [go_sem, *]; done) | simp (disch := omega) [go_sem]) (fun id hid => by simp only [wr_cons, wr_nil]; try (by_cases hdd : id = d; (· (subst hdd; simp (disch := omega) [go_sem, *])); (· (simp (disch := omega) only [upd_ne]; try (first | exact hlow id hid hdd | exact hlow id hid))))) (by simp) (by simp (disch := omega) [go_sem, *])
end Go.Proofs.YtaelnglalpiemaaDoor
